/- The walk's reckoning: the rules. -/
import Derived.Test.YtdeihcabmpcaoaaGreatEvFun5ToBox
set_option linter.unusedSimpArgs false
set_option linter.unusedVariables false
namespace Go.Ev

def opA (T : Tab) (G : Env) (d : Option Tmp) (op : Op) (ty : TypeId) (avs : List AV) (m : Mem) (fr : Nat) : Eff := opEff T G ⟨d, op, ty, "", #[], none⟩ avs m fr
def gd (m : Mem) (c : Bool) (ok pp : Prop) (E : Eff) : Eff := ⟨ok ∧ pp ∧ (c = true → E.pre) ∧ (c = true → noop m E.u), .ifd c E.r, [], c = true → E.asm⟩
def bpick (e x y : Bool) : Bool := if e then x else y

section
variable {T : Tab} {G : Env} {all : List Oper} {op : Op} {ty : TypeId} {p : String} {af : Array Edge} {d : Option Tmp} {s : Nat → AV} {m : Mem} {fr j : Nat} {b : Bool} {avs : List AV} {x y z v : Operand} {z' : TypeId} {t : TypeId}

theorem stepE_none : stepE T G all ⟨d, op, ty, p, af, none⟩ s m fr = opA T G d op ty ((opsOf op).map (opd s)) m fr := rfl
theorem stepE_some : stepE T G all ⟨d, op, ty, p, af, some (j, b)⟩ s m fr =
 gd m (guardC all s j b) (guardOk all s j) (gPre (guardC all s j b) (isPk op) ((opsOf op).map (opd s))) (dem fr (opA T G d op ty (gAvs (isPk op) ((opsOf op).map (opd s))) m fr)) := rfl
section
variable {T : Tab} {G : Env} {all : List Oper} {m : Mem} {fr : Nat} {avs : List AV} {s : Nat → AV} {d : Option Tmp} {op : Op} {ty : TypeId} {p : String} {af : Array Edge} {g : Nat × Bool} {g' : Option (Nat × Bool)}
def gdM (g : Prop) (c : Bool) (k : Bool) (avs : List AV) (E : Eff) : Option Chc := some (gdC g c k avs E)
def gdO (T : Tab) (G : Env) (all : List Oper) (d : Option Tmp) (op : Op) (ty : TypeId) (p : String) (af : Array Edge) (j : Nat) (b : Bool) (s : Nat → AV) (m : Mem) (fr : Nat) : Nat → Option Chc
 | 4 => gdM (guardOk all s j) (guardC all s j b) (isPk op) ((opsOf op).map (opd s)) (opA T G d op ty (gAvs (isPk op) ((opsOf op).map (opd s))) m fr)
 | _ => none
theorem altO_some {j : Nat} {b : Bool} : altO T G all ⟨d, op, ty, p, af, some (j, b)⟩ s m fr = gdO T G all d op ty p af j b s m fr (wfOf G d) := by
 unfold gdO gdM
 show (if wfOf G d = 4 then _ else _) = _
 split
 · rename_i h; rw [h]; rfl
 · rename_i h; split
   · contradiction
   · rfl
theorem gdO_0 {j : Nat} {b : Bool} : gdO T G all d op ty p af j b s m fr 0 = none := rfl
theorem gdO_1 {j : Nat} {b : Bool} : gdO T G all d op ty p af j b s m fr 1 = none := rfl
theorem gdO_2 {j : Nat} {b : Bool} : gdO T G all d op ty p af j b s m fr 2 = none := rfl
theorem gdO_3 {j : Nat} {b : Bool} : gdO T G all d op ty p af j b s m fr 3 = none := rfl
theorem gdO_4 {j : Nat} {b : Bool} : gdO T G all d op ty p af j b s m fr 4 = gdM (guardOk all s j) (guardC all s j b) (isPk op) ((opsOf op).map (opd s)) (opA T G d op ty (gAvs (isPk op) ((opsOf op).map (opd s))) m fr) := rfl
section
variable {X : Wk} {os : List Oper} {s : Slots} {m : Heap} {k : List Itm} {j : Nat} {b : Bool}
def stH (X : Wk) (all os : List Oper) (d : Option Tmp) (s : Slots) (m : Heap) (fr : Nat) (k : List Itm) (g : Prop) (c : Bool) (gp : Prop) (E : Eff) : Prop :=
 (g ∧ gp ∧ (c = true → E.pre)) ∧ (c = false → evO X all os (putS s d (.ifd false E.r)) m (fr + 32) k) ∧ (c = true → E.asm → evO X all os (putS s d (.ifd true E.r)) (setMany m E.u) (fr + 32) k)
theorem stH_mk {g gp p q : Prop} {c : Bool} {r : AV} {u : Heap} : stH X all os d s m fr k g c gp ⟨p, r, u, q⟩ = ((g ∧ gp ∧ (c = true → p)) ∧ (c = false → evO X all os (putS s d (.ifd false r)) m (fr + 32) k) ∧ (c = true → q → evO X all os (putS s d (.ifd true r)) (setMany m u) (fr + 32) k)) := rfl
theorem stX_gdM {o : Oper} {g : Prop} {c pk : Bool} {avs : List AV} {E : Eff} : stX X all os o s m fr k (gdM g c pk avs E) = stH X all os o.dst s m fr k g c (gPre c pk avs) E := by
 unfold stH
 refine propext ⟨fun h => ⟨h.1, fun e => h.2 Two.n e, fun e q => h.2 Two.y ⟨e, q⟩⟩, fun h => ⟨h.1, fun q e => ?_⟩⟩
 cases q with
 | n => exact h.2.1 e
 | y => exact h.2.2 e.1 e.2
end
theorem alt_move {x} : altO T G all ⟨d, (.move x), ty, p, af, none⟩ s m fr = none := rfl
theorem alt_assign {x} : altO T G all ⟨d, (.assign x), ty, p, af, none⟩ s m fr = none := rfl
theorem alt_pick {x y z} : altO T G all ⟨d, (.pick x y z), ty, p, af, none⟩ s m fr = none := rfl
theorem alt_box {x y} : altO T G all ⟨d, (.box x y), ty, p, af, none⟩ s m fr = none := rfl
theorem alt_load {x y} : altO T G all ⟨d, (.load x y), ty, p, af, none⟩ s m fr = none := rfl
theorem alt_nilCheck {x} : altO T G all ⟨d, (.nilCheck x), ty, p, af, none⟩ s m fr = none := rfl
theorem alt_unOp {x y z} : altO T G all ⟨d, (.unOp x y z), ty, p, af, none⟩ s m fr = none := rfl
theorem alt_convert {x y z} : altO T G all ⟨d, (.convert x y z), ty, p, af, none⟩ s m fr = none := rfl
theorem alt_fieldAddr {x y z} : altO T G all ⟨d, (.fieldAddr x y z), ty, p, af, none⟩ s m fr = none := rfl
theorem alt_field {x y z} : altO T G all ⟨d, (.field x y z), ty, p, af, none⟩ s m fr = none := rfl
theorem alt_extract {x y} : altO T G all ⟨d, (.extract x y), ty, p, af, none⟩ s m fr = none := rfl
theorem alt_build {x y} : altO T G all ⟨d, (.build x y), ty, p, af, none⟩ s m fr = none := rfl
theorem alt_buildSlice {x y z} : altO T G all ⟨d, (.buildSlice x y z), ty, p, af, none⟩ s m fr = none := rfl
theorem alt_store {x y z} : altO T G all ⟨d, (.store x y z), ty, p, af, none⟩ s m fr = none := rfl
theorem alt_alloc {x} : altO T G all ⟨d, (.alloc x), ty, p, af, none⟩ s m fr = none := rfl
theorem alt_indexAddr {x y z} : altO T G all ⟨d, (.indexAddr x y z), ty, p, af, none⟩ s m fr = none := rfl
theorem alt_index {x y z} : altO T G all ⟨d, (.index x y z), ty, p, af, none⟩ s m fr = none := rfl
theorem alt_mapEntry {x y z} : altO T G all ⟨d, (.mapEntry x y z), ty, p, af, none⟩ s m fr = none := rfl
theorem alt_entryStore {x y z u} : altO T G all ⟨d, (.entryStore x y z u), ty, p, af, none⟩ s m fr = none := rfl
theorem alt_lookup {x y z u} : altO T G all ⟨d, (.lookup x y z u), ty, p, af, none⟩ s m fr = none := rfl
theorem alt_slice {x y z u v} : altO T G all ⟨d, .slice x y z u v, ty, p, af, none⟩ s m fr = chkC (opA T G d (.slice x y z u v) ty ((opsOf (.slice x y z u v)).map (opd s)) m fr) (noDst all d) := rfl
theorem noDst_some {i : Nat} : noDst all (some i) = noRead i all := rfl
theorem noDst_none : noDst all none = true := rfl
theorem noRead_nil {i : Nat} : noRead i [] = true := rfl
theorem noRead_cons {i : Nat} {os : List Oper} : noRead i (⟨d, op, ty, p, af, g'⟩ :: os) = (noR i (opsOf op) && noRead i os) := rfl
theorem noR_nil {i : Nat} : noR i [] = true := rfl
theorem noR_tmp {i t : Nat} {xs : List Operand} : noR i (.tmp t :: xs) = (!(t == i) && noR i xs) := by
 simp only [noR]
 cases h : (t == i) with
 | true => have := eq_of_beq h; simp [this]
 | false => have := ne_of_beq_false h; simp [this]
theorem noR_const {i : Nat} {v : Value} {xs : List Operand} : noR i (.const v :: xs) = noR i xs := rfl
theorem noR_glob {i : Nat} {v} {xs : List Operand} : noR i (.global v :: xs) = noR i xs := rfl
theorem noR_func {i : Nat} {v} {xs : List Operand} : noR i (.func v :: xs) = noR i xs := rfl
theorem chkC_t {p q : Prop} {r : AV} {u : Heap} : chkC ⟨p, r, u, q⟩ true = some ⟨Unit, p, fun _ => .one .undef, fun _ => [], fun _ => True⟩ := rfl
theorem chkC_f {E : Eff} : chkC E false = none := rfl
theorem alt_insert {x y z u} : altO T G all ⟨d, (.insert x y z u), ty, p, af, none⟩ s m fr = none := rfl
theorem alt_mapUpdate {x y z u} : altO T G all ⟨d, (.mapUpdate x y z u), ty, p, af, none⟩ s m fr = none := rfl
theorem alt_makeFunc {x y z} : altO T G all ⟨d, (.makeFunc x y z), ty, p, af, none⟩ s m fr = none := rfl
theorem alt_makeSlice {x y z} : altO T G all ⟨d, (.makeSlice x y z), ty, p, af, none⟩ s m fr = none := rfl
theorem alt_makeMap {x y} : altO T G all ⟨d, (.makeMap x y), ty, p, af, none⟩ s m fr = none := rfl
theorem alt_call_b {b a t} : altO T G all ⟨d, (.call ⟨.builtin b, a, t⟩), ty, p, af, none⟩ s m fr = if wfOf G d = 7 then queO T (.call ⟨.builtin b, a, t⟩) ((opsOf ((.call ⟨.builtin b, a, t⟩))).map (opd s)) m fr else none := rfl
theorem queO_app {a t} : queO T (.call ⟨.builtin .append, a, t⟩) avs m fr = queV T t m fr avs := rfl
theorem queV_mk {t id sz lo len} {c : C1} : queV T #[t, t] m fr [.one (.win id sz lo len), .one c] = queC T m fr id sz lo len c (TI.of T t).desc := by simp [queV]
theorem alt_call {f a t} : altO T G all ⟨d, (.call ⟨.value f, a, t⟩), ty, p, af, none⟩ s m fr = altC G m fr ((opsOf ((.call ⟨.value f, a, t⟩))).map (opd s)) := rfl
theorem alt_bin {o t x y u} : altO T G all ⟨d, (.binOp o t x y u), ty, p, af, none⟩ s m fr = altB m o y ((opsOf ((.binOp o t x y u))).map (opd s)) (TI.of T t).desc := rfl
theorem altB_tmp {o t D} : altB m o (.tmp t) avs D = none := by cases o <;> rfl
theorem altB_int {o k n D} : altB m o (.const (.int k n)) avs D = none := by cases o <;> rfl
theorem altB_bool {o b D} : altB m o (.const (.bool b)) avs D = none := by cases o <;> rfl
theorem altB_str {o b D} : altB m o (.const (.string b)) avs D = none := by cases o <;> rfl
theorem altB_agg {o b D} : altB m o (.const (.agg b)) avs D = none := by cases o <;> rfl
theorem altB_nil {c v e} : altB m .eql (.const (.slice none 0 0)) [.one c, v] (.slice e) = nilChc true (lenOf m c) := rfl
theorem altB_nnil {c v e} : altB m .neq (.const (.slice none 0 0)) [.one c, v] (.slice e) = nilChc false (lenOf m c) := rfl
theorem nilChc_some {q n} : nilChc q (some n) = some ⟨Bool, True, fun b => .one (.bool b), fun _ => [], fun b => b = q → n = 0⟩ := rfl
def altF (args : List AV) (m : Mem) (fr : Nat) : Option RCtr → Option Chc
 | some C => some (C args m fr)
 | none => none
theorem capA_pk {cs : List C1} : capA (.pk cs) = .agg cs := rfl
theorem capA_loc {i o : Nat} : capA (.loc i o) = .one (.loc i o) := rfl
theorem capA_fn {f : FuncId} {c : List C1} : capA (.fn f c) = .one (.fn f c) := rfl
theorem capA_int {k : IntKind} {n : Int} : capA (.int k n) = .one (.int k n) := rfl
theorem capA_bool {b : Bool} : capA (.bool b) = .one (.bool b) := rfl
theorem capA_str {b : ByteArray} : capA (.str b) = .one (.str b) := rfl
theorem capA_sl {t : Ty} {xs : List t.den} {b : Bool} : capA (.sl t xs b) = .one (.sl t xs b) := rfl
theorem capA_row {i : Nat} : capA (.row i) = .one (.row i) := rfl
theorem capA_win {a b c d : Nat} : capA (.win a b c d) = .one (.win a b c d) := rfl
theorem capA_map {i : Nat} : capA (.map i) = .one (.map i) := rfl
theorem capA_ep {a b d : Nat} {i : Int} : capA (.ep a b i d) = .one (.ep a b i d) := rfl
theorem capA_mv {f : FuncId} {c : List C1} : capA (.mv f c) = .one (.mv f c) := rfl
theorem altC_mv {f caps as} : altC G m fr (.one (.mv f caps) :: as) = none := rfl
attribute [go_sem] capA_mv altC_mv
theorem capA_nilsl : capA .nilsl = .one .nilsl := rfl
theorem capA_nilp : capA .nilp = .one .nilp := rfl
theorem capA_nilfn : capA .nilfn = .one .nilfn := rfl
theorem capA_undef : capA .undef = .one .undef := rfl
theorem capA_rp {t : Ty} {x : t.den} {o : Nat} : capA (.rp t x o) = .one (.rp t x o) := rfl
attribute [go_sem] capA_pk capA_loc capA_fn capA_int capA_bool capA_str capA_sl capA_row capA_win capA_map capA_ep capA_nilsl capA_nilp capA_nilfn capA_undef capA_rp funsE isFn isOne
theorem altC_fn {f caps as} : altC G m fr (.one (.fn f caps) :: as) = altF (as ++ caps.map capA) m fr (findL G.r f) := by
 simp only [altC]; cases findL G.r f <;> rfl
theorem altF_none {args} : altF args m fr none = none := rfl
theorem altF_some {args} {C : RCtr} : altF args m fr (some C) = some (C args m fr) := rfl
end
theorem dem_nil {fr : Nat} {p q : Prop} {r : AV} : dem fr ⟨p, r, [], q⟩ = ⟨p, r, [], q⟩ := rfl
theorem dem_row {fr k k' e : Nat} {p q : Prop} {t : Ty} {xs : List t.den} : dem fr ⟨p, .one (.row k'), [(k, .row e t xs)], q⟩ = if k = fr ∧ k' = fr then ⟨p, .one (.sl t xs false), [], q⟩ else ⟨p, .one (.row k'), [(k, .row e t xs)], q⟩ := rfl
theorem dem_int {fr : Nat} {p q : Prop} {kk : IntKind} {n : Int} {u : Heap} : dem fr ⟨p, .one (.int kk n), u, q⟩ = ⟨p, .one (.int kk n), u, q⟩ := by
 unfold dem; split
 · rename_i h; cases h
 · rfl
theorem dem_bool {fr : Nat} {p q : Prop} {n : Bool} {u : Heap} : dem fr ⟨p, .one (.bool n), u, q⟩ = ⟨p, .one (.bool n), u, q⟩ := by
 unfold dem; split
 · rename_i h; cases h
 · rfl
theorem noop_nil {m : Mem} : noop m [] = True := rfl
theorem noop_cons {m : Mem} {p : Nat × Blk} {u : Heap} : noop m (p :: u) = (m p.1 = p.2 ∧ noop m u) := rfl
theorem gd_mk {m : Mem} {c : Bool} {ok pp p q : Prop} {r : AV} {u : Heap} : gd m c ok pp ⟨p, r, u, q⟩ = ⟨ok ∧ pp ∧ (c = true → p) ∧ (c = true → noop m u), .ifd c r, [], c = true → q⟩ := rfl
theorem bpick_or {e y : Bool} : bpick e true y = (e || y) := by cases e <;> rfl
theorem bpick_and {e x : Bool} : bpick e x false = (e && x) := by cases e <;> simp [bpick]
theorem bpick_not {e : Bool} : bpick e false true = !e := by cases e <;> rfl

def mvW (m : Mem) (fr : Nat) (v : AV) : Nat → Eff
 | 0 => okr v
 | _ + 1 => mvE m fr v
theorem opA_move {v : AV} : opA T G d (.move x) ty [v] m fr = mvW m fr v (wfOf G d) := by
 simp only [opA, opEff, mvW]
 cases wfOf G d <;> rfl
theorem fullE_row {id : Nat} : fullE m (.one (.row id)) = (match m id with
 | .row _ u xs => ⟨True, .one (.win id u.n 0 xs.length), [], True⟩
 | _ => bad) := rfl
theorem nilRE_nil : nilRE T ty fr (.one .nilsl) = (match (TI.of T ty).desc with
 | .slice e => (match (TI.of T e).ty with
   | some t => ⟨True, .one (.row fr), [(fr, .row e t [])], True⟩
   | none => bad)
 | _ => bad) := rfl
theorem nilRE_row {id : Nat} : nilRE T ty fr (.one (.row id)) = okr (.one (.row id)) := rfl
theorem fullE_win {a b c e : Nat} : fullE m (.one (.win a b c e)) = okr (.one (.win a b c e)) := rfl
theorem opA_assign_tmp {v : AV} {t : Tmp} : opA T G d (.assign (.tmp t)) ty [v] m fr = if wfOf G d = 1 then fullE m v else if wfOf G d = 2 then nilRE T ty fr v else okr v := rfl
theorem opA_assign_func {v : AV} {f : FuncId} : opA T G d (.assign (.func f)) ty [v] m fr = if wfOf G d = 1 then fullE m v else if wfOf G d = 2 then nilRE T ty fr v else okr v := rfl
theorem opA_assign_int {v : AV} {k : IntKind} {n : Int} : opA T G d (.assign (.const (.int k n))) ty [v] m fr = if wfOf G d = 1 then fullE m v else if wfOf G d = 2 then nilRE T ty fr v else okr v := rfl
theorem opA_assign_bool {v : AV} {q : Bool} : opA T G d (.assign (.const (.bool q))) ty [v] m fr = if wfOf G d = 1 then fullE m v else if wfOf G d = 2 then nilRE T ty fr v else okr v := rfl
theorem opA_assign_str {v : AV} {q : ByteArray} : opA T G d (.assign (.const (.string q))) ty [v] m fr = if wfOf G d = 1 then fullE m v else if wfOf G d = 2 then nilRE T ty fr v else okr v := rfl
theorem opA_assign_agg {v : AV} {q : Array Value} : opA T G d (.assign (.const (.agg q))) ty [v] m fr = if wfOf G d = 1 then fullE m v else if wfOf G d = 2 then nilRE T ty fr v else okr v := rfl
theorem opA_assign_ptr {v : AV} : opA T G d (.assign (.const (.pointer none))) ty [v] m fr = if wfOf G d = 1 then fullE m v else if wfOf G d = 2 then nilRE T ty fr v else okr v := rfl
theorem opA_assign_map {v : AV} : opA T G d (.assign (.const (.map none))) ty [v] m fr = if wfOf G d = 1 then fullE m v else if wfOf G d = 2 then nilRE T ty fr v else okr v := rfl
theorem opA_assign_nilfn {v : AV} : opA T G d (.assign (.const .nilFunc)) ty [v] m fr = if wfOf G d = 1 then fullE m v else if wfOf G d = 2 then nilRE T ty fr v else okr v := rfl
def nilE (T : Tab) (fr : Nat) : TD → Eff
 | .slice e => (match (TI.of T e).ty with | some t => ⟨True, .one (.row fr), [(fr, .row e t [])], True⟩ | none => bad)
 | _ => bad
def nilGE (T : Tab) (md fr : Nat) : TD → Eff
 | .slice e => (match (TI.of T e).ty with | some t => nilG (md - 8) fr e t (slAt t) | none => bad)
 | _ => bad
theorem opA_assign_nil {v : AV} : opA T G d (.assign (.const (.slice none 0 0))) ty [v] m fr = if 8 ≤ wfOf G d then nilGE T (wfOf G d) fr (TI.of T ty).desc else nilE T fr (TI.of T ty).desc := by
 simp only [opA, opEff, nilE, nilGE, nilC, if_true]
 cases (TI.of T ty).desc with
 | slice e =>
   simp only
   cases (TI.of T e).ty with
   | none => simp
   | some t => rfl
 | _ => simp
def ixE (q : ByteArray) (i : Int) : TD → Eff
 | .str => ⟨0 ≤ i ∧ i < q.size, .one (.int .u8 (byteAt q i)), [], True⟩
 | _ => bad
theorem opA_index {q : ByteArray} {k : IntKind} {i : Int} : opA T G d (.index t x y) ty [.one (.str q), .one (.int k i)] m fr = ixE q i (TI.of T t).desc := by
 simp only [opA, opEff, ixE]
 try (cases (TI.of T t).desc <;> rfl)
theorem opA_pick {a b c : AV} : opA T G d (.pick x y z) ty [a, b, c] m fr = pickE (pickV a) (pickV b) (pickV c) := rfl
theorem pickV_one {b : Bool} : pickV (.one (.bool b)) = some (true, b) := rfl
theorem pickV_ifd {c b : Bool} : pickV (.ifd c (.one (.bool b))) = some (c, b) := rfl
theorem pickE_mk {ce e cx x cy y : Bool} : pickE (some (ce, e)) (some (cx, x)) (some (cy, y)) = ⟨ce = true ∧ (e = true → cx = true) ∧ (e = false → cy = true), .one (.bool (bpick e x y)), [], True⟩ := rfl
theorem gAvs_t {l : List AV} : gAvs true l = l := rfl
theorem gAvs_f {l : List AV} : gAvs false l = l.map stripV := rfl
theorem gPre_t {c : Bool} {l : List AV} : gPre c true l = True := rfl
theorem gPre_f {c : Bool} {l : List AV} : gPre c false l = allP (l.map (stripP c)) := rfl
theorem isPk_move {x} : isPk (.move x) = false := rfl
theorem isPk_assign {x} : isPk (.assign x) = false := rfl
theorem isPk_pick {x y z} : isPk (.pick x y z) = true := rfl
theorem isPk_box {x y} : isPk (.box x y) = false := rfl
theorem isPk_load {x y} : isPk (.load x y) = false := rfl
theorem isPk_nilCheck {x} : isPk (.nilCheck x) = false := rfl
theorem isPk_unOp {x y z} : isPk (.unOp x y z) = false := rfl
theorem isPk_convert {x y z} : isPk (.convert x y z) = false := rfl
theorem isPk_fieldAddr {x y z} : isPk (.fieldAddr x y z) = false := rfl
theorem isPk_field {x y z} : isPk (.field x y z) = false := rfl
theorem isPk_extract {x y} : isPk (.extract x y) = false := rfl
theorem isPk_build {x y} : isPk (.build x y) = false := rfl
theorem isPk_buildSlice {x y z} : isPk (.buildSlice x y z) = false := rfl
theorem isPk_store {x y z} : isPk (.store x y z) = false := rfl
theorem isPk_alloc {x} : isPk (.alloc x) = false := rfl
theorem isPk_indexAddr {x y z} : isPk (.indexAddr x y z) = false := rfl
theorem isPk_index {x y z} : isPk (.index x y z) = false := rfl
theorem isPk_mapEntry {x y z} : isPk (.mapEntry x y z) = false := rfl
theorem isPk_entryStore {x y z u} : isPk (.entryStore x y z u) = false := rfl
theorem isPk_lookup {x y z u} : isPk (.lookup x y z u) = false := rfl
theorem isPk_slice {x y z u v} : isPk (.slice x y z u v) = false := rfl
theorem isPk_insert {x y z u} : isPk (.insert x y z u) = false := rfl
theorem isPk_mapUpdate {x y z u} : isPk (.mapUpdate x y z u) = false := rfl
theorem isPk_makeFunc {x y z} : isPk (.makeFunc x y z) = false := rfl
theorem isPk_makeSlice {x y z} : isPk (.makeSlice x y z) = false := rfl
theorem isPk_makeMap {x y} : isPk (.makeMap x y) = false := rfl
theorem isPk_call {x} : isPk (.call x) = false := rfl
theorem isPk_bin {o t x y u} : isPk (.binOp o t x y u) = false := rfl
def biE (k k' : IntKind) (a c : Int) : BinOp → Eff
 | .shr => ⟨0 ≤ a ∧ 0 ≤ c ∧ c < 32, .one (.int k (a / 2 ^ c.toNat)), [], True⟩
 | o => binE o (.int k a) (.int k' c)
theorem opA_bin_int {o : BinOp} {k k' : IntKind} {a c : Int} : opA T G d (.binOp o t x y z') ty [.one (.int k a), .one (.int k' c)] m fr = if wfOf G d = 6 then wrapE o k k' a c else biE k k' a c o := by cases o <;> rfl
def cvE (k : IntKind) (n : Int) (S D : TI) : Eff := match S.desc, S.ty, D.desc, D.ty with
 | .int, some (.int k1), .int, some (.int k2) => if k1 = k then ⟨InR k2 n, .one (.int k2 n), [], True⟩ else bad
 | _, _, _, _ => bad
theorem opA_convR {s : TypeId} {id : Nat} : opA T G d (.convert s t x) ty [.one (.row id)] m fr = strE T m (TI.of T s) (TI.of T t) (.row id) := rfl
theorem opA_convS {s : TypeId} {u xs cp} : opA T G d (.convert s t x) ty [.one (.sl u xs cp)] m fr = strE T m (TI.of T s) (TI.of T t) (.sl u xs cp) := rfl
theorem opA_convert {s : TypeId} {k : IntKind} {n : Int} : opA T G d (.convert s t x) ty [.one (.int k n)] m fr = cvE k n (TI.of T s) (TI.of T t) := rfl
theorem opA_bin_ep {o : BinOp} {id sz i off} : opA T G d (.binOp o t x y z') ty [.one (.ep id sz i off), .one .nilp] m fr = ptrNil o false (TI.of T t).desc := rfl
theorem opA_bin_nilp {o : BinOp} : opA T G d (.binOp o t x y z') ty [.one .nilp, .one .nilp] m fr = ptrNil o true (TI.of T t).desc := rfl
theorem opA_bin_str {o : BinOp} {a c : ByteArray} : opA T G d (.binOp o t x y z') ty [.one (.str a), .one (.str c)] m fr = binE o (.str a) (.str c) := rfl
def bbE (o : BinOp) (a c : Bool) : TD → Eff
 | .bool => binE o (.bool a) (.bool c)
 | _ => bad
theorem opA_bin_bool {o : BinOp} {a c : Bool} : opA T G d (.binOp o t x y z') ty [.one (.bool a), .one (.bool c)] m fr = bbE o a c (TI.of T t).desc := rfl
def eqE (o : BinOp) (xs ys : List C1) (ti : TI) : Eff := if ti.eqn = [] ∨ ti.agg = false then bad else (match o, eqCells ti.eqn xs ys with
 | .eql, some q => okr (.one (.bool q))
 | .neq, some q => okr (.one (.bool (!q)))
 | _, _ => bad)
theorem opA_bin_agg {o : BinOp} {xs ys : List C1} : opA T G d (.binOp o t x y z') ty [.agg xs, .agg ys] m fr = eqE o xs ys (TI.of T t) := rfl
theorem opA_not {c : Bool} : opA T G d (.unOp .not t x) ty [.one (.bool c)] m fr = okr (.one (.bool (!c))) := rfl
theorem opA_neg {k : IntKind} {n : Int} : opA T G d (.unOp .neg t x) ty [.one (.int k n)] m fr = ⟨InR k (-n), .one (.int k (-n)), [], True⟩ := rfl
def allocD (t : TypeId) (fr : Nat) (z : List Z) : TD → Eff
 | .array n _ u => ⟨True, .one (.ep fr u.n 0 0), [(fr, .row t u (List.replicate n u.dflt))], True⟩
 | _ => if z = [] ∨ 31 < z.length then bad else ⟨True, .one (.loc fr 0), (mkZero z (fr + 1)).2 ++ [(fr, .cells t (mkZero z (fr + 1)).1)], True⟩
def allocE (t : TypeId) (fr : Nat) (ti : TI) : Eff := allocD t fr ti.zero ti.desc
def allocX (md : Nat) (t : TypeId) (fr : Nat) (z : List Z) : TD → Eff
 | .array n _ u => if 8 ≤ md then allocG (md - 8) fr t n u else if md = 2 then allocZ t fr z else ⟨True, .one (.ep fr u.n 0 0), [(fr, .row t u (List.replicate n u.dflt))], True⟩
 | _ => if z = [] ∨ 31 < z.length then bad else ⟨True, .one (.loc fr 0), (mkZero z (fr + 1)).2 ++ [(fr, .cells t (mkZero z (fr + 1)).1)], True⟩
def ifU (q : Bool) (a b : Eff) : Eff := if q = true then a else b
theorem ifU_t {a b : Eff} : ifU true a b = a := rfl
theorem ifU_f {a b : Eff} : ifU false a b = b := rfl
theorem opA_alloc : opA T G d (.alloc t) ty avs m fr = ifU (isU (TI.of T t)) ⟨True, .one (.loc fr 0), [(fr, .cells t [])], True⟩ (allocX (wfOf G d) t fr (TI.of T t).zero (TI.of T t).desc) := by
 simp only [opA, opEff, allocX, ifU]
 cases (TI.of T t).desc <;> rfl
def boxE (t : TypeId) (fr : Nat) (cs : List C1) (sz : Nat) : Eff := if cs.length = sz ∧ 0 < sz ∧ cs.all known = true then ⟨True, .one (.loc fr 0), [(fr, .cells t cs)], True⟩ else bad
theorem opA_box {v : AV} : opA T G d (.box t x) ty [v] m fr = boxE t fr v.cells (TI.of T t).size := rfl
def ldW (m : Mem) (ti : TI) (fr : Nat) (c : C1) (md : Nat) : Eff := if md = 0 then loadE m ti c else loadG m ti md fr c
theorem opA_load {c : C1} : opA T G d (.load t x) ty [.one c] m fr = ldW m (TI.of T t) fr c (wfOf G d) := by
 simp only [opA, opEff, ldW]
 cases wfOf G d with
 | zero => rfl
 | succ k => simp
theorem opA_store {c : C1} {v : AV} : opA T G d (.store t x y) ty [.one c, v] m fr = ifU (isU (TI.of T t)) (storeU v c) (storeX m (TI.of T t) fr v c) := rfl
theorem storeX_loc {ti : TI} {v : AV} {id off : Nat} : storeX m ti fr v (.loc id off) = storeE m ti v (.loc id off) := rfl
theorem storeX_ep {ti : TI} {v : AV} {id sz off : Nat} {i : Int} : storeX m ti fr v (.ep id sz i off) = if isG (m id) = true then storeG m ti fr id sz i off v (m id) else storeE m ti v (.ep id sz i off) := rfl
theorem appX_row {st id2 : Nat} {c : C1} : appX T st m fr c (.row id2) = if isG (m id2) = true then appG T st m fr c id2 (m id2) else appE T st m fr c (.row id2) := rfl
theorem appX_nil {st : Nat} {c : C1} : appX T st m fr c .nilsl = appE T st m fr c .nilsl := rfl
theorem appX_sl {st : Nat} {c : C1} {u : Ty} {xs : List u.den} {cp : Bool} : appX T st m fr c (.sl u xs cp) = appE T st m fr c (.sl u xs cp) := rfl
theorem appX_win {st : Nat} {c : C1} {i z l n : Nat} : appX T st m fr c (.win i z l n) = appE T st m fr c (.win i z l n) := rfl
theorem opA_nil_loc {id off : Nat} : opA T G d (.nilCheck x) ty [.one (.loc id off)] m fr = okr (.one (.loc id off)) := rfl
theorem opA_nil_sp {cs : List C1} {off : Nat} : opA T G d (.nilCheck x) ty [.one (.sp cs off)] m fr = okr (.one (.sp cs off)) := rfl
theorem opA_nil_rp {u : Ty} {q : u.den} {off : Nat} : opA T G d (.nilCheck x) ty [.one (.rp u q off)] m fr = okr (.one (.rp u q off)) := rfl
theorem opA_nil_ep {id n off : Nat} {i : Int} : opA T G d (.nilCheck x) ty [.one (.ep id n i off)] m fr = okr (.one (.ep id n i off)) := rfl
def buildE (T : Tab) (ps : List (Nat × AV)) (fr : Nat) (ti : TI) : Eff := match ti.desc with
 | .array n e u => if (TI.of T e).ty = some u then buildA n u.n fr ti ps else bad
 | .struct fs => if ti.zero = [] ∨ 32 < ti.zero.length then bad else match fillC fs (mkZero ti.zero fr).1 ps with
    | some cs => ⟨True, .agg cs, (mkZero ti.zero fr).2, True⟩
    | none => bad
 | _ => bad
theorem opA_build {ps : Array (Nat × Operand)} : opA T G d (.build t ps) ty avs m fr = ifU (isU (TI.of T t)) (buildU avs) (buildE T ((ps.toList.map (·.1)).zip avs) fr (TI.of T t)) := by
 simp only [opA, opEff, buildE, ifU]
 cases (TI.of T t).desc <;> rfl
def bsE (T : Tab) (len fr : Nat) (idx : List Nat) (avs : List AV) (m : Mem) : TD → Eff
 | .slice e => match (TI.of T e).ty with
    | some u => match buildParts T e u m avs with
      | some xs => (match seqIdx idx len (TI.of T e).size avs.length with
        | true => ⟨True, .one (.row fr), (avs.flatMap fun v => (rowsOf v.cells).map (settle m)) ++ [(fr, .row e u xs)], True⟩
        | false => bad)
      | none => bad
    | none => bad
 | _ => bad
def bsGE (T : Tab) (md len fr : Nat) (idx : List Nat) (avs : List AV) (m : Mem) : TD → Eff
 | .slice e => (match avs with
    | [v] => if seqIdx idx len (TI.of T e).size avs.length = true then bsG T md fr e m v else bad
    | _ => bad)
 | _ => bad
def fnsE (T : Tab) (fr len : Nat) (ix : List Nat) (avs : List AV) : TD → Eff
 | .slice e => funsE T e fr len ix avs
 | _ => bad
theorem opA_bs {len : Nat} {ps : Array (Nat × Operand)} : opA T G d (.buildSlice t len ps) ty avs m fr = if wfOf G d = 7 then fnsE T fr len (ps.toList.map (·.1)) avs (TI.of T t).desc else if 8 ≤ wfOf G d then bsGE T (wfOf G d) len fr (ps.toList.map (·.1)) avs m (TI.of T t).desc else bsE T len fr (ps.toList.map (·.1)) avs m (TI.of T t).desc := by
 simp only [opA, opEff, bsE, bsGE, fnsE]
 cases (TI.of T t).desc with
 | slice e => rfl
 | _ => simp
attribute [go_sem] fnsE
def faE (f : Nat) (c : C1) : TD → Eff
 | .struct fs => fieldE fs f c
 | _ => bad
theorem opA_fieldAddr {f : Nat} {c : C1} : opA T G d (.fieldAddr t x f) ty [.one c] m fr = faE f c (TI.of T t).desc := by
 simp only [opA, opEff, faE, intOf?]
 try (cases (TI.of T t).desc <;> rfl)
def fdE (f : Nat) (cs : List C1) : TD → Eff
 | .struct fs => (match fs[f]? with
    | some (off, sz, ag) => if off + sz ≤ cs.length then okr (avOf ag ((cs.drop off).take sz)) else bad
    | none => bad)
 | _ => bad
theorem opA_field {f : Nat} {cs : List C1} : opA T G d (.field t x f) ty [.agg cs] m fr = fdE f cs (TI.of T t).desc := by
 simp only [opA, opEff, fdE, intOf?]
 try (cases (TI.of T t).desc <;> rfl)
def iarE (T : Tab) (gl : GVs) (n : Nat) (e : TypeId) (u : Ty) (i : Int) : C1 → Eff
 | .ep id sz i0 off => if i0 = 0 ∧ off = 0 ∧ sz = u.n ∧ (TI.of T e).ty = some u then ⟨0 ≤ i ∧ i < n, .one (.ep id u.n i 0), [], 0 ≤ i ∧ i < n⟩ else bad
 | .loc id off => if (TI.of T e).ty = some u then locA n u.n id off i else bad
 | .glob g => glE T n e u i (findL gl g)
 | _ => bad
def iaE (T : Tab) (gl : GVs) (m : Mem) (i : Int) (c : C1) : TD → Eff
 | .slice e => indexE T e m i c
 | .array n e u => iarE T gl n e u i c
 | _ => bad
theorem opA_indexAddr {k : IntKind} {i : Int} {c : C1} : opA T G d (.indexAddr t x y) ty [.one c, .one (.int k i)] m fr = iaE T G.gl m i c (TI.of T t).desc := by
 simp only [opA, opEff, iaE, intOf?]
 cases (TI.of T t).desc <;> first | rfl | (cases c <;> rfl)
def slE (T : Tab) (m : Mem) (c : C1) (lo hi mx : Option Int) : TD → Eff
 | .slice e => (match (TI.of T e).ty with
    | some u => sliceE m u c lo hi mx
    | none => bad)
 | _ => bad
def slwE (T : Tab) (m : Mem) (fr : Nat) (c : C1) (lo hi mx : Option Int) (D : TD) : Nat → Eff
 | 0 => slE T m c lo hi mx D
 | k + 1 => (match D with
   | .slice e => (match (TI.of T e).ty with
     | some u => winE m u fr c lo hi (k + 1)
     | none => bad)
   | _ => bad)
def slzE (T : Tab) (m : Mem) (c : C1) (lo hi mx : Option Int) (D : TD) : Nat → Eff
 | 0 => slE T m c lo hi mx D
 | _ + 1 => bad
theorem wfOf_some {d : Nat} : wfOf G (some d) = getL 0 G.wf d := rfl
theorem wfOf_none : wfOf G none = 0 := rfl
theorem slwE_z {c : C1} {lo hi mx : Option Int} {D : TD} : slwE T m fr c lo hi mx D 0 = slE T m c lo hi mx D := rfl
theorem slwE_1 {c : C1} {lo hi mx : Option Int} {D : TD} : slwE T m fr c lo hi mx D 1 = (match D with
 | .slice e => (match (TI.of T e).ty with
   | some u => winE m u fr c lo hi 1
   | none => bad)
 | _ => bad) := rfl
theorem slwE_2 {c : C1} {lo hi mx : Option Int} {D : TD} : slwE T m fr c lo hi mx D 2 = (match D with
 | .slice e => (match (TI.of T e).ty with
   | some u => winE m u fr c lo hi 2
   | none => bad)
 | _ => bad) := rfl
theorem slzE_z {c : C1} {lo hi mx : Option Int} {D : TD} : slzE T m c lo hi mx D 0 = slE T m c lo hi mx D := rfl
theorem opA_sl0 {c : C1} : opA T G d (.slice t x none none none) ty [.one c] m fr = slwE T m fr c none none none (TI.of T t).desc (wfOf G d) := by
 simp only [opA, opEff, slwE, slE, intOf?]
 cases (TI.of T t).desc with
 | slice e => cases wfOf G d with
   | zero => rfl
   | succ k => first | (cases (TI.of T e).ty <;> rfl) | (simp only []; cases (TI.of T e).ty <;> rfl)
 | _ => cases wfOf G d <;> rfl
theorem opA_sl1 {c : C1} {i : Int} : opA T G d (.slice t x (some y) none none) ty [.one c, .one (.int .i64 i)] m fr = slwE T m fr c (some i) none none (TI.of T t).desc (wfOf G d) := by
 simp only [opA, opEff, slwE, slE, intOf?]
 cases (TI.of T t).desc with
 | slice e => cases wfOf G d with
   | zero => rfl
   | succ k => first | (cases (TI.of T e).ty <;> rfl) | (simp only []; cases (TI.of T e).ty <;> rfl)
 | _ => cases wfOf G d <;> rfl
theorem opA_sl2 {c : C1} {i : Int} : opA T G d (.slice t x none (some y) none) ty [.one c, .one (.int .i64 i)] m fr = slwE T m fr c none (some i) none (TI.of T t).desc (wfOf G d) := by
 simp only [opA, opEff, slwE, slE, intOf?]
 cases (TI.of T t).desc with
 | slice e => cases wfOf G d with
   | zero => rfl
   | succ k => first | (cases (TI.of T e).ty <;> rfl) | (simp only []; cases (TI.of T e).ty <;> rfl)
 | _ => cases wfOf G d <;> rfl
theorem opA_sl3 {c : C1} {i q : Int} : opA T G d (.slice t x (some y) (some z) none) ty [.one c, .one (.int .i64 i), .one (.int .i64 q)] m fr = slwE T m fr c (some i) (some q) none (TI.of T t).desc (wfOf G d) := by
 simp only [opA, opEff, slwE, slE, intOf?]
 cases (TI.of T t).desc with
 | slice e => cases wfOf G d with
   | zero => rfl
   | succ k => first | (cases (TI.of T e).ty <;> rfl) | (simp only []; cases (TI.of T e).ty <;> rfl)
 | _ => cases wfOf G d <;> rfl
theorem opA_sl4 {c : C1} {i q : Int} : opA T G d (.slice t x none (some y) (some z)) ty [.one c, .one (.int .i64 i), .one (.int .i64 q)] m fr = slzE T m c none (some i) (some q) (TI.of T t).desc (wfOf G d) := by
 simp only [opA, opEff, slzE, slE, intOf?]
 cases (TI.of T t).desc with
 | slice e => cases wfOf G d with
   | zero => rfl
   | succ k => first | (cases (TI.of T e).ty <;> rfl) | (simp only []; cases (TI.of T e).ty <;> rfl)
 | _ => cases wfOf G d <;> rfl
theorem opA_sl5 {c : C1} {i q r : Int} : opA T G d (.slice t x (some v) (some y) (some z)) ty [.one c, .one (.int .i64 i), .one (.int .i64 q), .one (.int .i64 r)] m fr = slzE T m c (some i) (some q) (some r) (TI.of T t).desc (wfOf G d) := by
 simp only [opA, opEff, slzE, slE, intOf?]
 cases (TI.of T t).desc with
 | slice e => cases wfOf G d with
   | zero => rfl
   | succ k => first | (cases (TI.of T e).ty <;> rfl) | (simp only []; cases (TI.of T e).ty <;> rfl)
 | _ => cases wfOf G d <;> rfl
def exE : Option AV → Eff
 | some v => okr v
 | none => bad
theorem opA_extract {i : Nat} {vs : List AV} : opA T G d (.extract x i) ty [.tup vs] m fr = exE (vs[i]?) := by
 simp only [opA, opEff, exE]
 try (cases vs[i]? <;> rfl)
theorem opA_makeFunc {f : FuncId} {c : Array Operand} : opA T G d (.makeFunc (.func f) #[] c) ty avs m fr = (match onesOf avs with | some cs => okr (.one (.fn f cs)) | none => bad) := by
 simp only [opA, opEff]
 try (cases onesOf avs <;> rfl)
def mmE (T : Tab) (fr : Nat) : TD → Eff
 | .map k e => (match (TI.of T k).ty, (TI.of T e).vt with
    | some kt, some vt => if kindsOf kt = some (TI.of T k).eqn ∧ (TI.of T k).eqn ≠ [] then ⟨True, .one (.map fr), [(fr, .mapb kt vt (TI.of T k).agg (TI.of T e).agg [])], True⟩ else bad
    | _, _ => bad)
 | _ => bad
/-- One effect for the slots of the third mode, another else. -/
def luW (n : Nat) (a b : Eff) : Eff := if n = 3 then a else b
theorem luW_0 {a b : Eff} : luW 0 a b = b := rfl
theorem luW_3 {a b : Eff} : luW 3 a b = a := rfl
def mgE (T : Tab) (fr : Nat) : TD → Eff
 | .map k e => makeGE T k e true fr
 | _ => bad
theorem opA_makeMap : opA T G d (.makeMap t none) ty avs m fr = luW (wfOf G d) (mgE T fr (TI.of T t).desc) (mmE T fr (TI.of T t).desc) := by
 simp only [opA, opEff, mmE, mgE, luW, Option.isSome_none, true_and, decide_true]
 cases (TI.of T t).desc <;> first | rfl | simp
def pkE (T : Tab) (m : Mem) (fr id : Nat) (k : AV) (ok : Bool) : TD → Eff
 | .map kT eT => if ok = true then bad else peekE T kT eT m fr id k
 | _ => bad
def meE (T : Tab) (m : Mem) (fr id : Nat) (k : AV) : TD → Eff
 | .map kT eT => entryE T kT eT m fr id k
 | _ => bad
theorem opA_mapEntry {id : Nat} {k : AV} : opA T G d (.mapEntry t x y) ty [.one (.map id), k] m fr = meE T m fr id k (TI.of T t).desc := by
 simp only [opA, opEff, meE]
 cases (TI.of T t).desc <;> rfl
theorem opA_entryStore {id r : Nat} {b : Int} : opA T G d (.entryStore t x y z) ty [.one (.map id), .one (.int .i64 b), .one (.row r)] m fr = backE m fr id b r := rfl
theorem opA_entryStoreB {id : Nat} {b n : Int} {ik : IntKind} : opA T G d (.entryStore t x y z) ty [.one (.map id), .one (.int .i64 b), .one (.int ik n)] m fr = storeB m id b ik n := rfl
def muE (T : Tab) (m : Mem) (id : Nat) (k v : AV) : TD → Blk → Eff
 | .map kT eT, .mapb kt vt ka va l => (match impl m kt k.cells, impl m vt v.cells with
    | some k', some x => if (TI.of T kT).ty = some kt ∧ (TI.of T eT).vt = some vt ∧ kindsOf kt = some (TI.of T kT).eqn ∧ (TI.of T kT).eqn ≠ [] ∧ k.cells.all known = true ∧ v.cells.all known = true ∧ rowsOf k.cells = [] ∧ k.ag = ka ∧ v.ag = va ∧ ka = (TI.of T kT).agg ∧ avA v = true then
       ⟨True, .one .undef, (rowsOf v.cells).map (settle m) ++ [(id, .mapb kt vt ka va (mset l k' x))], True⟩ else bad
    | _, _ => bad)
 | _, _ => bad
theorem opA_mapUpdate {id : Nat} {k w : AV} : opA T G d (.mapUpdate t x y z) ty [.one (.map id), k, w] m fr = muE T m id k w (TI.of T t).desc (m id) := by
 simp only [opA, opEff, muE]
 cases (TI.of T t).desc <;> first | rfl | (simp only; cases m id <;> rfl)
theorem opA_insert {id : Nat} {k w : AV} : opA T G d (.insert t x y z) ty [.one (.map id), k, w] m fr = muE T m id k w (TI.of T t).desc (m id) := by
 simp only [opA, opEff, muE]
 cases (TI.of T t).desc <;> first | rfl | (simp only; cases m id <;> rfl)
def luE (T : Tab) (m : Mem) (k : AV) (ok : Bool) : TD → Blk → Eff
 | .map kT eT, .mapb kt vt ka va l => (match impl m kt k.cells with
    | some k' => if (TI.of T kT).ty = some kt ∧ (TI.of T eT).vt = some vt ∧ kindsOf kt = some (TI.of T kT).eqn ∧ (TI.of T kT).eqn ≠ [] ∧ k.cells.all known = true ∧ rowsOf k.cells = [] ∧ (TI.of T eT).vz = true ∧ k.ag = ka ∧ va = (TI.of T eT).agg ∧ ka = (TI.of T kT).agg then
       ⟨True, (if ok then .tup [avOf (TI.of T eT).agg (expl vt ((mget l k').getD vt.dflt)), .one (.bool (mget l k').isSome)] else avOf (TI.of T eT).agg (expl vt ((mget l k').getD vt.dflt))), [], Wf vt ((mget l k').getD vt.dflt)⟩ else bad
    | none => bad)
 | _, _ => bad
theorem opA_lookup {id : Nat} {k : AV} {ok : Bool} : opA T G d (.lookup t x y ok) ty [.one (.map id), k] m fr = luW (wfOf G d) (pkE T m fr id k ok (TI.of T t).desc) (luE T m k ok (TI.of T t).desc (m id)) := by
 simp only [opA, opEff, luE, pkE, luW]
 cases (TI.of T t).desc <;> first
  | rfl
  | (by_cases hw : wfOf G d = 3 <;> simp only [hw, if_true, if_false] <;> first | rfl | (cases m id <;> rfl))
  | (simp; done)
theorem opA_makeFunc1 {f : FuncId} {a : Operand} : opA T G d (.makeFunc (.func f) #[a] #[]) ty avs m fr = (match onesOf avs with | some cs => okr (.one (.mv f cs)) | none => bad) := by
 simp only [opA, opEff]
 cases onesOf avs <;> rfl
theorem opA_callM {f : Operand} {args : Array Operand} {ts : Array TypeId} {g : FuncId} {caps : List C1} {as : List AV} :
 opA T G d (.call ⟨.value f, args, ts⟩) ty (.one (.mv g caps) :: as) m fr = getL (fun _ _ _ => bad) G.d g (caps.map capA ++ as) m fr := rfl
attribute [go_sem] opA_makeFunc1 opA_callM
theorem opA_call {f : Operand} {args : Array Operand} {ts : Array TypeId} {g : FuncId} {caps : List C1} {as : List AV} :
 opA T G d (.call ⟨.value f, args, ts⟩) ty (.one (.fn g caps) :: as) m fr = getL (fun _ _ _ => bad) G.d g (as ++ caps.map capA) m fr := rfl
def lenE (m : Mem) (c : C1) : TD → Eff
 | .str => (match c with | .str s => ⟨True, .one (.int .i64 s.size), [], s.size ≤ maxLen⟩ | _ => bad)
 | .slice _ => (match lenOf m c with
    | some n => ⟨True, .one (.int .i64 n), [], n ≤ maxLen⟩
    | none => bad)
 | _ => bad
theorem opA_len {args : Array Operand} {c : C1} : opA T G d (.call ⟨.builtin .len, args, #[t]⟩) ty [.one c] m fr = lenE m c (TI.of T t).desc := by
 simp only [opA, opEff, lenE, builtinE]
 cases (TI.of T t).desc <;> first | rfl | (cases c <;> rfl)
theorem opA_append {args : Array Operand} {c c' : C1} : opA T G d (.call ⟨.builtin .append, args, #[t, t]⟩) ty [.one c, .one c'] m fr = if wfOf G d = 9 then appD T t m fr c c' else appX T t m fr c c' := by
 simp [opA, opEff, builtinE]
def cpE (T : Tab) (m : Mem) (x c : C1) : TD → Eff
 | .slice e => (match (TI.of T e).ty with
    | some u => (match view m u c with
      | some ys => copyE e u m ys x
      | none => bad)
    | none => bad)
 | _ => bad
def clE (T : Tab) (m : Mem) (x : C1) : TD → Eff
 | .slice e => (match (TI.of T e).ty with
    | some u => if (TI.of T e).zt = true then clearE e u m x else bad
    | none => bad)
 | _ => bad
def msE (T : Tab) (fr : Nat) (n c : Int) : TD → Eff
 | .slice e => (match (TI.of T e).ty with
    | some u => if (TI.of T e).zt = true then ⟨0 ≤ n ∧ n ≤ c ∧ c * (TI.of T e).bytes ≤ 140737488355328, .one (.row fr), [(fr, .row e u (List.replicate n.toNat u.dflt))], True⟩ else bad
    | none => bad)
 | _ => bad
theorem opA_copy {args : Array Operand} {t' : TypeId} {c x : C1} : opA T G d (.call ⟨.builtin .copy, args, #[t, t']⟩) ty [.one x, .one c] m fr = cpE T m x c (TI.of T t).desc := by
 simp only [opA, opEff, cpE, builtinE]
 cases (TI.of T t).desc <;> rfl
theorem opA_clear {args : Array Operand} {x : C1} : opA T G d (.call ⟨.builtin .clear, args, #[t]⟩) ty [.one x] m fr = clE T m x (TI.of T t).desc := by
 simp only [opA, opEff, clE, builtinE]
 cases (TI.of T t).desc <;> rfl
theorem opA_makeSlice {n c : Int} : opA T G d (.makeSlice t x y) ty [.one (.int .i64 n), .one (.int .i64 c)] m fr = msE T fr n c (TI.of T t).desc := by
 simp only [opA, opEff, msE]
 cases (TI.of T t).desc <;> rfl
theorem opA_min {args : Array Operand} {ts : Array TypeId} {k : IntKind} {a c : Int} : opA T G d (.call ⟨.builtin .min, args, ts⟩) ty [.one (.int k a), .one (.int k c)] m fr = okr (.one (.int k (if c < a then c else a))) := by
 simp [opA, opEff, builtinE]
theorem opA_max {args : Array Operand} {ts : Array TypeId} {k : IntKind} {a c : Int} : opA T G d (.call ⟨.builtin .max, args, ts⟩) ty [.one (.int k a), .one (.int k c)] m fr = okr (.one (.int k (if c > a then c else a))) := by
 simp [opA, opEff, builtinE]
end

def gdst (all : List Oper) (j : Nat) : Option Nat := (all[j]?).bind (·.dst)
theorem gdst_zero {o : Oper} {os : List Oper} : gdst (o :: os) 0 = o.dst := rfl
theorem gdst_succ {o : Oper} {os : List Oper} {j : Nat} : gdst (o :: os) (j + 1) = gdst os j := rfl
def gvA (b : Bool) : AV → Bool
 | .one (.bool e) => e == b
 | .ifd c (.one (.bool e)) => c && (e == b)
 | _ => false
def goA : AV → Prop
 | .one (.bool _) => True
 | .ifd _ (.one (.bool _)) => True
 | _ => False
def gv (s : Nat → AV) (b : Bool) : Option Nat → Bool
 | some d => gvA b (s d)
 | none => false
def go (s : Nat → AV) : Option Nat → Prop
 | some d => goA (s d)
 | none => False
theorem guardC_eq {all : List Oper} {s : Nat → AV} {j : Nat} {b : Bool} : guardC all s j b = gv s b (gdst all j) := by
 unfold guardC gdst gv
 cases (all[j]?).bind (·.dst) with
 | none => rfl
 | some d => simp only; cases s d with
   | one c => cases c <;> rfl
   | ifd c v => cases v with
     | one c => cases c <;> rfl
     | _ => rfl
   | _ => rfl
theorem guardOk_eq {all : List Oper} {s : Nat → AV} {j : Nat} : guardOk all s j = go s (gdst all j) := by
 unfold guardOk gdst go
 cases (all[j]?).bind (·.dst) with
 | none => rfl
 | some d => simp only; cases s d with
   | one c => cases c <;> rfl
   | ifd c v => cases v with
     | one c => cases c <;> rfl
     | _ => rfl
   | _ => rfl
theorem InR_i64 {n : Int} : InR .i64 n = (-9223372036854775808 ≤ n ∧ n ≤ 9223372036854775807) := by simp [InR, IntKind.min, IntKind.max, IntKind.signed, IntKind.bits]
theorem InR_u64 {n : Int} : InR .u64 n = (0 ≤ n ∧ n ≤ 18446744073709551615) := by simp [InR, IntKind.min, IntKind.max, IntKind.signed, IntKind.bits]
theorem InR_i32 {n : Int} : InR .i32 n = (-2147483648 ≤ n ∧ n ≤ 2147483647) := by simp [InR, IntKind.min, IntKind.max, IntKind.signed, IntKind.bits]
theorem InR_u32 {n : Int} : InR .u32 n = (0 ≤ n ∧ n ≤ 4294967295) := by simp [InR, IntKind.min, IntKind.max, IntKind.signed, IntKind.bits]
theorem InR_u8 {n : Int} : InR .u8 n = (0 ≤ n ∧ n ≤ 255) := by simp [InR, IntKind.min, IntKind.max, IntKind.signed, IntKind.bits]
def isIdx : Nat → Nat → List Nat → Bool
 | i, n, [] => decide (i = n)
 | i, n, j :: r => decide (j = i) && isIdx (i + 1) n r
theorem isIdx_gt : ∀ (r : List Nat) (i n : Nat), n < i → isIdx i n r = false
 | [], i, n, h => by unfold isIdx; simp; omega
 | j :: r, i, n, h => by unfold isIdx; rw [isIdx_gt r (i + 1) n (by omega)]; simp
theorem isIdx_eq : ∀ (r : List Nat) (i n : Nat), i ≤ n → isIdx i n r = decide (r = List.range' i (n - i))
 | [], i, n, h => by
   unfold isIdx
   by_cases e : i = n
   · subst e; simp
   · obtain ⟨k, hk⟩ : ∃ k, n - i = k + 1 := ⟨n - i - 1, by omega⟩
     simp [e, hk, List.range'_succ]
 | j :: r, i, n, h => by
   unfold isIdx
   by_cases e : i = n
   · rw [isIdx_gt r (i + 1) n (by omega)]
     simp [e]
   · obtain ⟨k, hk⟩ : ∃ k, n - i = k + 1 := ⟨n - i - 1, by omega⟩
     rw [isIdx_eq r (i + 1) n (by omega), hk, List.range'_succ, show n - (i + 1) = k by omega]
     by_cases hj : j = i <;> simp [hj]
theorem seqIdx_eq {idx : List Nat} {len sz n : Nat} : seqIdx idx len sz n = (isIdx 0 len idx && (decide (len * sz ≤ 16777216) && decide (n = len))) := by
 rw [isIdx_eq idx 0 len (Nat.zero_le _)]
 unfold seqIdx
 rw [List.range_eq_range']
 simp [Bool.decide_and]
theorem drawn {all : List Oper} {tb : List (List Nat × List Nat)} (h : drawOk all tb = true) : (drawOk all tb = true) = True := by simp [h]
theorem keysOk_nil {F : List Nat} {fr : Nat} : keysOk F fr [] = true := rfl
theorem keysOk_cons {F : List Nat} {fr k : Nat} {b : Blk} {r : Heap} : keysOk F fr ((k, b) :: r) = ((F.contains k || (decide (fr ≤ k) && decide (k < fr + 32))) && keysOk F fr r) := rfl

theorem EnvOk.nil {P : Program} {wf : List (Nat × Nat)} : EnvOk P ⟨[], [], wf, [], []⟩ := ⟨fun f C h => (by cases h), fun f C h => (by cases h), fun f C h => (by cases h), rfl⟩
theorem EnvOk.cons {P : Program} {f : FuncId} {C : Ctr} {d : List (Nat × Ctr)} {r : List (Nat × RCtr)} {wf : List (Nat × Nat)} {it : List (Nat × ItC)} (h : CtrOk P f C) (k : FnHas P f) (e : EnvOk P ⟨d, r, wf, it, []⟩) : EnvOk P ⟨(f, C) :: d, r, wf, it, []⟩ :=
 ⟨fun g D hg => (by
   simp only [findL] at hg
   split at hg
   · rename_i q; subst q; cases hg; exact ⟨h, k⟩
   · exact e.d g D hg), e.r, e.it, e.gl⟩
theorem EnvOk.rcons {P : Program} {f : FuncId} {C : RCtr} {d : List (Nat × Ctr)} {r : List (Nat × RCtr)} {wf : List (Nat × Nat)} {it : List (Nat × ItC)} (h : RCtrOk P f C) (k : FnHas P f) (e : EnvOk P ⟨d, r, wf, it, []⟩) : EnvOk P ⟨d, (f, C) :: r, wf, it, []⟩ :=
 ⟨e.d, (fun g D hg => by
   simp only [findL] at hg
   split at hg
   · rename_i q; subst q; cases hg; exact ⟨h, k⟩
   · exact e.r g D hg), e.it, e.gl⟩
attribute [go_sem] eq_self ne_eq Option.some.injEq opA_assign_map opA_assign_nilfn Option.toList_some Option.toList_none List.map_cons List.map_nil List.nil_append List.append_nil List.cons_append List.length_cons List.length_nil List.toList_toArray List.take_succ_cons List.take_zero List.drop_succ_cons List.drop_zero List.take_nil List.drop_nil List.all_cons List.all_nil List.contains_cons List.contains_nil List.flatMap_cons List.flatMap_nil List.zip_cons_cons List.zip_nil_left List.getElem?_cons_zero List.getElem?_cons_succ List.getElem?_nil List.nodup_nil List.nodup_cons List.not_mem_nil List.mem_cons Option.getD_some Option.getD_none true_and and_true false_and and_false true_implies Bool.and_true Bool.true_and Bool.or_false Bool.false_or Bool.or_true Bool.true_or Bool.and_false Bool.false_and Bool.not_true Bool.not_false beq_false beq_true decide_true decide_false not_false_eq_true not_true_eq_false or_false false_or or_true true_or and_self or_self imp_self implies_true ite_true ite_false if_true if_false dite_true dite_false
attribute [go_sem] isUL isUD isU vtD TI.vt TI.vz avA storeU buildU ifU_t ifU_f BCon.ctr BCon.effB BCon.effR BCon.effZ BCon.eff bxs bxA bxC bxO inB IK.inn IK.rd IK.blk IK.c IK.fl updB updX bheap bnheap entB BCon.post allocZ arrFs buildA locA List.range_succ List.range_zero appD alt_insert isPk_insert opA_insert fullE_row nilRE_nil nilRE_row fullE_win queO_app queV_mk queC queB wrapE sealM sealB fidOf updM fidB nilGE nilG allocX allocG ldW loadG lendG peekG viewG ptrNil opA_bin_ep opA_bin_nilp storeX_loc storeX_ep storeG backG putG isG appX_row appX_nil appX_sl appX_win appG catG bsGE bsG oneG sealG slAt Bool.false_eq_true altO_some gdO_0 gdO_1 gdO_2 gdO_3 gdO_4 stX_gdM stH_mk evO_cons opA_convR opA_convS strE allocD iarE luW_0 luW_3 mgE pkE meE makeGE peekE entryE entryB storeB opA_entryStoreB backE sealE keyG opA_mapEntry opA_entryStore alt_mapEntry alt_entryStore isPk_mapEntry isPk_entryStore mvW mvE Nat.sub_zero slwE_z slwE_1 slwE_2 slzE_z wfOf_some wfOf_none opA_copy opA_clear opA_makeSlice cpE clE msE copyE clearE winOf winE appWin Option.map_some alt_makeSlice isPk_makeSlice chkC_t chkC_f alt_slice noDst_some noDst_none noRead_nil noRead_cons noR_nil noR_tmp noR_const noR_glob noR_func alt_move alt_assign alt_pick alt_box alt_load alt_nilCheck alt_unOp alt_convert alt_fieldAddr alt_field alt_extract alt_build alt_buildSlice alt_store alt_alloc alt_indexAddr alt_index alt_lookup alt_mapUpdate alt_makeFunc alt_makeMap alt_call_b alt_call alt_bin altB_tmp altB_int altB_bool altB_str altB_agg altB_nil altB_nnil nilChc_some altC_fn altF_none altF_some opA_convert altF_none altF_some altC_fn biE cvE stX_none stX_some
theorem rowsN_nil {m : Mem} : rowsN m [] = [] := rfl
theorem rowsN_cons {m : Mem} {id : Nat} {l : List Nat} : rowsN m (id :: l) = match m id with | .settled _ _ => rowsN m l | _ => id :: rowsN m l := rfl
attribute [go_sem] rowsN_nil rowsN_cons
attribute [go_sem] stepE_none stepE_some gd_mk dem_nil dem_row dem_int dem_bool noop_nil noop_cons id_eq bpick_or bpick_and bpick_not opA_move opA_assign_tmp opA_assign_func opA_assign_int opA_assign_bool opA_assign_str opA_assign_agg opA_assign_ptr opA_assign_nil opA_pick pickV_one pickV_ifd pickE_mk gAvs_t gAvs_f gPre_t gPre_f isPk_move isPk_assign isPk_pick isPk_box isPk_load isPk_nilCheck isPk_unOp isPk_convert isPk_fieldAddr isPk_field isPk_extract isPk_build isPk_buildSlice isPk_store isPk_alloc isPk_indexAddr isPk_index isPk_lookup isPk_slice isPk_mapUpdate isPk_makeFunc isPk_makeMap isPk_call isPk_bin opA_bin_int opA_bin_str opA_bin_bool opA_bin_agg opA_not opA_neg opA_alloc opA_box opA_load opA_store opA_nil_loc opA_nil_rp opA_nil_ep opA_build opA_bs opA_fieldAddr opA_field opA_indexAddr opA_index ixE opA_sl0 opA_sl1 opA_sl2 opA_sl3 opA_sl4 opA_sl5 opA_extract opA_makeFunc opA_makeMap opA_mapUpdate opA_lookup opA_call opA_len opA_append opA_min opA_max nilE bbE eqE allocE boxE buildE bsE faE fdE iaE slE exE mmE muE luE lenE evk_skip evk_ret evk_exit evk_seq evk_block evk_cond evk_region evk_draw evO_nil stE_mk evR_nil evR_cons stR_mk cnd_bool fin_seq fin_seq_ret fin_seq_exit fin_blk fin_blk_ret fin_blk_exit fin_lp_ret fin_lp_exit evk_label evk_scope fin_sq fin_rf_ret fin_rf_exit only fin_nil gdst_zero gdst_succ gvA goA gv go guardC_eq guardOk_eq keysOk_nil keysOk_cons pslots pheap Con.post rvE rvP rvS rvL rslots ent mOk mpGet bindId matchC matchCs matchA matchS matchB matchM findL Mt.no InR_i64 InR_u64 InR_i32 InR_u32 InR_u8 decide_eq_true_eq decide_eq_false_iff_not Wf pwf pwf1 opsOf callOps opd constAV constC putS setL setMany keepL okr sget getL mem restr touch touchX touchM isMv fidB idsA idsAs idsC idsCs idsB binE loadE storeE fieldE indexE sliceE appE lenOf view castTy_self expl avOf impl implI implB implS implU implL implP Ty.n Ty.dflt AV.cells AV.ag known rowsOf settle mkZero fillC overC eqCells seqIdx_eq isIdx buildParts seqO onesOf stripV stripP allP kindsOf rd rds rdBlk rdMap rdRow rdFb rdBx rdCap rdCaps castMap capIds pid pids splitM rdPm pmId Option.map_some blkRows capRows rw1 rws okIds capCids pcid pcids capAvs pav capBlk capBlks capNb capNbs pbl nbl pheapB nheap pupd rav rblk ravs rheap rwf rwf1 rflat cflat pflat cwf flat pack Con.ctr Con.eff Con.effO updC RCon.chc RCon.chcO RCon.rctr entR postR RCon.post
attribute [go_sem] Prod.eta Option.isSome_none Option.isSome_some Int.toNat_zero Nat.reduceAdd Nat.reduceMul Nat.reduceSub Nat.reduceEqDiff Nat.reduceLT Nat.reduceLeDiff Nat.reduceShiftRight Nat.reduceMod Nat.reduceBEq reduceCtorEq reduceIte reduceDIte Int.reduceNeg
end Go.Ev
