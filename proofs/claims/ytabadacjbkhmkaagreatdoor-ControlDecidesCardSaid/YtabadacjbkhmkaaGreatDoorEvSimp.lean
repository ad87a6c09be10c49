/- Part. -/
import Derived.Test.YtabadacjbkhmkaaGreatDoorEvFun4ToBox
set_option linter.all false
namespace Go.Ev
def opA (T : Tab) (G : Env) (d : Option Tmp) (op : Op) (ty : TypeId) (avs : List AV) (m : Mem) (fr : Nat) : Eff := opEff T G ⟨d, op, ty, "", #[], none⟩ avs m fr
def gd (m : Mem) (c : Bool) (ok pp : Prop) (E : Eff) : Eff := ⟨ok ∧ pp ∧ (c = true → E.pre) ∧ (c = true → noop m E.u), .ifd c E.r, [], c = true → E.asm⟩
def bpick (e x y : Bool) : Bool := if e then x else y
section
variable {T : Tab} {G : Env} {all : List Oper} {op : Op} {ty : TypeId} {p : String} {af : Array Edge} {d : Option Tmp} {s : Nat → AV} {m : Mem} {fr j : Nat} {b : Bool} {avs : List AV} {x y z v : Operand} {z' : TypeId} {t : TypeId}
theorem gB9 : stepE T G all ⟨d, op, ty, p, af, none⟩ s m fr = opA T G d op ty ((opsOf op).map (opd s)) m fr := rfl
theorem xB8 : stepE T G all ⟨d, op, ty, p, af, some (j, b)⟩ s m fr =
 gd m (guardC all s j b) (guardOk all s j) (gPre (guardC all s j b) (isPk op) ((opsOf op).map (opd s))) (dem fr (opA T G d op ty (gAvs (isPk op) ((opsOf op).map (opd s))) m fr)) := rfl
section
variable {T : Tab} {G : Env} {all : List Oper} {m : Mem} {fr : Nat} {avs : List AV} {s : Nat → AV} {d : Option Tmp} {op : Op} {ty : TypeId} {p : String} {af : Array Edge} {g : Nat × Bool} {g' : Option (Nat × Bool)}
def gdM (g : Prop) (c : Bool) (k : Bool) (avs : List AV) (E : Eff) : Option Chc := some (gdC g c k avs E)
def gdO (T : Tab) (G : Env) (all : List Oper) (d : Option Tmp) (op : Op) (ty : TypeId) (p : String) (af : Array Edge) (j : Nat) (b : Bool) (s : Nat → AV) (m : Mem) (fr : Nat) : Nat → Option Chc
 | 4 => gdM (guardOk all s j) (guardC all s j b) (isPk op) ((opsOf op).map (opd s)) (opA T G d op ty (gAvs (isPk op) ((opsOf op).map (opd s))) m fr)
 | _ => none
theorem dC1 {j : Nat} {b : Bool} : altO T G all ⟨d, op, ty, p, af, some (j, b)⟩ s m fr = gdO T G all d op ty p af j b s m fr (wfOf G d) := by
 unfold gdO gdM; show (if wfOf G d = 4 then _ else _) = _; split
 · rename_i h; rw [h]; rfl
 · rename_i h; split
   · contradiction
   · rfl
theorem zD4 {j : Nat} {b : Bool} : gdO T G all d op ty p af j b s m fr 0 = none := rfl
theorem yD4 {j : Nat} {b : Bool} : gdO T G all d op ty p af j b s m fr 4 = gdM (guardOk all s j) (guardC all s j b) (isPk op) ((opsOf op).map (opd s)) (opA T G d op ty (gAvs (isPk op) ((opsOf op).map (opd s))) m fr) := rfl
section
variable {X : Wk} {os : List Oper} {s : Slots} {m : Heap} {k : List Itm} {j : Nat} {b : Bool}
def stH (X : Wk) (all os : List Oper) (d : Option Tmp) (s : Slots) (m : Heap) (fr : Nat) (k : List Itm) (g : Prop) (c : Bool) (gp : Prop) (E : Eff) : Prop :=
 (g ∧ gp ∧ (c = true → E.pre)) ∧ (c = false → evO X all os (putS s d (.ifd false E.r)) m (fr + 32) k) ∧ (c = true → E.asm → evO X all os (putS s d (.ifd true E.r)) (setMany m E.u) (fr + 32) k)
theorem dD2 {g gp p q : Prop} {c : Bool} {r : AV} {u : Heap} : stH X all os d s m fr k g c gp ⟨p, r, u, q⟩ = ((g ∧ gp ∧ (c = true → p)) ∧ (c = false → evO X all os (putS s d (.ifd false r)) m (fr + 32) k) ∧ (c = true → q → evO X all os (putS s d (.ifd true r)) (setMany m u) (fr + 32) k)) := rfl
theorem fC9 {o : Oper} {g : Prop} {c pk : Bool} {avs : List AV} {E : Eff} : stX X all os o s m fr k (gdM g c pk avs E) = stH X all os o.dst s m fr k g c (gPre c pk avs) E := by
 unfold stH; refine propext ⟨fun h => ⟨h.1, fun e => h.2 Two.n e, fun e q => h.2 Two.y ⟨e, q⟩⟩, fun h => ⟨h.1, fun q e => ?_⟩⟩
 cases q with
 | n => exact h.2.1 e
 | y => exact h.2.2 e.1 e.2
end
theorem kC7 {x} : altO T G all ⟨d, (.move x), ty, p, af, none⟩ s m fr = none := rfl
theorem uB8 {x} : altO T G all ⟨d, (.assign x), ty, p, af, none⟩ s m fr = none := rfl
theorem sC4 {x y z} : altO T G all ⟨d, (.pick x y z), ty, p, af, none⟩ s m fr = none := rfl
theorem kD0 {x y} : altO T G all ⟨d, (.box x y), ty, p, af, none⟩ s m fr = none := rfl
theorem uC4 {x y} : altO T G all ⟨d, (.load x y), ty, p, af, none⟩ s m fr = none := rfl
theorem kB4 {x} : altO T G all ⟨d, (.nilCheck x), ty, p, af, none⟩ s m fr = none := rfl
theorem gC5 {x y z} : altO T G all ⟨d, (.unOp x y z), ty, p, af, none⟩ s m fr = none := rfl
theorem kB5 {x y z} : altO T G all ⟨d, (.convert x y z), ty, p, af, none⟩ s m fr = none := rfl
theorem xB0 {x y z} : altO T G all ⟨d, (.fieldAddr x y z), ty, p, af, none⟩ s m fr = none := rfl
theorem sB5 {x y} : altO T G all ⟨d, (.extract x y), ty, p, af, none⟩ s m fr = none := rfl
theorem uC0 {x y} : altO T G all ⟨d, (.build x y), ty, p, af, none⟩ s m fr = none := rfl
theorem mA9 {x y z} : altO T G all ⟨d, (.buildSlice x y z), ty, p, af, none⟩ s m fr = none := rfl
theorem bC2 {x y z} : altO T G all ⟨d, (.store x y z), ty, p, af, none⟩ s m fr = none := rfl
theorem cC2 {x} : altO T G all ⟨d, (.alloc x), ty, p, af, none⟩ s m fr = none := rfl
theorem nB1 {x y z} : altO T G all ⟨d, (.indexAddr x y z), ty, p, af, none⟩ s m fr = none := rfl
theorem qC1 {x y z} : altO T G all ⟨d, (.index x y z), ty, p, af, none⟩ s m fr = none := rfl
theorem tB8 {x y z u} : altO T G all ⟨d, (.lookup x y z u), ty, p, af, none⟩ s m fr = none := rfl
theorem xC2 {x y z u v} : altO T G all ⟨d, .slice x y z u v, ty, p, af, none⟩ s m fr = chkC (opA T G d (.slice x y z u v) ty ((opsOf (.slice x y z u v)).map (opd s)) m fr) (noDst all d) := rfl
theorem aB9 {i : Nat} : noDst all (some i) = noRead i all := rfl
theorem sB8 {i : Nat} : noRead i [] = true := rfl
theorem cB5 {i : Nat} {os : List Oper} : noRead i (⟨d, op, ty, p, af, g'⟩ :: os) = (noR i (opsOf op) && noRead i os) := rfl
theorem pC8 {i : Nat} : noR i [] = true := rfl
theorem iC9 {i t : Nat} {xs : List Operand} : noR i (.tmp t :: xs) = (!(t == i) && noR i xs) := by
 simp only [noR]
 cases h : (t == i) with
 | true => have := eq_of_beq h; simp [this]
 | false => have := ne_of_beq_false h; simp [this]
theorem iC2 {i : Nat} {v : Value} {xs : List Operand} : noR i (.const v :: xs) = noR i xs := rfl
theorem wD2 {E : Eff} : chkC E false = none := rfl
theorem gB1 {x y z u} : altO T G all ⟨d, (.mapUpdate x y z u), ty, p, af, none⟩ s m fr = none := rfl
theorem mB3 {x y z} : altO T G all ⟨d, (.makeFunc x y z), ty, p, af, none⟩ s m fr = none := rfl
theorem aB2 {x y z} : altO T G all ⟨d, (.makeSlice x y z), ty, p, af, none⟩ s m fr = none := rfl
theorem gB5 {x y} : altO T G all ⟨d, (.makeMap x y), ty, p, af, none⟩ s m fr = none := rfl
theorem cC0 {b a t} : altO T G all ⟨d, (.call ⟨.builtin b, a, t⟩), ty, p, af, none⟩ s m fr = none := rfl
theorem bC6 {f a t} : altO T G all ⟨d, (.call ⟨.value f, a, t⟩), ty, p, af, none⟩ s m fr = altC G m fr ((opsOf ((.call ⟨.value f, a, t⟩))).map (opd s)) := rfl
theorem vD1 {o t x y u} : altO T G all ⟨d, (.binOp o t x y u), ty, p, af, none⟩ s m fr = altB m o y ((opsOf ((.binOp o t x y u))).map (opd s)) (TI.of T t).desc := rfl
theorem mC6 {o t D} : altB m o (.tmp t) avs D = none := by cases o <;> rfl
theorem iC5 {o k n D} : altB m o (.const (.int k n)) avs D = none := by cases o <;> rfl
theorem yC5 {o b D} : altB m o (.const (.string b)) avs D = none := by cases o <;> rfl
def altF (args : List AV) (m : Mem) (fr : Nat) : Option RCtr → Option Chc
 | some C => some (C args m fr)
 | none => none
theorem iC7 {i o : Nat} : capA (.loc i o) = .one (.loc i o) := rfl
attribute [go_sem] iC7
theorem kC0 {f caps a9s} : altC G m fr (.one (.fn f caps) :: a9s) = altF (a9s ++ caps.map capA) m fr (findL G.r f) := by
 simp only [altC]; cases findL G.r f <;> rfl
theorem hB4 {args} : altF args m fr none = none := rfl
theorem pB4 {args} {C : RCtr} : altF args m fr (some C) = some (C args m fr) := rfl
end
theorem uD1 {fr : Nat} {p q : Prop} {r : AV} : dem fr ⟨p, r, [], q⟩ = ⟨p, r, [], q⟩ := rfl
theorem jC9 {fr k k' e : Nat} {p q : Prop} {t : Ty} {xs : List t.den} : dem fr ⟨p, .one (.row k'), [(k, .row e t xs)], q⟩ = if k = fr ∧ k' = fr then ⟨p, .one (.sl t xs false), [], q⟩ else ⟨p, .one (.row k'), [(k, .row e t xs)], q⟩ := rfl
theorem jC5 {fr : Nat} {p q : Prop} {n : Bool} {u : Heap} : dem fr ⟨p, .one (.bool n), u, q⟩ = ⟨p, .one (.bool n), u, q⟩ := by
 unfold dem; split
 · rename_i h; cases h
 · rfl
theorem zC5 {m : Mem} : noop m [] = True := rfl
theorem tC1 {m : Mem} {p : Nat × Blk} {u : Heap} : noop m (p :: u) = (m p.1 = p.2 ∧ noop m u) := rfl
theorem sD4 {m : Mem} {c : Bool} {ok pp p q : Prop} {r : AV} {u : Heap} : gd m c ok pp ⟨p, r, u, q⟩ = ⟨ok ∧ pp ∧ (c = true → p) ∧ (c = true → noop m u), .ifd c r, [], c = true → q⟩ := rfl
theorem qC6 {e y : Bool} : bpick e true y = (e || y) := by cases e <;> rfl
theorem gC2 {e x : Bool} : bpick e x false = (e && x) := by cases e <;> simp [bpick]
def mvW (m : Mem) (fr : Nat) (v : AV) : Nat → Eff
 | 0 => okr v
 | _ + 1 => mvE m fr v
theorem yC6 {v : AV} : opA T G d (.move x) ty [v] m fr = mvW m fr v (wfOf G d) := by
 simp only [opA, opEff, mvW]; cases wfOf G d <;> rfl
theorem nC0 {id : Nat} : fullE m (.one (.row id)) = (match m id with
 | .row _ u xs => ⟨True, .one (.win id u.n 0 xs.length), [], True⟩
 | _ => bad) := rfl
theorem sC0 : nilRE T ty fr (.one .nilsl) = (match (TI.of T ty).desc with
 | .slice e => (match (TI.of T e).ty with
   | some t => ⟨True, .one (.row fr), [(fr, .row e t [])], True⟩
   | none => bad)
 | _ => bad) := rfl
theorem lC3 {id : Nat} : nilRE T ty fr (.one (.row id)) = okr (.one (.row id)) := rfl
theorem cC3 {a b c e : Nat} : fullE m (.one (.win a b c e)) = okr (.one (.win a b c e)) := rfl
theorem nA9 {v : AV} {t : Tmp} : opA T G d (.assign (.tmp t)) ty [v] m fr = if wfOf G d = 1 then fullE m v else if wfOf G d = 2 then nilRE T ty fr v else okr v := rfl
theorem kA9 {v : AV} {k : IntKind} {n : Int} : opA T G d (.assign (.const (.int k n))) ty [v] m fr = if wfOf G d = 1 then fullE m v else if wfOf G d = 2 then nilRE T ty fr v else okr v := rfl
theorem oA8 {v : AV} {q : Bool} : opA T G d (.assign (.const (.bool q))) ty [v] m fr = if wfOf G d = 1 then fullE m v else if wfOf G d = 2 then nilRE T ty fr v else okr v := rfl
theorem iA9 {v : AV} {q : ByteArray} : opA T G d (.assign (.const (.string q))) ty [v] m fr = if wfOf G d = 1 then fullE m v else if wfOf G d = 2 then nilRE T ty fr v else okr v := rfl
theorem hA9 {v : AV} : opA T G d (.assign (.const (.pointer none))) ty [v] m fr = if wfOf G d = 1 then fullE m v else if wfOf G d = 2 then nilRE T ty fr v else okr v := rfl
theorem uA6 {v : AV} : opA T G d (.assign (.const .nilFunc)) ty [v] m fr = if wfOf G d = 1 then fullE m v else if wfOf G d = 2 then nilRE T ty fr v else okr v := rfl
def nilE (T : Tab) (fr : Nat) : TD → Eff
 | .slice e => (match (TI.of T e).ty with | some t => ⟨True, .one (.row fr), [(fr, .row e t [])], True⟩ | none => bad)
 | _ => bad
def nilGE (T : Tab) (md fr : Nat) : TD → Eff
 | .slice e => (match (TI.of T e).ty with | some t => nilG (md - 8) fr e t (slAt t) | none => bad)
 | _ => bad
theorem lA9 {v : AV} : opA T G d (.assign (.const (.slice none 0 0))) ty [v] m fr = if 8 ≤ wfOf G d then nilGE T (wfOf G d) fr (TI.of T ty).desc else nilE T fr (TI.of T ty).desc := by
 simp only [opA, opEff, nilE, nilGE, nilC, if_true]
 cases (TI.of T ty).desc with
 | slice e =>
   simp only
   cases (TI.of T e).ty with
   | none => simp
   | some t => rfl
 | _ => simp
def ixE (q : ByteArray) (i : Int) : TD → Eff
 | .str => ⟨0 ≤ i ∧ i < q.size, .one (.int .u8 (byteAt q i)), [], True⟩
 | _ => bad
theorem iC3 {q : ByteArray} {k : IntKind} {i : Int} : opA T G d (.index t x y) ty [.one (.str q), .one (.int k i)] m fr = ixE q i (TI.of T t).desc := by
 simp only [opA, opEff, ixE]
 try (cases (TI.of T t).desc <;> rfl)
theorem wC5 {a b c : AV} : opA T G d (.pick x y z) ty [a, b, c] m fr = pickE (pickV a) (pickV b) (pickV c) := rfl
theorem vC1 {b : Bool} : pickV (.one (.bool b)) = some (true, b) := rfl
theorem kC1 {c b : Bool} : pickV (.ifd c (.one (.bool b))) = some (c, b) := rfl
theorem dC5 {ce e cx x cy y : Bool} : pickE (some (ce, e)) (some (cx, x)) (some (cy, y)) = ⟨ce = true ∧ (e = true → cx = true) ∧ (e = false → cy = true), .one (.bool (bpick e x y)), [], True⟩ := rfl
theorem nD2 {l : List AV} : gAvs true l = l := rfl
theorem cD2 {l : List AV} : gAvs false l = l.map stripV := rfl
theorem gD2 {c : Bool} {l : List AV} : gPre c true l = True := rfl
theorem iD3 {c : Bool} {l : List AV} : gPre c false l = allP (l.map (stripP c)) := rfl
theorem lC0 {x} : isPk (.move x) = false := rfl
theorem bC3 {x y z} : isPk (.pick x y z) = true := rfl
theorem vC0 {x y} : isPk (.load x y) = false := rfl
theorem kC4 {x y z} : isPk (.unOp x y z) = false := rfl
theorem gA9 {x y z} : isPk (.fieldAddr x y z) = false := rfl
theorem tA8 {x y z} : isPk (.buildSlice x y z) = false := rfl
theorem jA9 {x y z} : isPk (.indexAddr x y z) = false := rfl
theorem qB8 {x y z} : isPk (.index x y z) = false := rfl
theorem wB4 {x y z u} : isPk (.lookup x y z u) = false := rfl
theorem uB9 {x y z u v} : isPk (.slice x y z u v) = false := rfl
theorem aB1 {x y z} : isPk (.makeFunc x y z) = false := rfl
theorem hC0 {x} : isPk (.call x) = false := rfl
theorem hC7 {o t x y u} : isPk (.binOp o t x y u) = false := rfl
def biE (k k' : IntKind) (a c : Int) : BinOp → Eff
 | .shr => ⟨0 ≤ a ∧ 0 ≤ c ∧ c < 32, .one (.int k (a / 2 ^ c.toNat)), [], True⟩
 | o => binE o (.int k a) (.int k' c)
theorem wB5 {o : BinOp} {k k' : IntKind} {a c : Int} : opA T G d (.binOp o t x y z') ty [.one (.int k a), .one (.int k' c)] m fr = if wfOf G d = 6 then wrapE o k k' a c else biE k k' a c o := by cases o <;> rfl
def cvE (k : IntKind) (n : Int) (S D : TI) : Eff := match S.desc, S.ty, D.desc, D.ty with
 | .int, some (.int k1), .int, some (.int k2) => if k1 = k then ⟨InR k2 n, .one (.int k2 n), [], True⟩ else bad
 | _, _, _, _ => bad
theorem xC3 {s : TypeId} {id : Nat} : opA T G d (.convert s t x) ty [.one (.row id)] m fr = strE T m (TI.of T s) (TI.of T t) (.row id) := rfl
theorem uB5 {s : TypeId} {k : IntKind} {n : Int} : opA T G d (.convert s t x) ty [.one (.int k n)] m fr = cvE k n (TI.of T s) (TI.of T t) := rfl
theorem vB5 {o : BinOp} {a c : ByteArray} : opA T G d (.binOp o t x y z') ty [.one (.str a), .one (.str c)] m fr = binE o (.str a) (.str c) := rfl
def bbE (o : BinOp) (a c : Bool) : TD → Eff
 | .bool => binE o (.bool a) (.bool c)
 | _ => bad
theorem mB4 {o : BinOp} {a c : Bool} : opA T G d (.binOp o t x y z') ty [.one (.bool a), .one (.bool c)] m fr = bbE o a c (TI.of T t).desc := rfl
def eqE (o : BinOp) (xs ys : List C1) (ti : TI) : Eff := if ti.eqn = [] ∨ ti.agg = false then bad else (match o, eqCells ti.eqn xs ys with
 | .eql, some q => okr (.one (.bool q))
 | .neq, some q => okr (.one (.bool (!q)))
 | _, _ => bad)
theorem kB6 {o : BinOp} {xs ys : List C1} : opA T G d (.binOp o t x y z') ty [.agg xs, .agg ys] m fr = eqE o xs ys (TI.of T t) := rfl
theorem qC8 {c : Bool} : opA T G d (.unOp .not t x) ty [.one (.bool c)] m fr = okr (.one (.bool (!c))) := rfl
def allocD (t : TypeId) (fr : Nat) (z : List Z) : TD → Eff
 | .array n _ u => ⟨True, .one (.ep fr u.n 0 0), [(fr, .row t u (List.replicate n u.dflt))], True⟩
 | _ => if z = [] ∨ 31 < z.length then bad else ⟨True, .one (.loc fr 0), (mkZero z (fr + 1)).2 ++ [(fr, .cells t (mkZero z (fr + 1)).1)], True⟩
def allocE (t : TypeId) (fr : Nat) (ti : TI) : Eff := allocD t fr ti.zero ti.desc
def allocX (md : Nat) (t : TypeId) (fr : Nat) (z : List Z) : TD → Eff
 | .array n _ u => if 8 ≤ md then allocG (md - 8) fr t n u else if md = 2 then allocZ t fr z else ⟨True, .one (.ep fr u.n 0 0), [(fr, .row t u (List.replicate n u.dflt))], True⟩
 | _ => if 8 ≤ md then allocGS (md - 8) fr t z else if z = [] ∨ 31 < z.length then bad else ⟨True, .one (.loc fr 0), (mkZero z (fr + 1)).2 ++ [(fr, .cells t (mkZero z (fr + 1)).1)], True⟩
def ifU (q : Bool) (a b : Eff) : Eff := if q = true then a else b
theorem pD5 {a b : Eff} : ifU false a b = b := rfl
theorem nC4 : opA T G d (.alloc t) ty avs m fr = ifU (isU (TI.of T t)) ⟨True, .one (.loc fr 0), [(fr, .cells t [])], True⟩ (allocX (wfOf G d) t fr (TI.of T t).zero (TI.of T t).desc) := by
 simp only [opA, opEff, allocX, ifU]; cases (TI.of T t).desc <;> rfl
def boxE (t : TypeId) (fr : Nat) (cs : List C1) (sz : Nat) : Eff := if cs.length = sz ∧ 0 < sz ∧ cs.all known = true then ⟨True, .one (.loc fr 0), [(fr, .cells t cs)], True⟩ else bad
theorem rD0 {v : AV} : opA T G d (.box t x) ty [v] m fr = boxE t fr v.cells (TI.of T t).size := rfl
def ldW (gl : GVs) (m : Mem) (ti : TI) (fr : Nat) (c : C1) (md : Nat) : Eff := if md = 0 then loadX gl m ti c else loadG m ti md fr c
theorem zC2 {gl : GVs} {ti : TI} {id off : Nat} : loadX gl m ti (.loc id off) = loadE m ti (.loc id off) := rfl
theorem tC5 {gl : GVs} {ti : TI} {u : Ty} {x : u.den} {off : Nat} : loadX gl m ti (.rp u x off) = loadE m ti (.rp u x off) := rfl
theorem eC6 {gl : GVs} {ti : TI} {id sz off : Nat} {i : Int} : loadX gl m ti (.ep id sz i off) = loadE m ti (.ep id sz i off) := rfl
theorem nC1 {gl : GVs} {ti : TI} {fid i sz off : Nat} {k : Int} : loadX gl m ti (.nep fid i sz k off) = loadE m ti (.nep fid i sz k off) := rfl
theorem dC0 {gl : GVs} {ti : TI} {g : Nat} : loadX gl m ti (.glob g) = loadV m ti (findL gl g) := rfl
theorem sC6 {c : C1} : opA T G d (.load t x) ty [.one c] m fr = ldW G.gl m (TI.of T t) fr c (wfOf G d) := by
 simp only [opA, opEff, ldW]
 cases wfOf G d with
 | zero => rfl
 | succ k => simp
theorem kC2 {c : C1} {v : AV} : opA T G d (.store t x y) ty [.one c, v] m fr = ifU (isU (TI.of T t)) (storeU v c) (storeX m (TI.of T t) fr v c) := rfl
theorem mB8 {ti : TI} {v : AV} {fid i sz off : Nat} {k : Int} : storeX m ti fr v (.nep fid i sz k off) = storeN m ti v fid i sz k off (m fid) := rfl
theorem sB9 {ti : TI} {v : AV} {id off : Nat} : storeX m ti fr v (.loc id off) = storeE m ti v (.loc id off) := rfl
theorem yC3 {ti : TI} {v : AV} {id sz off : Nat} {i : Int} : storeX m ti fr v (.ep id sz i off) = if isG (m id) = true then storeG m ti fr id sz i off v (m id) else storeE m ti v (.ep id sz i off) := rfl
theorem fC6 {st id2 : Nat} {c : C1} : appX T st m fr c (.row id2) = if isG (m id2) = true then appG T st m fr c id2 (m id2) else appE T st m fr c (.row id2) := rfl
theorem rC9 {st : Nat} {c : C1} {u : Ty} {xs : List u.den} {cp : Bool} : appX T st m fr c (.sl u xs cp) = appE T st m fr c (.sl u xs cp) := rfl
theorem hB5 {id off : Nat} : opA T G d (.nilCheck x) ty [.one (.loc id off)] m fr = okr (.one (.loc id off)) := rfl
def buildE (T : Tab) (ps : List (Nat × AV)) (fr : Nat) (ti : TI) : Eff := match ti.desc with
 | .array n e u => if (TI.of T e).ty = some u then buildA n u.n fr ti ps else bad
 | .struct fs => if ti.zero = [] ∨ 32 < ti.zero.length then bad else match fillC fs (mkZero ti.zero fr).1 ps with
    | some cs => ⟨True, .agg cs, (mkZero ti.zero fr).2, True⟩
    | none => bad
 | _ => bad
theorem bC1 {ps : Array (Nat × Operand)} : opA T G d (.build t ps) ty avs m fr = ifU (isU (TI.of T t)) (buildU avs) (buildE T ((ps.toList.map (·.1)).zip avs) fr (TI.of T t)) := by
 simp only [opA, opEff, buildE, ifU]; cases (TI.of T t).desc <;> rfl
def bsE (T : Tab) (len fr : Nat) (idx : List Nat) (avs : List AV) (m : Mem) : TD → Eff
 | .slice e => match (TI.of T e).ty with
    | some u => match buildParts T e u m avs with
      | some xs => (match seqIdx idx len (TI.of T e).size avs.length with
        | true => ⟨True, .one (.row fr), (avs.flatMap fun v => (rowsOf v.cells).map (settle m)) ++ [(fr, .row e u xs)], True⟩
        | false => bad)
      | none => bad
    | none => bad
 | _ => bad
def bsGE (T : Tab) (md len fr : Nat) (idx : List Nat) (avs : List AV) (m : Mem) : TD → Eff
 | .slice e => (match avs with
    | [v] => if seqIdx idx len (TI.of T e).size avs.length = true then bsG T md fr e m v else bad
    | _ => bad)
 | _ => bad
theorem zD1 {len : Nat} {ps : Array (Nat × Operand)} : opA T G d (.buildSlice t len ps) ty avs m fr = if wfOf G d = 7 then bad else if 8 ≤ wfOf G d then bsGE T (wfOf G d) len fr (ps.toList.map (·.1)) avs m (TI.of T t).desc else bsE T len fr (ps.toList.map (·.1)) avs m (TI.of T t).desc := by
 simp only [opA, opEff, bsE, bsGE]
 cases (TI.of T t).desc with
 | slice e => rfl
 | _ => simp
def faE (f : Nat) (c : C1) : TD → Eff
 | .struct fs => fieldE fs f c
 | _ => bad
theorem hB2 {f : Nat} {c : C1} : opA T G d (.fieldAddr t x f) ty [.one c] m fr = faE f c (TI.of T t).desc := by
 simp only [opA, opEff, faE, intOf?]
 try (cases (TI.of T t).desc <;> rfl)
def fdE (f : Nat) (cs : List C1) : TD → Eff
 | .struct fs => (match fs[f]? with
    | some (off, sz, ag) => if off + sz ≤ cs.length then okr (avOf ag ((cs.drop off).take sz)) else bad
    | none => bad)
 | _ => bad
def iarE (T : Tab) (gl : GVs) (n : Nat) (e : TypeId) (u : Ty) (i : Int) : C1 → Eff
 | .ep id sz i0 off => if i0 = 0 ∧ off = 0 ∧ sz = u.n ∧ (TI.of T e).ty = some u then ⟨0 ≤ i ∧ i < n, .one (.ep id u.n i 0), [], 0 ≤ i ∧ i < n⟩ else bad
 | .loc id off => if (TI.of T e).ty = some u then locA n u.n id off i else bad
 | .glob g => glE T n e u i (findL gl g)
 | _ => bad
def iaE (T : Tab) (gl : GVs) (m : Mem) (i : Int) (c : C1) : TD → Eff
 | .slice e => indexE T e m i c
 | .array n e u => iarE T gl n e u i c
 | _ => bad
theorem oB0 {k : IntKind} {i : Int} {c : C1} : opA T G d (.indexAddr t x y) ty [.one c, .one (.int k i)] m fr = iaE T G.gl m i c (TI.of T t).desc := by
 simp only [opA, opEff, iaE, intOf?]; cases (TI.of T t).desc <;> first | rfl | (cases c <;> rfl)
def slE (T : Tab) (m : Mem) (c : C1) (lo hi mx : Option Int) : TD → Eff
 | .slice e => (match (TI.of T e).ty with
    | some u => sliceE m u c lo hi mx
    | none => bad)
 | .str => strSl c lo hi mx
 | _ => bad
def slwE (T : Tab) (m : Mem) (fr : Nat) (c : C1) (lo hi mx : Option Int) (D : TD) : Nat → Eff
 | 0 => slE T m c lo hi mx D
 | k + 1 => (match D with
   | .slice e => (match (TI.of T e).ty with
     | some u => winE m u fr c lo hi (k + 1)
     | none => bad)
   | _ => bad)
def slzE (T : Tab) (m : Mem) (c : C1) (lo hi mx : Option Int) (D : TD) : Nat → Eff
 | 0 => slE T m c lo hi mx D
 | _ + 1 => bad
theorem wC2 {d : Nat} : wfOf G (some d) = getL 0 G.wf d := rfl
theorem pC2 : wfOf G none = 0 := rfl
theorem kD4 {c : C1} {lo hi mx : Option Int} {D : TD} : slwE T m fr c lo hi mx D 0 = slE T m c lo hi mx D := rfl
theorem mD4 {c : C1} {lo hi mx : Option Int} {D : TD} : slwE T m fr c lo hi mx D 1 = (match D with
 | .slice e => (match (TI.of T e).ty with
   | some u => winE m u fr c lo hi 1
   | none => bad)
 | _ => bad) := rfl
theorem fD4 {c : C1} {lo hi mx : Option Int} {D : TD} : slwE T m fr c lo hi mx D 2 = (match D with
 | .slice e => (match (TI.of T e).ty with
   | some u => winE m u fr c lo hi 2
   | none => bad)
 | _ => bad) := rfl
theorem aD0 {c : C1} {i : Int} : opA T G d (.slice t x (some y) none none) ty [.one c, .one (.int .i64 i)] m fr = slwE T m fr c (some i) none none (TI.of T t).desc (wfOf G d) := by
 simp only [opA, opEff, slwE, slE, intOf?]
 cases (TI.of T t).desc with
 | slice e => cases wfOf G d with
   | zero => rfl
   | succ k => first | (cases (TI.of T e).ty <;> rfl) | (simp only []; cases (TI.of T e).ty <;> rfl)
 | _ => cases wfOf G d <;> rfl
theorem eD1 {c : C1} {i : Int} : opA T G d (.slice t x none (some y) none) ty [.one c, .one (.int .i64 i)] m fr = slwE T m fr c none (some i) none (TI.of T t).desc (wfOf G d) := by
 simp only [opA, opEff, slwE, slE, intOf?]
 cases (TI.of T t).desc with
 | slice e => cases wfOf G d with
   | zero => rfl
   | succ k => first | (cases (TI.of T e).ty <;> rfl) | (simp only []; cases (TI.of T e).ty <;> rfl)
 | _ => cases wfOf G d <;> rfl
theorem dD0 {c : C1} {i q : Int} : opA T G d (.slice t x (some y) (some z) none) ty [.one c, .one (.int .i64 i), .one (.int .i64 q)] m fr = slwE T m fr c (some i) (some q) none (TI.of T t).desc (wfOf G d) := by
 simp only [opA, opEff, slwE, slE, intOf?]
 cases (TI.of T t).desc with
 | slice e => cases wfOf G d with
   | zero => rfl
   | succ k => first | (cases (TI.of T e).ty <;> rfl) | (simp only []; cases (TI.of T e).ty <;> rfl)
 | _ => cases wfOf G d <;> rfl
def exE : Option AV → Eff
 | some v => okr v
 | none => bad
theorem xB4 {i : Nat} {vs : List AV} : opA T G d (.extract x i) ty [.tup vs] m fr = exE (vs[i]?) := by
 simp only [opA, opEff, exE]
 try (cases vs[i]? <;> rfl)
theorem aB4 {f : FuncId} {c : Array Operand} : opA T G d (.makeFunc (.func f) #[] c) ty avs m fr = (match onesOf avs with | some cs => okr (.one (.fn f cs)) | none => bad) := by
 simp only [opA, opEff]
 try (cases onesOf avs <;> rfl)
def mmE (T : Tab) (fr : Nat) : TD → Eff
 | .map k e => (match (TI.of T k).ty, (TI.of T e).vt with
    | some kt, some vt => if kindsOf kt = some (TI.of T k).eqn ∧ (TI.of T k).eqn ≠ [] then ⟨True, .one (.map fr), [(fr, .mapb kt vt (TI.of T k).agg (TI.of T e).agg [])], True⟩ else bad
    | _, _ => bad)
 | _ => bad
def luW (n : Nat) (a b : Eff) : Eff := if n = 3 then a else b
theorem wD4 {a b : Eff} : luW 0 a b = b := rfl
theorem lB6 : opA T G d (.makeMap t none) ty avs m fr = luW (wfOf G d) bad (mmE T fr (TI.of T t).desc) := by
 simp only [opA, opEff, mmE, luW, Option.isSome_none, true_and, decide_true]; cases (TI.of T t).desc <;> first | rfl | simp
def muE (T : Tab) (m : Mem) (id : Nat) (k v : AV) : TD → Blk → Eff
 | .map kT eT, .mapb kt vt ka va l => (match impl m kt k.cells, impl m vt v.cells with
    | some k', some x => if (TI.of T kT).ty = some kt ∧ (TI.of T eT).vt = some vt ∧ kindsOf kt = some (TI.of T kT).eqn ∧ (TI.of T kT).eqn ≠ [] ∧ k.cells.all known = true ∧ v.cells.all known = true ∧ rowsOf k.cells = [] ∧ k.ag = ka ∧ v.ag = va ∧ ka = (TI.of T kT).agg ∧ avA v = true then
       ⟨True, .one .undef, (rowsOf v.cells).map (settle m) ++ [(id, .mapb kt vt ka va (mset l k' x))], True⟩ else bad
    | _, _ => bad)
 | _, _ => bad
theorem xB1 {id : Nat} {k w : AV} : opA T G d (.mapUpdate t x y z) ty [.one (.map id), k, w] m fr = muE T m id k w (TI.of T t).desc (m id) := by
 simp only [opA, opEff, muE]; cases (TI.of T t).desc <;> first | rfl | (simp only; cases m id <;> rfl)
def luE (T : Tab) (m : Mem) (k : AV) (ok : Bool) : TD → Blk → Eff
 | .map kT eT, .mapb kt vt ka va l => (match impl m kt k.cells with
    | some k' => if (TI.of T kT).ty = some kt ∧ (TI.of T eT).vt = some vt ∧ kindsOf kt = some (TI.of T kT).eqn ∧ (TI.of T kT).eqn ≠ [] ∧ k.cells.all known = true ∧ rowsOf k.cells = [] ∧ (TI.of T eT).vz = true ∧ k.ag = ka ∧ va = (TI.of T eT).agg ∧ ka = (TI.of T kT).agg then
       ⟨True, (if ok then .tup [avOf (TI.of T eT).agg (expl vt ((mget l k').getD vt.dflt)), .one (.bool (mget l k').isSome)] else avOf (TI.of T eT).agg (expl vt ((mget l k').getD vt.dflt))), [], Wf vt ((mget l k').getD vt.dflt)⟩ else bad
    | none => bad)
 | _, _ => bad
theorem jB9 {id : Nat} {k : AV} {ok : Bool} : opA T G d (.lookup t x y ok) ty [.one (.map id), k] m fr = luW (wfOf G d) bad (luE T m k ok (TI.of T t).desc (m id)) := by
 simp only [opA, opEff, luE, luW]
 cases (TI.of T t).desc <;> first
  | rfl
  | (by_cases hw : wfOf G d = 3 <;> simp only [hw, if_true, if_false] <;> first | rfl | (cases m id <;> rfl))
  | (simp; done)
theorem tC7 {f : Operand} {args : Array Operand} {ts : Array TypeId} {g : FuncId} {caps : List C1} {a9s : List AV} :
 opA T G d (.call ⟨.value f, args, ts⟩) ty (.one (.fn g caps) :: a9s) m fr = getL (fun _ _ _ => bad) G.d g (a9s ++ caps.map capA) m fr := rfl
def lenE (m : Mem) (c : C1) : TD → Eff
 | .str => (match c with | .str s => ⟨True, .one (.int .i64 s.size), [], s.size ≤ maxLen⟩ | _ => bad)
 | .slice _ => (match lenOf m c with
    | some n => ⟨True, .one (.int .i64 n), [], n ≤ maxLen⟩
    | none => bad)
 | _ => bad
theorem tD1 {args : Array Operand} {c : C1} : opA T G d (.call ⟨.builtin .len, args, #[t]⟩) ty [.one c] m fr = lenE m c (TI.of T t).desc := by
 simp only [opA, opEff, lenE, builtinE]; cases (TI.of T t).desc <;> first | rfl | (cases c <;> rfl)
theorem lB9 {args : Array Operand} {c c' : C1} : opA T G d (.call ⟨.builtin .append, args, #[t, t]⟩) ty [.one c, .one c'] m fr = if wfOf G d = 9 then bad else appX T t m fr c c' := by
 simp [opA, opEff, builtinE]
def clE (T : Tab) (m : Mem) (x : C1) : TD → Eff
 | .slice e => (match (TI.of T e).ty with
    | some u => if (TI.of T e).zt = true then clearE e u m x else bad
    | none => bad)
 | _ => bad
def msE (T : Tab) (md fr : Nat) (n c : Int) : TD → Eff
 | .slice e => (match (TI.of T e).ty with
    | some u => if (TI.of T e).zt = true then (if 8 ≤ md then makeSG (md - 8) fr e (TI.of T e).bytes n c u else ⟨0 ≤ n ∧ n ≤ c ∧ c * (TI.of T e).bytes ≤ 140737488355328, .one (.row fr), [(fr, .row e u (List.replicate n.toNat u.dflt))], True⟩) else bad
    | none => bad)
 | _ => bad
theorem cC4 {args : Array Operand} {x : C1} : opA T G d (.call ⟨.builtin .clear, args, #[t]⟩) ty [.one x] m fr = clE T m x (TI.of T t).desc := by
 simp only [opA, opEff, clE, builtinE]; cases (TI.of T t).desc <;> rfl
theorem tB0 {n c : Int} : opA T G d (.makeSlice t x y) ty [.one (.int .i64 n), .one (.int .i64 c)] m fr = msE T (wfOf G d) fr n c (TI.of T t).desc := by
 simp only [opA, opEff, msE]; cases (TI.of T t).desc <;> rfl
theorem xD0 {args : Array Operand} {ts : Array TypeId} {k : IntKind} {a c : Int} : opA T G d (.call ⟨.builtin .min, args, ts⟩) ty [.one (.int k a), .one (.int k c)] m fr = okr (.one (.int k (if c < a then c else a))) := by
 simp [opA, opEff, builtinE]
theorem vC9 {args : Array Operand} {ts : Array TypeId} {k : IntKind} {a c : Int} : opA T G d (.call ⟨.builtin .max, args, ts⟩) ty [.one (.int k a), .one (.int k c)] m fr = okr (.one (.int k (if c > a then c else a))) := by
 simp [opA, opEff, builtinE]
end
def gdst (all : List Oper) (j : Nat) : Option Nat := (all[j]?).bind (·.dst)
theorem sC3 {o : Oper} {os : List Oper} : gdst (o :: os) 0 = o.dst := rfl
theorem xC0 {o : Oper} {os : List Oper} {j : Nat} : gdst (o :: os) (j + 1) = gdst os j := rfl
def gvA (b : Bool) : AV → Bool
 | .one (.bool e) => e == b
 | .ifd c (.one (.bool e)) => c && (e == b)
 | _ => false
def goA : AV → Prop
 | .one (.bool _) => True
 | .ifd _ (.one (.bool _)) => True
 | _ => False
def gv (s : Nat → AV) (b : Bool) : Option Nat → Bool
 | some d => gvA b (s d)
 | none => false
def go (s : Nat → AV) : Option Nat → Prop
 | some d => goA (s d)
 | none => False
theorem oC0 {all : List Oper} {s : Nat → AV} {j : Nat} {b : Bool} : guardC all s j b = gv s b (gdst all j) := by
 unfold guardC gdst gv
 cases (all[j]?).bind (·.dst) with
 | none => rfl
 | some d => simp only; cases s d with
   | one c => cases c <;> rfl
   | ifd c v => cases v with
     | one c => cases c <;> rfl
     | _ => rfl
   | _ => rfl
theorem qB9 {all : List Oper} {s : Nat → AV} {j : Nat} : guardOk all s j = go s (gdst all j) := by
 unfold guardOk gdst go
 cases (all[j]?).bind (·.dst) with
 | none => rfl
 | some d => simp only; cases s d with
   | one c => cases c <;> rfl
   | ifd c v => cases v with
     | one c => cases c <;> rfl
     | _ => rfl
   | _ => rfl
theorem sD0 {n : Int} : InR .i64 n = (-9223372036854775808 ≤ n ∧ n ≤ 9223372036854775807) := by simp [InR, IntKind.min, IntKind.max, IntKind.signed, IntKind.bits]
theorem gD4 {n : Int} : InR .u8 n = (0 ≤ n ∧ n ≤ 255) := by simp [InR, IntKind.min, IntKind.max, IntKind.signed, IntKind.bits]
def isIdx : Nat → Nat → List Nat → Bool
 | i, n, [] => decide (i = n)
 | i, n, j :: r => decide (j = i) && isIdx (i + 1) n r
theorem eB7 : ∀ (r : List Nat) (i n : Nat), n < i → isIdx i n r = false
 | [], i, n, h => by unfold isIdx; simp; omega
 | j :: r, i, n, h => by unfold isIdx; rw [eB7 r (i + 1) n (by omega)]; simp
theorem wB6 : ∀ (r : List Nat) (i n : Nat), i ≤ n → isIdx i n r = decide (r = List.range' i (n - i))
 | [], i, n, h => by
   unfold isIdx; by_cases e : i = n
   · subst e; simp
   · obtain ⟨k, hk⟩ : ∃ k, n - i = k + 1 := ⟨n - i - 1, by omega⟩
     simp [e, hk, List.range'_succ]
 | j :: r, i, n, h => by
   unfold isIdx; by_cases e : i = n
   · rw [eB7 r (i + 1) n (by omega)]; simp [e]
   · obtain ⟨k, hk⟩ : ∃ k, n - i = k + 1 := ⟨n - i - 1, by omega⟩; rw [wB6 r (i + 1) n (by omega), hk, List.range'_succ, show n - (i + 1) = k by omega]; by_cases hj : j = i <;> simp [hj]
theorem vC3 {idx : List Nat} {len sz n : Nat} : seqIdx idx len sz n = (isIdx 0 len idx && (decide (len * sz ≤ 16777216) && decide (n = len))) := by
 rw [wB6 idx 0 len (Nat.zero_le _)]; unfold seqIdx; rw [List.range_eq_range']; simp [Bool.decide_and]
theorem drawn {all : List Oper} {tb : List (List Nat × List Nat)} (h : drawOk all tb = true) : (drawOk all tb = true) = True := by simp [h]
theorem iB9 {F : List Nat} {fr : Nat} : keysOk F fr [] = true := rfl
theorem jB5 {F : List Nat} {fr k : Nat} {b : Blk} {r : Heap} : keysOk F fr ((k, b) :: r) = ((F.contains k || (decide (fr ≤ k) && decide (k < fr + 32))) && keysOk F fr r) := rfl
theorem EnvOk.nil {P : Program} {wf : List (Nat × Nat)} : EnvOk P ⟨[], [], wf, [], []⟩ := ⟨fun f C h => (by cases h), fun f C h => (by cases h), fun f C h => (by cases h), rfl⟩
theorem EnvOk.cons {P : Program} {f : FuncId} {C : Ctr} {d : List (Nat × Ctr)} {r : List (Nat × RCtr)} {wf : List (Nat × Nat)} {it : List (Nat × ItC)} (h : CtrOk P f C) (k : FnHas P f) (e : EnvOk P ⟨d, r, wf, it, []⟩) : EnvOk P ⟨(f, C) :: d, r, wf, it, []⟩ :=
 ⟨fun g D hg => (by
   simp only [findL] at hg; split at hg
   · rename_i q; subst q; cases hg; exact ⟨h, k⟩
   · exact e.d g D hg), e.r, e.it, e.gl⟩
theorem EnvOk.rcons {P : Program} {f : FuncId} {C : RCtr} {d : List (Nat × Ctr)} {r : List (Nat × RCtr)} {wf : List (Nat × Nat)} {it : List (Nat × ItC)} (h : RCtrOk P f C) (k : FnHas P f) (e : EnvOk P ⟨d, r, wf, it, []⟩) : EnvOk P ⟨d, (f, C) :: r, wf, it, []⟩ :=
 ⟨e.d, (fun g D hg => by
   simp only [findL] at hg; split at hg
   · rename_i q; subst q; cases hg; exact ⟨h, k⟩
   · exact e.r g D hg), e.it, e.gl⟩
attribute [go_sem] eq_self ne_eq Option.some.injEq uA6 Option.toList_some Option.toList_none List.map_cons List.map_nil List.nil_append List.append_nil List.cons_append List.length_cons List.length_nil List.toList_toArray List.take_succ_cons List.take_zero List.drop_succ_cons List.drop_zero List.take_nil List.drop_nil List.all_cons List.all_nil List.contains_cons List.contains_nil List.flatMap_cons List.flatMap_nil List.zip_cons_cons List.zip_nil_left List.getElem?_cons_zero List.getElem?_cons_succ List.getElem?_nil List.nodup_nil List.nodup_cons List.not_mem_nil List.mem_cons Option.getD_some Option.getD_none true_and and_true false_and and_false true_implies Bool.and_true Bool.true_and Bool.or_false Bool.false_or Bool.or_true Bool.true_or Bool.and_false Bool.false_and Bool.not_true Bool.not_false beq_false beq_true decide_true decide_false not_false_eq_true not_true_eq_false or_false false_or or_true true_or and_self or_self imp_self implies_true ite_true ite_false if_true if_false dite_true dite_false
attribute [go_sem] isUL isUD isU vtD TI.vt TI.vz avA storeU buildU pD5 BCon.ctr BCon.effB BCon.effR BCon.effZ BCon.eff bxs bxA bxC bxO inB IK.inn IK.rd IK.blk IK.c IK.fl updB updX bheap bnheap entB BCon.post allocZ arrFs buildA locA List.range_succ List.range_zero nC0 sC0 lC3 cC3 queB wrapE sealM sealB fidOf updM fidB nilGE nilG allocX allocG mB8 storeN allocGS mkZeroG makeSG sealHs loadS ldW loadG lendG peekG viewG ptrNil sB9 yC3 storeG backG putG isG fC6 rC9 appG catG bsGE bsG oneG sealG slAt Bool.false_eq_true dC1 zD4 yD4 fC9 dD2 lC5 xC3 strE allocD iarE wD4 sealE mvW mvE Nat.sub_zero kD4 mD4 fD4 wC2 pC2 cC4 tB0 clE msE clearE winOf winE appWin Option.map_some aB2 wD2 xC2 aB9 sB8 cB5 pC8 iC9 iC2 kC7 uB8 sC4 kD0 uC4 kB4 gC5 kB5 xB0 sB5 uC0 mA9 bC2 cC2 nB1 qC1 tB8 gB1 mB3 gB5 cC0 bC6 vD1 mC6 iC5 yC5 kC0 hB4 pB4 uB5 hB4 pB4 kC0 biE cvE aC6 tC6
theorem qC4 {m : Mem} : rowsN m [] = [] := rfl
attribute [go_sem] qC4
attribute [go_sem] zC2 tC5 eC6 nC1 dC0 loadV gB9 xB8 sD4 uD1 jC9 jC5 zC5 tC1 id_eq qC6 gC2 yC6 nA9 kA9 oA8 iA9 hA9 lA9 wC5 vC1 kC1 dC5 nD2 cD2 gD2 iD3 lC0 bC3 vC0 kC4 gA9 tA8 jA9 qB8 wB4 uB9 aB1 hC0 hC7 wB5 vB5 mB4 kB6 qC8 nC4 rD0 sC6 kC2 hB5 bC1 zD1 hB2 oB0 iC3 ixE aD0 eD1 dD0 xB4 aB4 lB6 xB1 jB9 tC7 tD1 lB9 xD0 vC9 nilE bbE eqE allocE boxE buildE bsE faE fdE iaE slE strSl strS exE mmE muE luE lenE zC4 sD1 pC6 cC9 pC3 bC5 kB8 gC6 aD1 hD4 vC8 cC6 rD2 mC5 pD0 eB6 dB3 lD1 oB5 uB3 pB8 iB6 dC4 zC3 dD3 oB9 yB5 only gD0 sC3 xC0 gvA goA gv go oC0 qB9 iB9 jB5 pslots pheap Con.post rvE rvP rvS rvL rslots ent mOk mpGet bindId matchC matchCs matchA matchS matchB matchM findL Mt.no sD0 gD4 decide_eq_true_eq decide_eq_false_iff_not Wf pwf pwf1 opsOf callOps opd constAV constC putS setL setMany keepL okr sget getL mem restr touch touchX touchM isMv fidB idsA idsAs idsC idsCs idsB binE loadE storeE fieldE indexE sliceE appE lenOf view bA8 expl avOf impl implI implB implS implU implL implP Ty.n Ty.dflt AV.cells AV.ag known rowsOf settle mkZero fillC overC eqCells vC3 isIdx buildParts seqO onesOf stripV stripP allP kindsOf rd rds rdBlk rdMap rdRow rdFb rdBx rdCap rdCaps castMap capIds pid pids splitM rdPm pmId Option.map_some blkRows capRows rw1 rws okIds capCids pcid pcids capAvs pav capBlk capBlks capNb capNbs pbl nbl pheapB nheap pupd rav rblk ravs rheap rwf rwf1 rflat cflat pflat cwf flat pack Con.ctr Con.eff Con.effO updC RCon.chc RCon.chcO RCon.rctr entR postR RCon.post
attribute [go_sem] Prod.eta Option.isSome_none Option.isSome_some Int.toNat_zero Nat.reduceAdd Nat.reduceMul Nat.reduceSub Nat.reduceEqDiff Nat.reduceLT Nat.reduceLeDiff Nat.reduceShiftRight Nat.reduceMod Nat.reduceBEq reduceCtorEq reduceIte reduceDIte Int.reduceNeg
theorem bP : (∀ b : Bool, ((!b) = true) = (b = false)) ∧ (∀ b : Bool, ((!b) = false) = (b = true)) ∧ (∀ a b : Bool, ((a || b) = true) = (a = true ∨ b = true)) ∧ (∀ a b : Bool, (a || b) = false ↔ a = false ∧ b = false) ∧ (∀ a b : Bool, ((a && b) = true) = (a = true ∧ b = true)) ∧ (∀ a b : Bool, (a && b) = false ↔ a = false ∨ b = false) ∧ (∀ (p : Prop) [Decidable p], (decide p = true) = p) ∧ (∀ (p : Prop) [Decidable p], decide p = false ↔ ¬ p) ∧ (∀ p : Prop, ¬ ¬ p ↔ p) ∧ (∀ p q : Prop, ¬ (p ∨ q) ↔ ¬ p ∧ ¬ q) ∧ maxLen = 2 ^ 63 - 1 :=
 ⟨Bool.not_eq_true', Bool.not_eq_false', Bool.or_eq_true, fun a b => Bool.or_eq_false_iff, Bool.and_eq_true, fun a b => Bool.and_eq_false_iff, fun p => decide_eq_true_eq, fun p => decide_eq_false_iff_not, fun p => Classical.not_not, fun p q => not_or, rfl⟩
theorem lqT {α : Type} {x : Option α} {a b : α} (h : x = some a) (e : a = b) : x = some b := h.trans (congrArg some e)
theorem tsE {α : Type} {l : List α} {i : Nat} (h : i < l.length) : l.take (i + 1) = l.take i ++ [l[i]] := List.take_succ_eq_append_getElem h
theorem gdE {α : Type} {l : List α} {i : Nat} {a : α} : l.getD i a = (l[i]?).getD a := List.getD_eq_getElem?_getD
theorem eN {P : Program} : EnvOk P ⟨[], [], [], [], []⟩ := EnvOk.nil
theorem eC {P : Program} {f : FuncId} {C : Ctr} {d : List (Nat × Ctr)} {r : List (Nat × RCtr)} {wf : List (Nat × Nat)} {it : List (Nat × ItC)} (h : CtrOk P f C) (k : FnHas P f) (e : EnvOk P ⟨d, r, wf, it, []⟩) : EnvOk P ⟨(f, C) :: d, r, wf, it, []⟩ := EnvOk.cons h k e
end Go.Ev
