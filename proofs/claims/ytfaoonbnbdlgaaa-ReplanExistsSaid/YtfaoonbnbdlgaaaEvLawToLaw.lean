/- A law: its contract gives its row. -/
import Derived.Test.YtfaoonbnbdlgaaaRlRG2ToRow
import Derived.Test.YtfaoonbnbdlgaaaRlTab
import Derived.WalkKit
import Derived.ProofKit
set_option linter.unusedSimpArgs false
set_option linter.unusedVariables false
namespace Go.Ev
open Go.RowKit Go.WideShapes Go.ChangeShapes

def lawPs (tys : List (Bool × Ty)) : List PK := tys.map fun p => .d p.1 p.2

/-- A law's contract: true. -/
def lawCon (tys : List (Bool × Ty)) (pre : dens (lawPs tys) → Prop) : Con := ⟨lawPs tys, [.d false .bool], pre, fun _ => (true, ()), id⟩

def szs : (tys : List (Bool × Ty)) → dens (lawPs tys) → Nat
 | [], _ => 0
 | p :: tys, x => sz p.2 x.1 + szs tys x.2

def tyBs (P : Program) : List TypeId → List (Bool × Ty) → Bool
 | [], [] => true
 | t :: ts, p :: tys => tyB P 20 t p.2 && (isAggB P t == p.1) && tyBs P ts tys
 | _, _ => false

theorem impl_expl (m : Mem) : ∀ (t : Ty) (y : t.den), impl m t (expl t y) = some y
 | .int k, n => by simp [impl, expl, implI]
 | .bool, b => rfl
 | .str, s => rfl
 | .unit, _ => rfl
 | .sl t, xs => by simp [impl, expl, implL, view, castTy_self]
 | .pair a b, p => by
   simp only [impl, expl]
   rw [List.take_append_of_le_length (by rw [expl_len]; omega), List.take_of_length_le (by rw [expl_len]; omega), List.drop_append_of_le_length (by rw [expl_len]; omega), List.drop_of_length_le (by rw [expl_len]; omega), List.nil_append]
   rw [impl_expl m a, impl_expl m b]
   rfl

section
variable {H : Type} {enc : TypeId × Value → H} {P : Program} {W : World} {B : DataW H → Nat} {BA : List (DataW H) → Nat}

theorem tyB_und {d : Nat} {t : TypeId} {u : Ty} (h : tyB P d t u = true) : ∃ de, P.underlying t = some de ∧ (match de with | .struct _ | .int _ | .bool | .string | .slice _ => True | _ => False) := by
 cases d with
 | zero => cases h
 | succ d =>
   simp only [tyB, Bool.and_eq_true] at h
   have h2 := h.2
   cases hu : P.underlying t with
   | none => rw [hu] at h2; cases h2
   | some de =>
     rw [hu] at h2
     refine ⟨de, rfl, ?_⟩
     cases de <;> first | trivial | (cases h2; done)

theorem val_rep (hB : Bulk B BA) {t : TypeId} {ag : Bool} {u : Ty} {v : Value} {d : DataW H} {ps : List MemPlace} {base : Nat} (hty : tyB P 20 t u = true) (hag : isAggB P t = ag) (hv : Value.okWide P W .any base t v)
 (h : DataW.Trod enc P W 0 (fun _ => true) true t v d ps) : ∃ y : u.den, repA ⟨W, fun _ => False, fun _ => .int .i64 0, fun _ => True⟩ (avOf ag (expl u y)) v ∧ sz u y ≤ B d ∧ Wf u y ∧ (ag = false → (expl u y).length = 1) := by
 obtain ⟨fuel, h⟩ := h
 obtain ⟨y, h1, h2⟩ := trod_ro hB fuel 20 t u _ _ hty h
 have h3 := expl_rep (x := ⟨W, fun _ => False, fun _ => .int .i64 0, fun _ => True⟩) u y _ h1
 have hl := repCs_len _ _ h3
 have hwf := ro_wf u y _ h1
 cases ag with
 | true =>
   refine ⟨y, ?_, h2, hwf, fun e => by cases e⟩
   have : ∃ cs, v = .agg cs := by
    unfold Value.okWide at hv
    unfold isAggB at hag
    cases hu : P.underlying t with
    | none => rw [hu] at hag; cases hag
    | some de =>
      rw [hu] at hv hag
      cases de <;> simp [aggB] at hag <;> (obtain ⟨cs, e, _⟩ := hv; exact ⟨cs, e⟩)
   obtain ⟨cs, rfl⟩ := this
   unfold avOf repA
   simp only [if_true]
   exact ⟨cs.toList, by simp, h3⟩
 | false =>
   have : v.cells.toList = [v] := by
    unfold Value.okWide at hv
    unfold isAggB at hag
    obtain ⟨de, hu, hde⟩ := tyB_und hty
    · rw [hu] at hv hag
      cases de <;> simp [aggB] at hag <;> simp only at hv hde <;> first
       | exact hde.elim
       | (unfold Cell.okWide Cell.ok at hv; rw [hu] at hv; cases v <;> first | rfl | exact False.elim hv)
   rw [this] at h3 hl
   refine ⟨y, ?_, h2, hwf, fun _ => by simpa using hl.symm⟩
   match hx : expl u y, hl with
   | [c], _ =>
     rw [hx] at h3
     obtain ⟨v', r, e, g1, _⟩ := repCs_cons.1 h3
     cases e
     unfold avOf repA
     simp only [Bool.false_eq_true, if_false]
     exact g1

/-- The arguments. -/
theorem args_rep (hB : Bulk B BA) : ∀ (ts : List TypeId) (tys : List (Bool × Ty)) (vs : List Value) (ds : List (DataW H)) (ps : List MemPlace) (base : Nat), tyBs P ts tys = true → DataW.TrodAll enc P W 0 (fun _ => true) true ts vs ds ps →
 (∀ (j : Nat) (t : TypeId) (v : Value), ts[j]? = some t → vs[j]? = some v → Value.okWide P W .any base t v) → ∃ (x : dens (lawPs tys)) (avs : List AV), repAs ⟨W, fun _ => False, fun _ => .int .i64 0, fun _ => True⟩ avs vs ∧ rds (fun _ => .dead) (lawPs tys) avs = some x ∧ pids (fun _ => Blk.dead) (lawPs tys) avs = [] ∧ szs tys x ≤ BA ds ∧ pwf (lawPs tys) x
 | [], [], vs, ds, ps, base, _, h, _ => by
   obtain ⟨rfl, rfl, rfl⟩ := trodAll_nil h
   exact ⟨(), [], by unfold repAs; rfl, rfl, rfl, Nat.zero_le _, trivial⟩
 | [], _ :: _, _, _, _, _, h, _, _ => by cases h
 | _ :: _, [], _, _, _, _, h, _, _ => by cases h
 | t :: ts, (ag, u) :: tys, vs, ds, ps, base, hty, h, hv => by
   obtain ⟨v, vs, d, ds, p, q, rfl, rfl, rfl, h1, h2⟩ := trodAll_cons h
   simp only [tyBs, Bool.and_eq_true, beq_iff_eq] at hty
   obtain ⟨y, g1, g2, g3, g4⟩ := val_rep hB hty.1.1 hty.1.2 (hv 0 t v rfl rfl) h1
   obtain ⟨x, avs, k1, k2, k3, k4, k5⟩ := args_rep hB ts tys vs ds q base hty.2 h2 (fun j t v ht hj => hv (j + 1) t v (by simpa using ht) (by simpa using hj))
   refine ⟨(y, x), avOf ag (expl u y) :: avs, by unfold repAs; exact ⟨v, vs, rfl, g1, k1⟩, ?_, ?_, ?_, ⟨g3, k5⟩⟩
   · have : rd (fun _ => Blk.dead) (.d ag u) (avOf ag (expl u y)) = some y := by
      cases ag with
      | true => simp only [avOf, if_true, rd]; exact impl_expl _ u y
      | false =>
        have := g4 rfl
        match hx : expl u y, this with
        | [c], _ =>
          simp only [avOf, Bool.false_eq_true, if_false, rd]
          rw [← hx]; exact impl_expl _ u y
     show implP (rd _ (.d ag u) _) (rds _ (lawPs tys) avs) = _
     rw [this, k2]; rfl
   · show pid (fun _ => Blk.dead) (.d ag u) (avOf ag (expl u y)) ++ pids _ (lawPs tys) avs = []
     have : pid (fun _ => Blk.dead) (.d ag u) (avOf ag (expl u y)) = [] := by
      cases avOf ag (expl u y) with
      | one c => cases c <;> rfl
      | _ => rfl
     rw [this]; exact k3
   · rw [hB.cons]
     simp only [szs]
     omega

theorem law_calls (hB : Bulk B BA) {f : FuncId} {tys : List (Bool × Ty)} {pre : dens (lawPs tys) → Prop} (hC : CtrOk P f (lawCon tys pre).ctr) {ts : List TypeId} (hty : tyBs P ts tys = true) {args : Array Value} {ds : List (DataW H)} {ps : List MemPlace} {base : Nat}
 (hA : DataW.TrodAll enc P W 0 (fun _ => true) true ts args.toList ds ps) (hv : ∀ (j : Nat) (t : TypeId) (v : Value), ts[j]? = some t → args.toList[j]? = some v → Value.okWide P W .any base t v)
 (hpre : ∀ x, szs tys x ≤ BA ds → pwf (lawPs tys) x → pre x) : Calls P f args W fun e W' => e = .returned (.bool true) ∧ Below W.heap.size W W' := by
 obtain ⟨x, avs, h1, h2, h3, h4, h5⟩ := args_rep hB ts tys _ ds ps base hty hA hv
 let cx : Cx := ⟨W, fun _ => False, fun _ => False, 0, fun _ => .int .i64 0, [], fun _ => none, False, []⟩
 have hM : RepM cx (fun _ => .int .i64 0) (fun _ => True) (fun _ => .dead) W :=
  ⟨fun _ => trivial, fun _ _ => rfl, fun _ _ _ h => (by cases h), fun _ _ h => (by cases h), fun _ _ h => (by cases h), ⟨rfl, rfl, rfl, fun _ => Nat.le_refl _, Nat.le_refl _, fun _ _ _ => rfl⟩, fun _ h => h.elim, fun _ => rfl, fun _ h => absurd h (Nat.not_lt_zero _), (fun _ h => by cases h), fun _ _ h => by cases h⟩
 have hr : repAs (rx cx (fun _ => .int .i64 0) (fun _ => True) (fun _ => .dead) W) avs args.toList := by
  refine repAs_keep (x := ⟨W, fun _ => False, fun _ => .int .i64 0, fun _ => True⟩) (y := rx cx (fun _ => .int .i64 0) (fun _ => True) (fun _ => .dead) W) ⟨.ex fun b _ _ => ⟨?_, rfl⟩, fun _ _ => rfl, fun _ h => h⟩ avs _ h1
  rintro (h | ⟨id, h, _⟩)
  · exact h
  · cases h
 have hp := hpre x h4 h5
 have hE : (lawCon tys pre).ctr avs (fun _ => .dead) 0 = (lawCon tys pre).eff avs (fun _ => .dead) 0 x := by
  show (lawCon tys pre).effO avs (fun _ => .dead) 0 (rds (fun _ => .dead) (lawPs tys) avs) = _
  rw [h2]
  show (if okIds (pids _ (lawPs tys) avs) (rws _ (lawPs tys) avs) then _ else _) = _
  rw [h3, if_pos ⟨List.nodup_nil, rfl⟩]
 have := hC False [] False.elim cx ⟨rfl, rfl⟩ (fun _ => .int .i64 0) (fun _ => True) (fun _ => .dead) W 0 avs args.toList hM (fun _ _ _ => trivial) hr (by rw [hE]; exact hp)
 rw [Array.toArray_toList] at this
 refine this.mono fun e W' he => ?_
 obtain ⟨v, rfl, σ', g1, g2, g3, _⟩ := he
 rw [hE] at g3
 have hb : v = .bool true := of_bool g3
 subst hb
 exact ⟨rfl, g1.evo.os, g1.evo.tape, g1.evo.output, g1.evo.size, fun k hk => g1.evo.block k hk (fun h => h)⟩

theorem trodAll_stays (hl : laidOutB P = true) {W' : World} {sp : Nat → Bool} : ∀ (ts : List TypeId) (vs : List Value) (ds : List (DataW H)) (ps : List MemPlace), (ts.all fun t => P.readableRec t && decide (t < P.types.size)) = true → DataW.TrodAll enc P W 0 (fun _ => true) true ts vs ds ps →
 (∀ p ∈ ps, W.sameAt W' p) → (∀ p ∈ ps, sp p.block = true) → DataW.TrodAll enc P W' 0 sp true ts vs ds ps
 | [], vs, ds, ps, _, h, _, _ => by obtain ⟨rfl, rfl, rfl⟩ := trodAll_nil h; exact trodAll_mk0
 | t :: ts, vs, ds, ps, hr, h, hs, hsp => by
   obtain ⟨v, vs, d, ds, p, q, rfl, rfl, rfl, h1, h2⟩ := trodAll_cons h
   simp only [List.all_cons, Bool.and_eq_true, decide_eq_true_eq] at hr
   exact ⟨p, q, WideElems.Trod_stays hl hr.1.1 hr.1.2 h1 (fun x hx => hs x (by simp [hx])) (fun x hx => hsp x (by simp [hx])),
    trodAll_stays hl ts vs ds q hr.2 h2 (fun x hx => hs x (by simp [hx])) (fun x hx => hsp x (by simp [hx])), rfl⟩

/-- THE ROW's POST: true; what was there is as it was. -/
theorem law_post {f : Func} {s : ChangeSpec} {apart fresh handsOn again : Bool} {W' : World} {args : Array Value} {ds gs : List (DataW H)} {before : List MemPlace} (hl : laidOutB P = true) (hr : (f.params.toList.all fun t => P.readableRec t && decide (t < P.types.size)) = true)
 {tb : TypeId} (hres : f.resultTypes = #[tb]) (htb : P.underlying tb = some .bool) (hvars : s.vars = []) (hsf : (s.fn H (ds ++ gs)).results = [.lit (.bool true)] ∧ (s.fn H (ds ++ gs)).args = ds ∧ (s.fn H (ds ++ gs)).vars = [])
 (hW : DataW.Whole enc P f.params.toList s.vars apart W args.toList ds gs before) (hb : Below W.heap.size W W') : s.post enc P f apart fresh handsOn again W args (.bool true) W' := by
 have hlt : ∀ p ∈ before, p.block < W.heap.size := fun p hp => hW.lt p hp
 obtain ⟨pa, pv, hA, hV, hps, hz, hn⟩ := hW
 rw [hvars] at hV
 obtain ⟨rfl, rfl⟩ := trodVars_none hV
 have hbe : before = pa := by rw [hps, List.append_nil]
 subst hbe
 have hargs : ∀ sp : Nat → Bool, (∀ p ∈ before, sp p.block = true) → DataW.TrodAll enc P W' 0 sp true f.params.toList args.toList ds before := fun sp hsp =>
  trodAll_stays hl _ _ _ _ hr hA (fun p hp => hb.same (hlt p hp)) hsp
 have hbool : ∀ (b : Nat) (sp : Nat → Bool) (hd : Bool), DataW.TrodAll enc P W' b sp hd f.resultTypes.toList ((Value.bool true).resultList f.resultTypes.size) (s.fn H (ds ++ [])).results [] := fun b sp hd => by
  rw [hsf.1, hres]; exact trodAll_cons_mk (shut_bool htb true) trodAll_mk0
 refine ⟨ds, [], before, [], before, [], ⟨before, [], hA, by rw [hvars]; rfl, by simp, hz, hn⟩, hbool _ _ _, ?_, ?_, ?_, fun _ => ?_⟩
 · rw [hsf.2.1]; exact hargs _ (fun p hp => by simpa using hlt p hp)
 · rw [hvars, hsf.2.2]; rfl
 · exact World.keptBut_mono (fun p hp => ⟨hp, .inr (by simpa using hp)⟩) (hb.frame (· ∈ before))
 · refine ⟨ok_one hres rfl (okWide_bool_mk htb true), _, [], [] ++ before, ⟨[] ++ before, [], trodAll_append (hargs _ (fun _ _ => rfl)) (hbool _ _ _), by rw [hvars]; rfl, by simp, fun b off hp => ?_, fun ha => by simpa using hn ha⟩, fun p hp _ => by simpa using hp⟩
   have hp' : MemPlace.cell b off ∈ before := by simpa using hp
   rw [hb.frozen (hlt _ hp')]
   exact hz b off hp'

end
end Go.Ev

/- The bulk of the second form's premise fits our reading of data; the program's frame. -/
namespace Go.Proofs.Ytfaoonbnbdlgaaa
open Go.Ev Go.ChangeShapes Go.WideShapes Go.ChangeAt Go.RowKit

theorem bulk_ok (H : Type) : Bulk (H := H) Rows.uptoBulk Rows.uptoBulkAll where
 lit l := by cases l <;> simp [Rows.uptoBulk]
 str b := by simp [Rows.uptoBulk]
 nil := by simp [Rows.uptoBulk]
 sl a b := by simp only [Rows.uptoBulk]; omega
 agg a := by simp only [Rows.uptoBulk]; omega
 cons d r := by simp only [Rows.uptoBulkAll]

theorem own : ownKnob Try.prog.godebug = none := by kernel_rfl
theorem laid : laidOutB Try.prog = true := by kernel_rfl
end Go.Proofs.Ytfaoonbnbdlgaaa
