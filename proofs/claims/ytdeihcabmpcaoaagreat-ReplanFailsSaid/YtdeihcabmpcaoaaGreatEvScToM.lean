/- A contract whose first argument is a pointer to a struct that nobody changes any more: the struct's cells are sealed ahead of the call. -/
import Derived.Test.YtdeihcabmpcaoaaGreatEvFun5ToBox
import Derived.Test.YtdeihcabmpcaoaaGreatEvG8ToReg
import Derived.Test.YtdeihcabmpcaoaaGreatEvSimp
import Derived.Test.YtdeihcabmpcaoaaGreatRfRXToRK
set_option linter.unusedSimpArgs false
set_option linter.unusedVariables false
namespace Go.Ev

def scU (id : Nat) : Blk → Option (Heap × List C1)
 | .cells _ cs => some ([(id, .scell cs)], cs)
 | .scell cs => some ([], cs)
 | _ => none
def Eff.addU (u : Heap) (E : Eff) : Eff := ⟨E.pre, E.r, u ++ E.u, E.asm⟩
theorem Eff.addU_mk {u : Heap} {p : Prop} {r : AV} {v : Heap} {q : Prop} : Eff.addU u ⟨p, r, v, q⟩ = ⟨p, r, u ++ v, q⟩ := rfl
def scQ (C : Ctr) (r : List AV) (m : Mem) (fr : Nat) : Option (Heap × List C1) → Eff
 | some (u, cs) => Eff.addU u (C (.one (.sp cs 0) :: r) (updM m u) fr)
 | none => bad
def scB (C : Ctr) : Ctr := fun avs m fr => match avs with
 | .one (.loc id 0) :: r => scQ C r m fr (scU id (m id))
 | _ => bad

section
variable {cx : Cx} {σ : Nat → Value} {N : Nat → Prop} {m : Mem} {w : World} {fr : Nat} {P : Program}
theorem sc_here (h : RepM cx σ N m w) {id : Nat} {e : TypeId} {cs : List C1} (hm : m id = .cells e cs) :
 RepM cx σ N (updM m [(id, .scell cs)]) w ∧ Rx.Keeps (rx cx σ N m w) (rx cx σ N (updM m [(id, .scell cs)]) w) := by
 have hb := h.blk id
 rw [hm] at hb
 obtain ⟨b, vs, e1, e2, k, k1⟩ := hb
 simp only [rx] at e1 e2
 have oid : own (m id) = true := by rw [hm]; rfl
 have hbid : hb (σ id) b := by rw [e1, hb_ptr]; rfl
 have m1 : updM m [(id, .scell cs)] id = .scell cs := by simp [updM]
 have m2 : ∀ i, i ≠ id → updM m [(id, .scell cs)] i = m i := fun i hi => by
  simp only [updM]; rw [if_neg (fun k => hi k.symm)]
 have hno : ¬ Owned cx σ (updM m [(id, .scell cs)]) b := by
  rintro (hf | ⟨i, ho, hbi⟩)
  · exact h.notF id b oid hbid hf
  · by_cases hi : i = id
    · rw [hi, m1] at ho; cases ho
    · rw [m2 i hi] at ho
      exact hi (h.inj i id b ho oid hbi hbid)
 exact h.stepD (σ' := σ) (N' := N) (m' := updM m [(id, .scell cs)]) (w' := w) (fun i => i = id) (fun _ k => k)
  (fun i k => by
    by_cases hi : i = id
    · have := h.fresh i k
      rw [hi, hm] at this; cases this
    · rw [m2 i hi]; exact h.fresh i k)
  (fun i k => ⟨m2 i k, rfl⟩) (fun _ _ => rfl) (fun _ _ _ => rfl) ⟨Nat.le_refl _, fun _ => Nat.le_refl _⟩ rfl rfl rfl
  (fun i b' hi ho hbb => by rw [hi, m1] at ho; cases ho)
  (fun i i' b' hi hi' ho => by rw [hi, m1] at ho; cases ho)
  (fun i hi => h.hone i)
  (fun hk i hi => by
    rw [hi, m1]
    exact ⟨b, vs, e1, repCs_keep hk cs vs k, fun j u hu => ⟨hno, by
     show w.cell? _ = _
     rw [cell_at e2, Nat.zero_add]; exact hu⟩⟩)

theorem sc_arg (h : RepM cx σ N m w) {id : Nat} {cs : List C1} (hm : m id = .scell cs) {v : Value} (hv : repC (rx cx σ N m w) (.loc id 0) v) :
 repC (rx cx σ N m w) (.sp cs 0) v := by
 have hb := h.blk id
 rw [hm] at hb
 obtain ⟨b, vs, e1, k, k1⟩ := hb
 unfold repC at hv ⊢
 obtain ⟨_, b', e3, e4⟩ := hv
 rw [e1] at e3
 simp at e3; subst e3
 exact ⟨b, vs, e4, k, k1⟩

theorem scB_ok {f : FuncId} {C : Ctr} (hC : CtrOk P f C) : CtrOk P f (scB C) := by
 intro D gv hD cx hcx σ N m w fr avs vs h hfr hr hp
 unfold scB at hp ⊢
 split at hp
 · rename_i id r
   unfold repAs at hr
   obtain ⟨v, vs', rfl, g1, g2⟩ := hr
   have g3 : repC (rx cx σ N m w) (.loc id 0) v := by unfold repA at g1; exact g1
   cases hm : scU id (m id) with
   | none => simp only [hm] at hp; exact hp.elim
   | some p =>
     obtain ⟨u, cs⟩ := p
     simp only [hm] at hp ⊢
     have key : RepM cx σ N (updM m u) w ∧ Rx.Keeps (rx cx σ N m w) (rx cx σ N (updM m u) w) ∧ updM m u id = .scell cs := by
      unfold scU at hm
      split at hm
      · rename_i e cs' hc
        cases hm
        obtain ⟨k1, k2⟩ := sc_here h hc
        exact ⟨k1, k2, by simp [updM]⟩
      · rename_i cs' hc
        cases hm
        exact ⟨h, ⟨.refl _ _, fun _ _ => rfl, fun _ k => k⟩, hc⟩
      · cases hm
     obtain ⟨k1, k2, k3⟩ := key
     have hargs : repAs (rx cx σ N (updM m u) w) (.one (.sp cs 0) :: r) (v :: vs') := by
      unfold repAs
      refine ⟨v, vs', rfl, ?_, repAs_keep k2 _ _ g2⟩
      unfold repA
      exact sc_arg k1 k3 (repC_keep k2 _ _ g3)
     refine (hC D gv hD cx hcx σ N (updM m u) w fr _ _ k1 hfr hargs hp).mono fun e w' he => ?_
     obtain ⟨v', rfl, σ', q1, q2, q3, q4⟩ := he
     refine ⟨v', rfl, σ', ?_, ?_, ?_, q4⟩
     · simp only [scQ, Eff.addU]; rw [updM_append]; exact q1
     · simp only [scQ, Eff.addU]; rw [updM_append]; exact ⟨k2.k.trans q2.k (Nat.le_refl _), fun id hn => (q2.σ id hn).trans (k2.σ id hn), fun id hn => k2.N id (q2.N id hn)⟩
     · simp only [scQ, Eff.addU]; rw [updM_append]; exact q3
 · exact hp.elim
end
attribute [go_sem] scB scU scQ Eff.addU_mk opA_nil_sp
end Go.Ev

/- The contracts of replan's functions: a step of the search. -/
set_option linter.unusedSimpArgs false
set_option linter.unusedVariables false
set_option maxRecDepth 100000
set_option maxHeartbeats 8000000
namespace Go.Proofs.YtdeihcabmpcaoaaGreat
open Go.Ev

def possN (n : Ned) (c f : Int) : Bool := decide (f ≤ n.frm) && (!n.fixed || decide (c = n.home))
def priceN (n : Ned) (c : Int) : Int := if 0 ≤ n.home ∧ ¬ n.home = c then 1 else 0
def con36 : Con := { ps := [.d true (.pair yFL (.pair (.int .i64) (.pair (.int .i64) (.pair (.int .i64) .bool)))), .d false (.int .i64), .d false (.int .i64)], rs := [.d false .bool], pre := fun _ => True, out := fun (x : Ned × Int × Int × Unit) => (possN x.1 x.2.1 x.2.2.1, ()), nw := id }
theorem c36 : CtrOk Tryz.prog 36 con36.ctr :=
 con_sound (G := ⟨[], [], [], [], []⟩) tab_ok EnvOk.nil rfl Tryz.func36 rfl con36 79 (by kernel_rfl) (by decide) (by decide) rfl (by decide) rfl (by
  rintro ⟨⟨f, (a : Int), (b : Int), (h : Int), q⟩, (c : Int), (fr : Int), _⟩ hpre hwf X hT hG hk hK
  (simp -implicitDefEqProofs (maxSteps := 4000000) only [go_sem, Bool.not_eq_true', Bool.not_eq_false', Bool.or_eq_true, Bool.or_eq_false_iff, Bool.and_eq_true, Bool.and_eq_false_iff, decide_eq_true_eq, decide_eq_false_iff_not, Classical.not_not, not_or, maxLen, con36, hT, hG, hk, hK, Tryz.results36] at hwf ⊢); (try simp (disch := decide +kernel) only [drawn, true_and, and_true])
  unfold possN
  simp only [Ned.frm, Ned.to, Ned.home, Ned.fixed]
  (repeat' (with_reducible (first | refine And.intro ?_ ?_ | intro _))) <;> (try (first | with_reducible (first | done | assumption | omega | contradiction) | decide))
  all_goals (cases q <;> simp <;> rfl))
def con38 : Con := { ps := [.d true (.pair yFL (.pair (.int .i64) (.pair (.int .i64) (.pair (.int .i64) .bool)))), .d false (.int .i64)], rs := [.d false (.int .i64)], pre := fun _ => True, out := fun (x : Ned × Int × Unit) => (priceN x.1 x.2.1, ()), nw := id }
theorem c38 : CtrOk Tryz.prog 38 con38.ctr :=
 con_sound (G := ⟨[], [], [], [], []⟩) tab_ok EnvOk.nil rfl Tryz.func38 rfl con38 8215 (by kernel_rfl) (by decide) (by decide) rfl (by decide) rfl (by
  rintro ⟨⟨f, (a : Int), (b : Int), (h : Int), q⟩, (c : Int), _⟩ hpre hwf X hT hG hk hK
  (simp -implicitDefEqProofs (maxSteps := 4000000) only [go_sem, Bool.not_eq_true', Bool.not_eq_false', Bool.or_eq_true, Bool.or_eq_false_iff, Bool.and_eq_true, Bool.and_eq_false_iff, decide_eq_true_eq, decide_eq_false_iff_not, Classical.not_not, not_or, maxLen, con38, hT, hG, hk, hK, Tryz.results38] at hwf ⊢); (try simp (disch := decide +kernel) only [drawn, true_and, and_true])
  unfold priceN
  simp only [Ned.frm, Ned.to, Ned.home, Ned.fixed]
  exact ⟨fun k => (if_pos (show 0 ≤ h ∧ ¬ h = c from k)).symm, fun k => (if_neg (show ¬ (0 ≤ h ∧ ¬ h = c) by omega)).symm⟩)
abbrev Fre := Int × Int × Int × Int × Int × Int
abbrev Sst := Int × Fre
abbrev Mem6 := List (Sst × Int)
def Fre.get (f : Fre) (k : Int) : Int := if k = 0 then f.1 else if k = 1 then f.2.1 else if k = 2 then f.2.2.1 else if k = 3 then f.2.2.2.1 else if k = 4 then f.2.2.2.2.1 else f.2.2.2.2.2
def Fre.put (f : Fre) (k v : Int) : Fre := (if k = 0 then v else f.1, if k = 1 then v else f.2.1, if k = 2 then v else f.2.2.1, if k = 3 then v else f.2.2.2.1, if k = 4 then v else f.2.2.2.2.1, if k = 5 then v else f.2.2.2.2.2)
def low (t v : Int) : Int := if v ≤ t then 0 else v
def lowK (k j t v : Int) : Int := if j < k then low t v else v
def Fre.map (f : Fre) (k t : Int) : Fre := (lowK k 0 t f.1, lowK k 1 t f.2.1, lowK k 2 t f.2.2.1, lowK k 3 t f.2.2.2.1, lowK k 4 t f.2.2.2.2.1, lowK k 5 t f.2.2.2.2.2)
def nedAt (ds : List Ned) (i : Int) : Ned := ds.getD i.toNat ((ByteArray.empty, 0, ByteArray.empty, 0), 0, 0, 0, false)
def aftV (ds : List Ned) (x : Sst) (c : Int) : Sst := (x.1 + 1, (x.2.put c (nedAt ds x.1).to).map 6 (nedAt ds x.1).frm)
def con37 : Con := { ps := [.pm (.pair (.sl (.pair yFL (.pair (.int .i64) (.pair (.int .i64) (.pair (.int .i64) .bool))))) (.int .i64)) (.pair (.int .i64) (.pair (.int .i64) yBR)) (.int .i64) true false, .d true (.pair (.int .i64) (.pair (.int .i64) yBR)), .d false (.int .i64)], rs := [.d true (.pair (.int .i64) (.pair (.int .i64) yBR))], pre := fun (x : ((List Ned × Int) × Mem6) × Sst × Int × Unit) => 0 ≤ x.2.1.1 ∧ x.2.1.1 < x.1.1.1.length ∧ x.1.1.1.length ≤ 1048576 ∧ 0 ≤ x.2.2.1 ∧ x.2.2.1 < 6, out := fun (x : ((List Ned × Int) × Mem6) × Sst × Int × Unit) => (aftV x.1.1.1 x.2.1 x.2.2.1, ()), nw := id }
theorem c37 : CtrOk Tryz.prog 37 con37.ctr :=
 con_sound (G := ⟨[], [], [], [], []⟩) tab_ok EnvOk.nil rfl Tryz.func37 rfl con37 34561065431 (by kernel_rfl) (by decide) (by decide) rfl (by decide) rfl (by
  rintro ⟨⟨⟨(ds : List Ned), (n : Int)⟩, (mm : Mem6)⟩, ⟨(i : Int), (a0 : Int), (a1 : Int), (a2 : Int), (a3 : Int), (a4 : Int), (a5 : Int)⟩, (c : Int), _⟩ hpre hwf X hT hG hk hK
  obtain ⟨h1, h2, h3, h4, h5⟩ : 0 ≤ i ∧ i < ds.length ∧ ds.length ≤ 1048576 ∧ 0 ≤ c ∧ c < 6 := hpre
  have hc : c = 0 ∨ c = 1 ∨ c = 2 ∨ c = 3 ∨ c = 4 ∨ c = 5 := by omega
  obtain ⟨F, hF⟩ : ∃ F : Fre, (Fre.put (a0, a1, a2, a3, a4, a5) c (nedAt ds i).to) = F := ⟨_, rfl⟩
  obtain ⟨t, ht⟩ : ∃ t : Int, (nedAt ds i).frm = t := ⟨_, rfl⟩
  have hA : aftV ds (i, a0, a1, a2, a3, a4, a5) c = (i + 1, F.map 6 t) := by unfold aftV; rw [← hF, ← ht]
  obtain ⟨b0, b1, b2, b3, b4, b5⟩ := F
  obtain ⟨NA, hNA⟩ : ∃ NA : Ned, nedAt ds i = NA := ⟨_, rfl⟩
  rw [hNA] at hF ht
  obtain ⟨nf, (na : Int), (nb : Int), (nh : Int), nq⟩ := NA
  simp only [Ned.frm, Ned.to] at hF ht
  subst ht
  unfold nedAt at hNA
  rcases hc with rfl | rfl | rfl | rfl | rfl | rfl
  all_goals (
   (simp -implicitDefEqProofs (maxSteps := 4000000) only [go_sem, Bool.not_eq_true', Bool.not_eq_false', Bool.or_eq_true, Bool.or_eq_false_iff, Bool.and_eq_true, Bool.and_eq_false_iff, decide_eq_true_eq, decide_eq_false_iff_not, Classical.not_not, not_or, maxLen, con37, hT, hG, hk, hK, Tryz.results37, Int.cast_ofNat_Int, Int.reduceLE, Int.reduceLT, and_self, Int.le_refl, Int.reduceToNat, Ty.dflt, hNA] at hwf ⊢); (try simp (disch := decide +kernel) only [drawn, true_and, and_true])
   clear hwf
   refine ⟨⟨h1, h2⟩, fun _ _ => ⟨by omega, ?_⟩⟩
   simp only [Fre.put, reduceIte, Int.reduceEq, Prod.mk.injEq] at hF
   refine evk_loop ⟨{ k : Int // 0 ≤ k ∧ k ≤ 6 }, 1000, fun k => [(4, .one (.loc 64 0)), (6, .one (.loc 65 0)), (7, .one (.loc 66 0)), (26, .one (.int .i64 k.1))],
    fun k => [(0, .mapb (.pair (.int .i64) (.pair (.int .i64) yBR)) (.int .i64) true false mm), (64, .cells 78 [.int .i64 (i + 1), .int .i64 (lowK k.1 0 na b0), .int .i64 (lowK k.1 1 na b1), .int .i64 (lowK k.1 2 na b2), .int .i64 (lowK k.1 3 na b3), .int .i64 (lowK k.1 4 na b4), .int .i64 (lowK k.1 5 na b5)]), (65, .cells 78 [.int .i64 0, .int .i64 0, .int .i64 0, .int .i64 0, .int .i64 0, .int .i64 0, .int .i64 0]), (66, .cells 81 (expl (.pair yFL (.pair (.int .i64) (.pair (.int .i64) (.pair (.int .i64) .bool)))) (nf, na, nb, nh, nq)))], fun k => (6 - k.1).toNat⟩ ⟨0, Int.le_refl 0, by decide⟩ ?_ ?_
   · simp only [go_sem]
     simp only [lowK, Int.reduceLT, reduceIte]
     exact ⟨hF.2.2.2.2.2, hF.2.2.2.2.1, hF.2.2.2.1, hF.2.2.1, hF.2.1, hF.1⟩
   · rintro ⟨k, (hk0 : 0 ≤ k), (hk6 : k ≤ 6)⟩
     have hk' : k = 0 ∨ k = 1 ∨ k = 2 ∨ k = 3 ∨ k = 4 ∨ k = 5 ∨ k = 6 := by omega
     rcases hk' with rfl | rfl | rfl | rfl | rfl | rfl | rfl
     · (simp -implicitDefEqProofs (maxSteps := 4000000) only [go_sem, Bool.not_eq_true', Bool.not_eq_false', Bool.or_eq_true, Bool.or_eq_false_iff, Bool.and_eq_true, Bool.and_eq_false_iff, decide_eq_true_eq, decide_eq_false_iff_not, Classical.not_not, not_or, maxLen, con37, hT, hG, hk, hK, Tryz.results37, Int.cast_ofNat_Int, Int.reduceLE, Int.reduceLT, and_self, Int.le_refl, Int.reduceToNat, Ty.dflt, lowK, Int.reduceAdd]); (try simp (disch := decide +kernel) only [drawn, true_and, and_true])
       (repeat' (with_reducible (first | refine And.intro ?_ ?_ | intro _))) <;> first
         | contradiction
         | (rename_i hh
            refine fin_lp ⟨1, by decide, by decide⟩ ?_ (by dsimp only; decide)
            simp only [go_sem]
            simp only [Int.reduceLT, reduceIte, low]
            first
             | (rw [if_pos hh]; (repeat' apply And.intro) <;> first | trivial | rfl)
             | (rw [if_neg hh]; (repeat' apply And.intro) <;> first | trivial | rfl)
             | fail)
     · (simp -implicitDefEqProofs (maxSteps := 4000000) only [go_sem, Bool.not_eq_true', Bool.not_eq_false', Bool.or_eq_true, Bool.or_eq_false_iff, Bool.and_eq_true, Bool.and_eq_false_iff, decide_eq_true_eq, decide_eq_false_iff_not, Classical.not_not, not_or, maxLen, con37, hT, hG, hk, hK, Tryz.results37, Int.cast_ofNat_Int, Int.reduceLE, Int.reduceLT, and_self, Int.le_refl, Int.reduceToNat, Ty.dflt, lowK, Int.reduceAdd]); (try simp (disch := decide +kernel) only [drawn, true_and, and_true])
       (repeat' (with_reducible (first | refine And.intro ?_ ?_ | intro _))) <;> first
         | contradiction
         | (rename_i hh
            refine fin_lp ⟨2, by decide, by decide⟩ ?_ (by dsimp only; decide)
            simp only [go_sem]
            simp only [Int.reduceLT, reduceIte, low]
            first
             | (rw [if_pos hh]; (repeat' apply And.intro) <;> first | trivial | rfl)
             | (rw [if_neg hh]; (repeat' apply And.intro) <;> first | trivial | rfl)
             | fail)
     · (simp -implicitDefEqProofs (maxSteps := 4000000) only [go_sem, Bool.not_eq_true', Bool.not_eq_false', Bool.or_eq_true, Bool.or_eq_false_iff, Bool.and_eq_true, Bool.and_eq_false_iff, decide_eq_true_eq, decide_eq_false_iff_not, Classical.not_not, not_or, maxLen, con37, hT, hG, hk, hK, Tryz.results37, Int.cast_ofNat_Int, Int.reduceLE, Int.reduceLT, and_self, Int.le_refl, Int.reduceToNat, Ty.dflt, lowK, Int.reduceAdd]); (try simp (disch := decide +kernel) only [drawn, true_and, and_true])
       (repeat' (with_reducible (first | refine And.intro ?_ ?_ | intro _))) <;> first
         | contradiction
         | (rename_i hh
            refine fin_lp ⟨3, by decide, by decide⟩ ?_ (by dsimp only; decide)
            simp only [go_sem]
            simp only [Int.reduceLT, reduceIte, low]
            first
             | (rw [if_pos hh]; (repeat' apply And.intro) <;> first | trivial | rfl)
             | (rw [if_neg hh]; (repeat' apply And.intro) <;> first | trivial | rfl)
             | fail)
     · (simp -implicitDefEqProofs (maxSteps := 4000000) only [go_sem, Bool.not_eq_true', Bool.not_eq_false', Bool.or_eq_true, Bool.or_eq_false_iff, Bool.and_eq_true, Bool.and_eq_false_iff, decide_eq_true_eq, decide_eq_false_iff_not, Classical.not_not, not_or, maxLen, con37, hT, hG, hk, hK, Tryz.results37, Int.cast_ofNat_Int, Int.reduceLE, Int.reduceLT, and_self, Int.le_refl, Int.reduceToNat, Ty.dflt, lowK, Int.reduceAdd]); (try simp (disch := decide +kernel) only [drawn, true_and, and_true])
       (repeat' (with_reducible (first | refine And.intro ?_ ?_ | intro _))) <;> first
         | contradiction
         | (rename_i hh
            refine fin_lp ⟨4, by decide, by decide⟩ ?_ (by dsimp only; decide)
            simp only [go_sem]
            simp only [Int.reduceLT, reduceIte, low]
            first
             | (rw [if_pos hh]; (repeat' apply And.intro) <;> first | trivial | rfl)
             | (rw [if_neg hh]; (repeat' apply And.intro) <;> first | trivial | rfl)
             | fail)
     · (simp -implicitDefEqProofs (maxSteps := 4000000) only [go_sem, Bool.not_eq_true', Bool.not_eq_false', Bool.or_eq_true, Bool.or_eq_false_iff, Bool.and_eq_true, Bool.and_eq_false_iff, decide_eq_true_eq, decide_eq_false_iff_not, Classical.not_not, not_or, maxLen, con37, hT, hG, hk, hK, Tryz.results37, Int.cast_ofNat_Int, Int.reduceLE, Int.reduceLT, and_self, Int.le_refl, Int.reduceToNat, Ty.dflt, lowK, Int.reduceAdd]); (try simp (disch := decide +kernel) only [drawn, true_and, and_true])
       (repeat' (with_reducible (first | refine And.intro ?_ ?_ | intro _))) <;> first
         | contradiction
         | (rename_i hh
            refine fin_lp ⟨5, by decide, by decide⟩ ?_ (by dsimp only; decide)
            simp only [go_sem]
            simp only [Int.reduceLT, reduceIte, low]
            first
             | (rw [if_pos hh]; (repeat' apply And.intro) <;> first | trivial | rfl)
             | (rw [if_neg hh]; (repeat' apply And.intro) <;> first | trivial | rfl)
             | fail)
     · (simp -implicitDefEqProofs (maxSteps := 4000000) only [go_sem, Bool.not_eq_true', Bool.not_eq_false', Bool.or_eq_true, Bool.or_eq_false_iff, Bool.and_eq_true, Bool.and_eq_false_iff, decide_eq_true_eq, decide_eq_false_iff_not, Classical.not_not, not_or, maxLen, con37, hT, hG, hk, hK, Tryz.results37, Int.cast_ofNat_Int, Int.reduceLE, Int.reduceLT, and_self, Int.le_refl, Int.reduceToNat, Ty.dflt, lowK, Int.reduceAdd]); (try simp (disch := decide +kernel) only [drawn, true_and, and_true])
       (repeat' (with_reducible (first | refine And.intro ?_ ?_ | intro _))) <;> first
         | contradiction
         | (rename_i hh
            refine fin_lp ⟨6, by decide, by decide⟩ ?_ (by dsimp only; decide)
            simp only [go_sem]
            simp only [Int.reduceLT, reduceIte, low]
            first
             | (rw [if_pos hh]; (repeat' apply And.intro) <;> first | trivial | rfl)
             | (rw [if_neg hh]; (repeat' apply And.intro) <;> first | trivial | rfl)
             | fail)
     · (simp -implicitDefEqProofs (maxSteps := 4000000) only [go_sem, Bool.not_eq_true', Bool.not_eq_false', Bool.or_eq_true, Bool.or_eq_false_iff, Bool.and_eq_true, Bool.and_eq_false_iff, decide_eq_true_eq, decide_eq_false_iff_not, Classical.not_not, not_or, maxLen, con37, hT, hG, hk, hK, Tryz.results37, Int.cast_ofNat_Int, Int.reduceLE, Int.reduceLT, and_self, Int.le_refl, Int.reduceToNat, Ty.dflt, lowK, Int.reduceAdd]); (try simp (disch := decide +kernel) only [drawn, true_and, and_true])
       refine ⟨fun h => h.elim, ?_⟩
       rw [hA]
       exact ⟨rfl, rfl, rfl, rfl, rfl, rfl, rfl⟩))
end Go.Proofs.YtdeihcabmpcaoaaGreat

/- The contracts of replan's functions: the needs. -/
set_option linter.unusedSimpArgs false
set_option linter.unusedVariables false
set_option maxRecDepth 100000
set_option maxHeartbeats 8000000
namespace Go.Proofs.YtdeihcabmpcaoaaGreat
open Go.Ev

def homeV (cs : List Int) (old : List All) (f : Flt) : Int := if (chV old f).2 = true then idxF (fun y : Int => decide ((chV old f).1 = y)) cs 0 else -1
def ndOf (cs : List Int) (old fx : List All) (t : Int) (d : Dep) : Ned := (d.1, (if t > d.opens then t else d.opens), d.closes, homeV cs old d.1, (chV fx d.1).2)
def rawN (l : List Dep) (cs : List Int) (old fx : List All) (t : Int) : List Ned := (l.filter (fun d => !closedV d t)).map (ndOf cs old fx t)
theorem rawN_snoc (l : List Dep) (cs : List Int) (old fx : List All) (t : Int) (d : Dep) : rawN (l ++ [d]) cs old fx t = if closedV d t = true then rawN l cs old fx t else rawN l cs old fx t ++ [ndOf cs old fx t d] := by
 unfold rawN
 rw [List.filter_append]
 cases h : closedV d t <;> simp [h]
theorem rawN_len (l : List Dep) (cs : List Int) (old fx : List All) (t : Int) : (rawN l cs old fx t).length = actN l t := by
 unfold rawN actN
 rw [List.length_map, List.countP_eq_length_filter]
theorem closed_not {d : Dep} {t : Int} (h : closedV d t = false) : d.state = 0 ∧ t < d.closes := by
 unfold closedV at h
 simp only [Bool.or_eq_false_iff, Bool.not_eq_false', decide_eq_true_eq, decide_eq_false_iff_not] at h
 omega
theorem rawN_time {l : List Dep} {cs : List Int} {old fx : List All} {t : Int} (hv : ∀ d ∈ l, validV d = true) : ∀ n ∈ rawN l cs old fx t, inTimeN n := by
 intro n hn
 unfold rawN at hn
 obtain ⟨d, hd, rfl⟩ := List.mem_map.1 hn
 obtain ⟨h1, h2⟩ := List.mem_filter.1 hd
 have h3 := validV_times (hv d h1)
 have h4 := closed_not (d := d) (t := t) (by simpa using h2)
 unfold inTimeN ndOf Ned.frm
 dsimp only
 split <;> omega
def needV (l : List Dep) (cs : List Int) (old fx : List All) (t : Int) : List Ned := isortN (rawN l cs old fx t)
def con34 : Con := { ps := [.d false (.sl yDP), .d false (.sl (.int .i64)), .d false (.sl (.pair yFL (.int .i64))), .d false (.sl (.pair yFL (.int .i64))), .d false (.int .i64)], rs := [.o 81 (.pair yFL (.pair (.int .i64) (.pair (.int .i64) (.pair (.int .i64) .bool))))], pre := fun (x : List Dep × List Int × List All × List All × Int × Unit) => x.1.length ≤ 1048576 ∧ (∀ d ∈ x.1, validV d = true) ∧ actN x.1 x.2.2.2.2.1 ≤ 16, out := fun (x : List Dep × List Int × List All × List All × Int × Unit) => (needV x.1 x.2.1 x.2.2.1 x.2.2.2.1 x.2.2.2.2.1, ()), nw := id }
theorem c34 : CtrOk Tryz.prog 34 con34.ctr :=
 con_sound (G := ⟨[(59, con59.ctr), (58, con58.ctr), (61, con61.ctr), (62, con62.ctr)], [], [], [], []⟩) tab_ok (EnvOk.cons c59 has59 (EnvOk.cons c58 has58 (EnvOk.cons c61 has61 (EnvOk.cons c62 has62 EnvOk.nil)))) rfl Tryz.func34 rfl con34 4398082157599 (by kernel_rfl) (by decide) (by decide) rfl (by decide) rfl (by
  rintro ⟨(l : List Dep), (cs : List Int), (old : List All), (fx : List All), (t : Int), _⟩ hpre hwf X hT hG hk hK
  obtain ⟨hl, hv, ha⟩ : l.length ≤ 1048576 ∧ (∀ d ∈ l, validV d = true) ∧ actN l t ≤ 16 := hpre
  (simp -implicitDefEqProofs (maxSteps := 4000000) only [go_sem, Bool.not_eq_true', Bool.not_eq_false', Bool.or_eq_true, Bool.or_eq_false_iff, Bool.and_eq_true, Bool.and_eq_false_iff, decide_eq_true_eq, decide_eq_false_iff_not, Classical.not_not, not_or, maxLen, con34, con59, con58, con61, con62, hT, hG, hk, hK, Tryz.results34] at hwf ⊢); (try simp (disch := decide +kernel) only [drawn, true_and, and_true])
  clear hwf
  refine fun hlm => ?_
  refine evk_loop ⟨{ i : Nat // i ≤ l.length }, 1000, fun i => [(0, .one (.sl yDP l false)), (1, .one (.sl (.int .i64) cs false)), (2, .one (.sl (.pair yFL (.int .i64)) old false)), (3, .one (.sl (.pair yFL (.int .i64)) fx false)), (4, .one (.int .i64 t)), (11, .one (.row 64)), (17, .one (.sl yDP l false)), (18, .one (.int .i64 l.length)), (19, .one (.int .i64 i.1))], fun i => [(64, .row 81 (.pair yFL (.pair (.int .i64) (.pair (.int .i64) (.pair (.int .i64) .bool)))) (rawN (l.take i.1) cs old fx t))], fun i => l.length - i.1⟩ ⟨0, Nat.zero_le _⟩ ?_ ?_
  · simp only [go_sem]
    exact ⟨rfl, rfl⟩
  · rintro ⟨i, (hi : i ≤ l.length)⟩
    (simp -implicitDefEqProofs (maxSteps := 4000000) only [go_sem, Bool.not_eq_true', Bool.not_eq_false', Bool.or_eq_true, Bool.or_eq_false_iff, Bool.and_eq_true, Bool.and_eq_false_iff, decide_eq_true_eq, decide_eq_false_iff_not, Classical.not_not, not_or, maxLen, con34, con59, con58, con61, con62, hT, hG, hk, hK, Tryz.results34]); (try simp (disch := decide +kernel) only [drawn, true_and, and_true])
    refine ⟨fun hlt => ?_, fun hge => ?_⟩
    · have hi' : i < l.length := by omega
      have ek : ∀ z, l.getD (i : Int).toNat z = l[i] := fun z => by simp [hi']
      simp only [ek]
      have hst := rawN_snoc (l.take i) cs old fx t l[i]
      rw [← List.take_succ_eq_append_getElem hi'] at hst
      have hlen : (rawN (l.take i) cs old fx t).length ≤ i := by
       rw [rawN_len]; have := actN_le (l.take i) t; rw [List.length_take] at this; omega
      have e1 : (chV old l[i].1).2 = true → ndOf cs old fx t l[i] = (l[i].1, (if t > l[i].opens then t else l[i].opens), l[i].closes, idxF (fun y : Int => decide ((chV old l[i].1).1 = y)) cs 0, (chV fx l[i].1).2) := fun h => by
       unfold ndOf; rw [show homeV cs old l[i].1 = _ from if_pos h]
      have e2 : (chV old l[i].1).2 = false → ndOf cs old fx t l[i] = (l[i].1, (if t > l[i].opens then t else l[i].opens), l[i].closes, -1, (chV fx l[i].1).2) := fun h => by
       unfold ndOf; rw [show homeV cs old l[i].1 = -1 from if_neg (by rw [h]; simp)]
      (repeat' (with_reducible (first | refine And.intro ?_ ?_ | intro _))) <;> (try (first | with_reducible (first | done | assumption | omega | contradiction) | decide))
      · have h : closedV l[i] t = true := by assumption
        refine fin_lp ⟨i + 1, by omega⟩ ?_ ?_
        · simp only [go_sem]
          rw [hst, if_pos h]
          exact ⟨rfl, by omega⟩
        · dsimp only; omega
      · have h : closedV l[i] t = false := by assumption
        have h2 : (chV old l[i].1).2 = true := by assumption
        refine fin_lp ⟨i + 1, by omega⟩ ?_ ?_
        · simp only [go_sem]
          rw [hst.trans (if_neg (by rw [h]; simp)), e1 h2]
          exact ⟨rfl, by omega⟩
        · dsimp only; omega
      · have h : closedV l[i] t = false := by assumption
        have h2 : (chV old l[i].1).2 = false := by assumption
        refine fin_lp ⟨i + 1, by omega⟩ ?_ ?_
        · simp only [go_sem]
          rw [hst.trans (if_neg (by rw [h]; simp)), e2 h2]
          exact ⟨rfl, by omega⟩
        · dsimp only; omega
    · rw [List.take_of_length_le (by omega)]
      refine ⟨⟨?_, ?_⟩, ?_⟩
      · rw [rawN_len]; omega
      · exact rawN_time hv
      · rfl)
end Go.Proofs.YtdeihcabmpcaoaaGreat

/- The contracts of replan's functions: the search, with what is known already (a family by the number of needs that are left). -/
set_option linter.unusedSimpArgs false
set_option linter.unusedVariables false
set_option maxRecDepth 100000
set_option maxHeartbeats 16000000
namespace Go.Proofs.YtdeihcabmpcaoaaGreat
open Go.Ev

abbrev KS : Ty := (.pair (.int .i64) (.pair (.int .i64) yBR))
def minI (a b : Int) : Int := if b < a then b else a
def stepW (ds : List Ned) (f : Sst → Mem6 → Int × Mem6) (x : Sst) (q : Int × Mem6) (c : Nat) : Int × Mem6 :=
 if possN (nedAt ds x.1) c (x.2.get c) = true then (minI q.1 (priceN (nedAt ds x.1) c + (f (aftV ds x c) q.2).1), (f (aftV ds x c) q.2).2) else q
def lwV (ds : List Ned) (n : Nat) : Nat → Sst → Mem6 → Int × Mem6
 | 0, _, m => (0, m)
 | k + 1, x, m => if x.1 = ds.length then (0, m) else match mget (kt := KS) (β := Int) m x with
   | some v => (v, m)
   | none => (((List.range n).foldl (stepW ds (lwV ds n k) x) (17, m)).1, mset (kt := KS) (β := Int) ((List.range n).foldl (stepW ds (lwV ds n k) x) (17, m)).2 x ((List.range n).foldl (stepW ds (lwV ds n k) x) (17, m)).1)
/-- What is known is between 0 and none. -/
def MB (m : Mem6) : Prop := ∀ p ∈ m, 0 ≤ p.2 ∧ p.2 ≤ 17
theorem priceN_bd (n : Ned) (c : Int) : 0 ≤ priceN n c ∧ priceN n c ≤ 1 := by unfold priceN; split <;> omega
theorem mget_mem {m : Mem6} {x : Sst} {v : Int} : mget (kt := KS) (β := Int) m x = some v → ∃ p ∈ m, p.2 = v ∧ keyEq KS x p.1 = true := by
 induction m with
 | nil => intro h; cases h
 | cons p m ih =>
   obtain ⟨a, u⟩ := p
   intro h
   unfold mget at h
   split at h
   · rename_i he
     cases h
     exact ⟨_, List.mem_cons_self, rfl, he⟩
   · obtain ⟨p, hp, h1, h2⟩ := ih h
     exact ⟨p, List.mem_cons_of_mem _ hp, h1, h2⟩
theorem mset_mem {m : Mem6} {x : Sst} {v : Int} : ∀ p ∈ mset (kt := KS) (β := Int) m x v, p = (x, v) ∨ p ∈ m := by
 induction m with
 | nil =>
   intro p hp
   exact .inl (List.mem_singleton.1 hp)
 | cons q m ih =>
   obtain ⟨a, u⟩ := q
   intro p hp
   unfold mset at hp
   split at hp
   · rcases List.mem_cons.1 hp with h | h
     · exact .inl h
     · exact .inr (List.mem_cons_of_mem _ h)
   · rcases List.mem_cons.1 hp with h | h
     · exact .inr (h ▸ List.mem_cons_self)
     · rcases ih p h with h | h
       · exact .inl h
       · exact .inr (List.mem_cons_of_mem _ h)
theorem stepW_bd {ds : List Ned} {f : Sst → Mem6 → Int × Mem6} (hf : ∀ x m, MB m → 0 ≤ (f x m).1 ∧ (f x m).1 ≤ 17 ∧ MB (f x m).2) (x : Sst) :
 ∀ (l : List Nat) (q : Int × Mem6), 0 ≤ q.1 → q.1 ≤ 17 → MB q.2 → 0 ≤ (l.foldl (stepW ds f x) q).1 ∧ (l.foldl (stepW ds f x) q).1 ≤ 17 ∧ MB (l.foldl (stepW ds f x) q).2
 | [], q, h1, h2, h3 => ⟨h1, h2, h3⟩
 | c :: l, q, h1, h2, h3 => by
   simp only [List.foldl_cons]
   have key : 0 ≤ (stepW ds f x q c).1 ∧ (stepW ds f x q c).1 ≤ 17 ∧ MB (stepW ds f x q c).2 := by
    unfold stepW
    split
    · have a := hf (aftV ds x c) q.2 h3
      have b := priceN_bd (nedAt ds x.1) c
      refine ⟨?_, ?_, a.2.2⟩ <;> unfold minI <;> dsimp only <;> split <;> omega
    · exact ⟨h1, h2, h3⟩
   exact stepW_bd hf x l _ key.1 key.2.1 key.2.2
theorem lwV_bd (ds : List Ned) (n : Nat) : ∀ (k : Nat) (x : Sst) (m : Mem6), MB m → 0 ≤ (lwV ds n k x m).1 ∧ (lwV ds n k x m).1 ≤ 17 ∧ MB (lwV ds n k x m).2
 | 0, _, m, h => ⟨Int.le_refl _, (by decide : (0 : Int) ≤ 17), h⟩
 | k + 1, x, m, h => by
   unfold lwV
   split
   · exact ⟨Int.le_refl _, (by decide : (0 : Int) ≤ 17), h⟩
   · cases hg : mget (kt := KS) (β := Int) m x with
     | some v =>
       obtain ⟨p, hp, h1, _⟩ := mget_mem hg
       have := h p hp
       exact ⟨by dsimp only; omega, by dsimp only; omega, h⟩
     | none =>
       have a := stepW_bd (ds := ds) (lwV_bd ds n k) x (List.range n) (17, m) (by decide : (0 : Int) ≤ 17) (Int.le_refl 17) h
       refine ⟨a.1, a.2.1, fun p hp => ?_⟩
       rcases mset_mem p hp with h | h
       · rw [h]; exact ⟨a.1, a.2.1⟩
       · exact a.2.2 p h
def leastC (k : Nat) : Con := { ps := [.pm (.pair (.sl (.pair yFL (.pair (.int .i64) (.pair (.int .i64) (.pair (.int .i64) .bool))))) (.int .i64)) (.pair (.int .i64) (.pair (.int .i64) yBR)) (.int .i64) true false, .d true (.pair (.int .i64) (.pair (.int .i64) yBR))], rs := [.d false (.int .i64)], pre := fun (x : ((List Ned × Int) × Mem6) × Sst × Unit) => 0 ≤ x.2.1.1 ∧ x.2.1.1 ≤ x.1.1.1.length ∧ x.1.1.1.length ≤ 1000 ∧ 0 ≤ x.1.1.2 ∧ x.1.1.2 ≤ 6 ∧ x.1.1.1.length - x.2.1.1 < k ∧ MB x.1.2, out := fun (x : ((List Ned × Int) × Mem6) × Sst × Unit) => ((lwV x.1.1.1 x.1.1.2.toNat k x.2.1 x.1.2).1, ()), nw := fun (x : ((List Ned × Int) × Mem6) × Sst × Unit) => ((x.1.1, (lwV x.1.1.1 x.1.1.2.toNat k x.2.1 x.1.2).2), x.2) }
theorem leastZero : CtrOk Tryz.prog 35 (leastC 0).ctr :=
 con_sound (G := ⟨[(36, con36.ctr), (38, con38.ctr), (37, con37.ctr)], [], [], [], []⟩) tab_ok (EnvOk.cons c36 has36 (EnvOk.cons c38 has38 (EnvOk.cons c37 has37 EnvOk.nil))) rfl Tryz.func35 rfl (leastC 0) 2259496529429499 (by kernel_rfl) (by decide) (by decide) rfl (by decide) rfl (by
  rintro ⟨⟨⟨(ds : List Ned), (n : Int)⟩, (mm : Mem6)⟩, ⟨(i : Int), (a0 : Int), (a1 : Int), (a2 : Int), (a3 : Int), (a4 : Int), (a5 : Int)⟩, _⟩ hpre
  obtain ⟨h1, h2, h3, h4, h5, h6, h7⟩ : 0 ≤ i ∧ i ≤ ds.length ∧ ds.length ≤ 1000 ∧ 0 ≤ n ∧ n ≤ 6 ∧ ds.length - i < (((0 : Nat)) : Int) ∧ MB mm := hpre
  exact absurd h6 (by omega))
theorem leastStep (k : Nat) (ih : CtrOk Tryz.prog 35 (leastC k).ctr) : CtrOk Tryz.prog 35 (leastC (k + 1)).ctr :=
 con_sound (G := ⟨[(36, con36.ctr), (38, con38.ctr), (37, con37.ctr), (35, (leastC k).ctr)], [], [], [], []⟩) tab_ok (EnvOk.cons c36 has36 (EnvOk.cons c38 has38 (EnvOk.cons c37 has37 (EnvOk.cons ih has35 EnvOk.nil)))) rfl Tryz.func35 rfl (leastC (k + 1)) 2259496529429499 (by kernel_rfl) (show pcOk (leastC 0).ps = true by decide) (show (leastC 0).ps.length ≤ Tryz.f35.ntmps by decide) rfl (by decide) rfl (by
  rintro ⟨⟨⟨(ds : List Ned), (n : Int)⟩, (mm : Mem6)⟩, ⟨(i : Int), (a0 : Int), (a1 : Int), (a2 : Int), (a3 : Int), (a4 : Int), (a5 : Int)⟩, _⟩ hpre hwf X hT hG hk hK
  obtain ⟨h1, h2, h3, h4, h5, h6, h7⟩ : 0 ≤ i ∧ i ≤ ds.length ∧ ds.length ≤ 1000 ∧ 0 ≤ n ∧ n ≤ 6 ∧ ds.length - i < (((k + 1 : Nat)) : Int) ∧ MB mm := hpre
  obtain ⟨n, rfl⟩ := Int.eq_ofNat_of_zero_le h4
  clear h4
  (simp -implicitDefEqProofs (maxSteps := 4000000) only [go_sem, Bool.not_eq_true', Bool.not_eq_false', Bool.or_eq_true, Bool.or_eq_false_iff, Bool.and_eq_true, Bool.and_eq_false_iff, decide_eq_true_eq, decide_eq_false_iff_not, Classical.not_not, not_or, maxLen, leastC, con36, con38, con37, hT, hG, hk, hK, Tryz.results35] at hwf ⊢); (try simp (disch := decide +kernel) only [drawn, true_and, and_true])
  clear hwf
  obtain ⟨x, hx⟩ : ∃ x : Sst, (i, a0, a1, a2, a3, a4, a5) = x := ⟨_, rfl⟩
  have hnn : ((n : Int)).toNat = n := Int.toNat_natCast n
  have hi0 : x.1 = i := by rw [← hx]
  refine fun hlm => ⟨fun h => ?_, fun hne _ => ⟨fun h => ?_, fun hm0 => ⟨⟨h1, by omega⟩, fun _ hw => ?_⟩⟩⟩
  · rw [hx, lwV, if_pos (by omega)]; exact ⟨rfl, rfl⟩
  · rw [hx] at h ⊢
    rw [lwV, if_neg (by omega)]
    cases hg : mget (kt := KS) (β := Int) mm x with
    | none => rw [hg] at h; cases h
    | some v => exact ⟨rfl, rfl⟩
  · have hg : mget (kt := KS) (β := Int) mm x = none := by rw [← hx]; exact Option.isSome_eq_false_iff.1 hm0 |> Option.isNone_iff_eq_none.1
    have hL : lwV ds n (k + 1) x mm = (((List.range n).foldl (stepW ds (lwV ds n k) x) (17, mm)).1, mset (kt := KS) (β := Int) ((List.range n).foldl (stepW ds (lwV ds n k) x) (17, mm)).2 x ((List.range n).foldl (stepW ds (lwV ds n k) x) (17, mm)).1) := by
     rw [lwV, if_neg (by omega), hg]
    rw [hx]
    obtain ⟨NA, hNA⟩ : ∃ NA : Ned, ds.getD i.toNat ((ByteArray.empty, 0, ByteArray.empty, 0), 0, 0, 0, false) = NA := ⟨_, rfl⟩
    rw [hNA] at hw ⊢
    have hNA2 : nedAt ds x.1 = NA := by rw [hi0]; exact hNA
    have hbd := fun (c : Nat) => stepW_bd (ds := ds) (f := lwV ds n k) (lwV_bd ds n k) x (List.range c) (17, mm) (by decide : (0 : Int) ≤ 17) (Int.le_refl 17) h7
    refine evk_loop ⟨{ c : Int // 0 ≤ c ∧ c ≤ n }, 1000, fun c => [(0, .one (.sp [.sl (.pair yFL (.pair (.int .i64) (.pair (.int .i64) (.pair (.int .i64) .bool)))) ds false, .int .i64 n, .map 0] 0)), (3, .one (.loc 64 0)), (7, .one (.int .i64 ((List.range c.1.toNat).foldl (stepW ds (lwV ds n k) x) (17, mm)).1)), (8, .one (.loc 65 0)), (40, .one (.int .i64 n)), (41, .one (.int .i64 c.1))],
     fun c => [(0, .mapb (.pair (.int .i64) (.pair (.int .i64) yBR)) (.int .i64) true false ((List.range c.1.toNat).foldl (stepW ds (lwV ds n k) x) (17, mm)).2), (64, .cells 78 [.int .i64 i, .int .i64 a0, .int .i64 a1, .int .i64 a2, .int .i64 a3, .int .i64 a4, .int .i64 a5]), (65, .cells 81 (expl (.pair yFL (.pair (.int .i64) (.pair (.int .i64) (.pair (.int .i64) .bool)))) NA))], fun c => (n - c.1).toNat⟩ ⟨0, Int.le_refl 0, Int.natCast_nonneg n⟩ ?_ ?_
    · simp only [go_sem]
      exact ⟨rfl, rfl⟩
    · rintro ⟨c, (hc0 : 0 ≤ c), (hcn : c ≤ n)⟩
      obtain ⟨c, rfl⟩ := Int.eq_ofNat_of_zero_le hc0
      have hb := hbd c
      simp only [Int.toNat_natCast]
      have hst : (List.range (c + 1)).foldl (stepW ds (lwV ds n k) x) (17, mm) = stepW ds (lwV ds n k) x ((List.range c).foldl (stepW ds (lwV ds n k) x) (17, mm)) c := by rw [List.range_succ, List.foldl_append]; rfl
      generalize hq : (List.range c).foldl (stepW ds (lwV ds n k) x) (17, mm) = q at hb hst
      obtain ⟨(b : Int), (m : Mem6)⟩ := q
      have hp0 : possN NA c (x.2.get c) = false → (List.range (c + 1)).foldl (stepW ds (lwV ds n k) x) (17, mm) = (b, m) := fun h => by
       rw [hst]; unfold stepW; rw [hNA2, if_neg (by rw [h]; simp)]
      have hp1 : possN NA c (x.2.get c) = true → (List.range (c + 1)).foldl (stepW ds (lwV ds n k) x) (17, mm) = (minI b (priceN NA c + (lwV ds n k (aftV ds x c) m).1), (lwV ds n k (aftV ds x c) m).2) := fun h => by
       rw [hst]; unfold stepW; rw [hNA2, if_pos h]
      have hpb := priceN_bd NA c
      have hlb := lwV_bd ds n k (aftV ds x c) m hb.2.2
      have ha1 : (aftV ds x c).1 = i + 1 := by unfold aftV; rw [← hi0]
      by_cases hlt : c < n
      · have hcc : c = 0 ∨ c = 1 ∨ c = 2 ∨ c = 3 ∨ c = 4 ∨ c = 5 := by omega
        rcases hcc with rfl | rfl | rfl | rfl | rfl | rfl
        · have hg0 : x.2.get ((0 : Nat) : Int) = a0 := by rw [← hx]; rfl
          rw [hg0] at hp0 hp1
          simp only [Int.cast_ofNat_Int, Nat.reduceAdd] at hp0 hp1 hpb hlb ha1
          (simp -implicitDefEqProofs (maxSteps := 4000000) only [go_sem, Bool.not_eq_true', Bool.not_eq_false', Bool.or_eq_true, Bool.or_eq_false_iff, Bool.and_eq_true, Bool.and_eq_false_iff, decide_eq_true_eq, decide_eq_false_iff_not, Classical.not_not, not_or, maxLen, leastC, con36, con38, con37, hT, hG, hk, hK, Tryz.results35, Int.cast_ofNat_Int, Int.reduceLE, Int.reduceLT, and_self, Int.le_refl, Int.reduceToNat, Ty.dflt]); (try simp (disch := decide +kernel) only [drawn, true_and, and_true])
          rw [hx]
          simp only [Int.toNat_natCast]
          refine ⟨fun _ => ⟨fun h => ⟨by omega, ?_⟩, fun h _ => ⟨⟨h1, by omega, by omega⟩, fun _ => ⟨⟨by omega, by omega, h3, by omega, h5, by omega, hb.2.2⟩, fun _ => ⟨by omega, by omega, ?_⟩⟩⟩⟩, fun h => absurd hlt (by omega)⟩
          · refine fin_lp ⟨1, by omega, by omega⟩ ?_ (by dsimp only; omega)
            simp only [go_sem]
            simp only [Int.reduceToNat]
            rw [hp0 h]
            (repeat' apply And.intro) <;> rfl
          · refine fin_lp ⟨1, by omega, by omega⟩ ?_ (by dsimp only; omega)
            simp only [go_sem]
            simp only [Int.reduceToNat]
            rw [hp1 h]
            (repeat' apply And.intro) <;> rfl
        · have hg0 : x.2.get ((1 : Nat) : Int) = a1 := by rw [← hx]; rfl
          rw [hg0] at hp0 hp1
          simp only [Int.cast_ofNat_Int, Nat.reduceAdd] at hp0 hp1 hpb hlb ha1
          (simp -implicitDefEqProofs (maxSteps := 4000000) only [go_sem, Bool.not_eq_true', Bool.not_eq_false', Bool.or_eq_true, Bool.or_eq_false_iff, Bool.and_eq_true, Bool.and_eq_false_iff, decide_eq_true_eq, decide_eq_false_iff_not, Classical.not_not, not_or, maxLen, leastC, con36, con38, con37, hT, hG, hk, hK, Tryz.results35, Int.cast_ofNat_Int, Int.reduceLE, Int.reduceLT, and_self, Int.le_refl, Int.reduceToNat, Ty.dflt]); (try simp (disch := decide +kernel) only [drawn, true_and, and_true])
          rw [hx]
          simp only [Int.toNat_natCast]
          refine ⟨fun _ => ⟨fun h => ⟨by omega, ?_⟩, fun h _ => ⟨⟨h1, by omega, by omega⟩, fun _ => ⟨⟨by omega, by omega, h3, by omega, h5, by omega, hb.2.2⟩, fun _ => ⟨by omega, by omega, ?_⟩⟩⟩⟩, fun h => absurd hlt (by omega)⟩
          · refine fin_lp ⟨2, by omega, by omega⟩ ?_ (by dsimp only; omega)
            simp only [go_sem]
            simp only [Int.reduceToNat]
            rw [hp0 h]
            (repeat' apply And.intro) <;> rfl
          · refine fin_lp ⟨2, by omega, by omega⟩ ?_ (by dsimp only; omega)
            simp only [go_sem]
            simp only [Int.reduceToNat]
            rw [hp1 h]
            (repeat' apply And.intro) <;> rfl
        · have hg0 : x.2.get ((2 : Nat) : Int) = a2 := by rw [← hx]; rfl
          rw [hg0] at hp0 hp1
          simp only [Int.cast_ofNat_Int, Nat.reduceAdd] at hp0 hp1 hpb hlb ha1
          (simp -implicitDefEqProofs (maxSteps := 4000000) only [go_sem, Bool.not_eq_true', Bool.not_eq_false', Bool.or_eq_true, Bool.or_eq_false_iff, Bool.and_eq_true, Bool.and_eq_false_iff, decide_eq_true_eq, decide_eq_false_iff_not, Classical.not_not, not_or, maxLen, leastC, con36, con38, con37, hT, hG, hk, hK, Tryz.results35, Int.cast_ofNat_Int, Int.reduceLE, Int.reduceLT, and_self, Int.le_refl, Int.reduceToNat, Ty.dflt]); (try simp (disch := decide +kernel) only [drawn, true_and, and_true])
          rw [hx]
          simp only [Int.toNat_natCast]
          refine ⟨fun _ => ⟨fun h => ⟨by omega, ?_⟩, fun h _ => ⟨⟨h1, by omega, by omega⟩, fun _ => ⟨⟨by omega, by omega, h3, by omega, h5, by omega, hb.2.2⟩, fun _ => ⟨by omega, by omega, ?_⟩⟩⟩⟩, fun h => absurd hlt (by omega)⟩
          · refine fin_lp ⟨3, by omega, by omega⟩ ?_ (by dsimp only; omega)
            simp only [go_sem]
            simp only [Int.reduceToNat]
            rw [hp0 h]
            (repeat' apply And.intro) <;> rfl
          · refine fin_lp ⟨3, by omega, by omega⟩ ?_ (by dsimp only; omega)
            simp only [go_sem]
            simp only [Int.reduceToNat]
            rw [hp1 h]
            (repeat' apply And.intro) <;> rfl
        · have hg0 : x.2.get ((3 : Nat) : Int) = a3 := by rw [← hx]; rfl
          rw [hg0] at hp0 hp1
          simp only [Int.cast_ofNat_Int, Nat.reduceAdd] at hp0 hp1 hpb hlb ha1
          (simp -implicitDefEqProofs (maxSteps := 4000000) only [go_sem, Bool.not_eq_true', Bool.not_eq_false', Bool.or_eq_true, Bool.or_eq_false_iff, Bool.and_eq_true, Bool.and_eq_false_iff, decide_eq_true_eq, decide_eq_false_iff_not, Classical.not_not, not_or, maxLen, leastC, con36, con38, con37, hT, hG, hk, hK, Tryz.results35, Int.cast_ofNat_Int, Int.reduceLE, Int.reduceLT, and_self, Int.le_refl, Int.reduceToNat, Ty.dflt]); (try simp (disch := decide +kernel) only [drawn, true_and, and_true])
          rw [hx]
          simp only [Int.toNat_natCast]
          refine ⟨fun _ => ⟨fun h => ⟨by omega, ?_⟩, fun h _ => ⟨⟨h1, by omega, by omega⟩, fun _ => ⟨⟨by omega, by omega, h3, by omega, h5, by omega, hb.2.2⟩, fun _ => ⟨by omega, by omega, ?_⟩⟩⟩⟩, fun h => absurd hlt (by omega)⟩
          · refine fin_lp ⟨4, by omega, by omega⟩ ?_ (by dsimp only; omega)
            simp only [go_sem]
            simp only [Int.reduceToNat]
            rw [hp0 h]
            (repeat' apply And.intro) <;> rfl
          · refine fin_lp ⟨4, by omega, by omega⟩ ?_ (by dsimp only; omega)
            simp only [go_sem]
            simp only [Int.reduceToNat]
            rw [hp1 h]
            (repeat' apply And.intro) <;> rfl
        · have hg0 : x.2.get ((4 : Nat) : Int) = a4 := by rw [← hx]; rfl
          rw [hg0] at hp0 hp1
          simp only [Int.cast_ofNat_Int, Nat.reduceAdd] at hp0 hp1 hpb hlb ha1
          (simp -implicitDefEqProofs (maxSteps := 4000000) only [go_sem, Bool.not_eq_true', Bool.not_eq_false', Bool.or_eq_true, Bool.or_eq_false_iff, Bool.and_eq_true, Bool.and_eq_false_iff, decide_eq_true_eq, decide_eq_false_iff_not, Classical.not_not, not_or, maxLen, leastC, con36, con38, con37, hT, hG, hk, hK, Tryz.results35, Int.cast_ofNat_Int, Int.reduceLE, Int.reduceLT, and_self, Int.le_refl, Int.reduceToNat, Ty.dflt]); (try simp (disch := decide +kernel) only [drawn, true_and, and_true])
          rw [hx]
          simp only [Int.toNat_natCast]
          refine ⟨fun _ => ⟨fun h => ⟨by omega, ?_⟩, fun h _ => ⟨⟨h1, by omega, by omega⟩, fun _ => ⟨⟨by omega, by omega, h3, by omega, h5, by omega, hb.2.2⟩, fun _ => ⟨by omega, by omega, ?_⟩⟩⟩⟩, fun h => absurd hlt (by omega)⟩
          · refine fin_lp ⟨5, by omega, by omega⟩ ?_ (by dsimp only; omega)
            simp only [go_sem]
            simp only [Int.reduceToNat]
            rw [hp0 h]
            (repeat' apply And.intro) <;> rfl
          · refine fin_lp ⟨5, by omega, by omega⟩ ?_ (by dsimp only; omega)
            simp only [go_sem]
            simp only [Int.reduceToNat]
            rw [hp1 h]
            (repeat' apply And.intro) <;> rfl
        · have hg0 : x.2.get ((5 : Nat) : Int) = a5 := by rw [← hx]; rfl
          rw [hg0] at hp0 hp1
          simp only [Int.cast_ofNat_Int, Nat.reduceAdd] at hp0 hp1 hpb hlb ha1
          (simp -implicitDefEqProofs (maxSteps := 4000000) only [go_sem, Bool.not_eq_true', Bool.not_eq_false', Bool.or_eq_true, Bool.or_eq_false_iff, Bool.and_eq_true, Bool.and_eq_false_iff, decide_eq_true_eq, decide_eq_false_iff_not, Classical.not_not, not_or, maxLen, leastC, con36, con38, con37, hT, hG, hk, hK, Tryz.results35, Int.cast_ofNat_Int, Int.reduceLE, Int.reduceLT, and_self, Int.le_refl, Int.reduceToNat, Ty.dflt]); (try simp (disch := decide +kernel) only [drawn, true_and, and_true])
          rw [hx]
          simp only [Int.toNat_natCast]
          refine ⟨fun _ => ⟨fun h => ⟨by omega, ?_⟩, fun h _ => ⟨⟨h1, by omega, by omega⟩, fun _ => ⟨⟨by omega, by omega, h3, by omega, h5, by omega, hb.2.2⟩, fun _ => ⟨by omega, by omega, ?_⟩⟩⟩⟩, fun h => absurd hlt (by omega)⟩
          · refine fin_lp ⟨6, by omega, by omega⟩ ?_ (by dsimp only; omega)
            simp only [go_sem]
            simp only [Int.reduceToNat]
            rw [hp0 h]
            (repeat' apply And.intro) <;> rfl
          · refine fin_lp ⟨6, by omega, by omega⟩ ?_ (by dsimp only; omega)
            simp only [go_sem]
            simp only [Int.reduceToNat]
            rw [hp1 h]
            (repeat' apply And.intro) <;> rfl
      · obtain rfl : c = n := by omega
        rw [hq] at hL
        (simp -implicitDefEqProofs (maxSteps := 4000000) only [go_sem, Bool.not_eq_true', Bool.not_eq_false', Bool.or_eq_true, Bool.or_eq_false_iff, Bool.and_eq_true, Bool.and_eq_false_iff, decide_eq_true_eq, decide_eq_false_iff_not, Classical.not_not, not_or, maxLen, leastC, con36, con38, con37, hT, hG, hk, hK, Tryz.results35, Ty.dflt]); (try simp (disch := decide +kernel) only [drawn, true_and, and_true])
        refine ⟨fun h => absurd h (by omega), fun _ => ?_⟩
        rw [hx, hnn, hL]
        exact ⟨rfl, rfl⟩)
theorem leastOk : ∀ k, CtrOk Tryz.prog 35 (leastC k).ctr
 | 0 => leastZero
 | k + 1 => leastStep k (leastOk k)
end Go.Proofs.YtdeihcabmpcaoaaGreat

/-! Plain law of replan: the least number of moves, the first repair with it. -/
namespace RlM

structure Nd where
 frm : Int
 to : Int
 home : Int
 fixed : Bool

def nn : Int := 17

def price (d : Nd) (c : Nat) : Int := if 0 ≤ d.home ∧ d.home ≠ (c : Int) then 1 else 0

def poss (d : Nd) (c : Nat) (f : Int) : Bool :=
 decide (f ≤ d.frm) && (!d.fixed || decide ((c : Int) = d.home))

def after (d : Nd) (c : Nat) (fr : List Int) : List Int :=
 (fr.set c d.to).map (fun v => if v ≤ d.frm then 0 else v)

def stepL (d : Nd) (fr : List Int) (f : Nat → Int) (b : Int) (c : Nat) : Int :=
 if poss d c (fr.getD c 0) then min b (price d c + f c) else b

def least (n : Nat) : List Nd → List Int → Int
 | [], _ => 0
 | d :: ds, fr => (List.range n).foldl (stepL d fr (fun c => least n ds (after d c fr))) nn

def okc (n : Nat) : List Nd → List Int → Int → Nat → Bool
 | d, fr, rest, c => match d with
   | [] => false
   | d :: ds => poss d c (fr.getD c 0) && decide (price d c + least n ds (after d c fr) = rest)

def first (n : Nat) : List Nd → List Int → Int → List Nat
 | [], _, _ => []
 | d :: ds, fr, rest =>
   match (List.range n).find? (okc n (d :: ds) fr rest) with
   | some c => c :: first n ds (after d c fr) (rest - price d c)
   | none => []

def Path (n : Nat) : List Nd → List Int → List Nat → Prop
 | [], _, [] => True
 | d :: ds, fr, c :: cs => c < n ∧ poss d c (fr.getD c 0) = true ∧ Path n ds (after d c fr) cs
 | _, _, _ => False

def cost : List Nd → List Nat → Int
 | d :: ds, c :: cs => price d c + cost ds cs
 | _, _ => 0

def num (n : Nat) : List Nat → Nat
 | [] => 0
 | c :: cs => c * n ^ cs.length + num n cs

theorem price_le (d : Nd) (c : Nat) : 0 ≤ price d c ∧ price d c ≤ 1 := by
 unfold price; split <;> omega

theorem path_len {n : Nat} : ∀ {ds : List Nd} {fr : List Int} {cs : List Nat}, Path n ds fr cs → cs.length = ds.length
 | [], _, [], _ => rfl
 | _ :: _, _, _ :: _, h => by simp [path_len h.2.2]
 | [], _, _ :: _, h => by simp [Path] at h
 | _ :: _, _, [], h => by simp [Path] at h

theorem path_lt {n : Nat} : ∀ {ds : List Nd} {fr : List Int} {cs : List Nat}, Path n ds fr cs → ∀ c ∈ cs, c < n
 | [], _, [], _ => by simp
 | _ :: _, _, _ :: _, h => by
   intro x hx
   rcases List.mem_cons.1 hx with hx | hx
   · exact hx ▸ h.1
   · exact path_lt h.2.2 x hx
 | [], _, _ :: _, h => by simp [Path] at h
 | _ :: _, _, [], h => by simp [Path] at h

theorem cost_le : ∀ (ds : List Nd) (cs : List Nat), 0 ≤ cost ds cs ∧ cost ds cs ≤ ds.length
 | [], _ => by simp [cost]
 | _ :: _, [] => by simp [cost]; omega
 | d :: ds, c :: cs => by
   have a := price_le d c
   have b := cost_le ds cs
   simp only [cost, List.length_cons]; omega

theorem fold_le {d : Nd} {fr : List Int} {f : Nat → Int} : ∀ (l : List Nat) (b : Int),
 l.foldl (stepL d fr f) b ≤ b
 | [], b => by simp
 | c :: l, b => by
   have h := fold_le (d := d) (fr := fr) (f := f) l (stepL d fr f b c)
   have : stepL d fr f b c ≤ b := by unfold stepL; split <;> omega
   simp only [List.foldl_cons]; omega

theorem fold_mem {d : Nd} {fr : List Int} {f : Nat → Int} : ∀ (l : List Nat) (b : Int) (c : Nat), c ∈ l →
 poss d c (fr.getD c 0) = true → l.foldl (stepL d fr f) b ≤ price d c + f c
 | x :: l, b, c, hc, hp => by
   simp only [List.foldl_cons]
   rcases List.mem_cons.1 hc with h | h
   · subst h
     have h := fold_le (d := d) (fr := fr) (f := f) l (stepL d fr f b c)
     have : stepL d fr f b c ≤ price d c + f c := by unfold stepL; rw [if_pos hp]; omega
     omega
   · exact fold_mem l _ c h hp

theorem fold_ex {d : Nd} {fr : List Int} {f : Nat → Int} : ∀ (l : List Nat) (b : Int),
 l.foldl (stepL d fr f) b = b ∨
 ∃ c ∈ l, poss d c (fr.getD c 0) = true ∧ l.foldl (stepL d fr f) b = price d c + f c
 | [], b => .inl rfl
 | x :: l, b => by
   simp only [List.foldl_cons]
   rcases fold_ex (d := d) (fr := fr) (f := f) l (stepL d fr f b x) with h | ⟨c, hc, hp, he⟩
   · rw [h]
     by_cases hp : poss d x (fr.getD x 0) = true
     · by_cases hm : b ≤ price d x + f x
       · left; unfold stepL; rw [if_pos hp]; omega
       · right; refine ⟨x, by simp, hp, ?_⟩; unfold stepL; rw [if_pos hp]; omega
     · left; unfold stepL; rw [if_neg hp]
   · exact .inr ⟨c, List.mem_cons_of_mem _ hc, hp, he⟩

theorem least_nn (n : Nat) (ds : List Nd) (fr : List Int) : least n ds fr ≤ nn := by
 cases ds with
 | nil => simp [least, nn]
 | cons d ds => exact fold_le _ _

theorem least_le {n : Nat} : ∀ {ds : List Nd} {fr : List Int} {cs : List Nat}, Path n ds fr cs →
 least n ds fr ≤ cost ds cs
 | [], _, [], _ => by simp [least, cost]
 | d :: ds, fr, c :: cs, h => by
   have a := fold_mem (d := d) (fr := fr) (f := fun c => least n ds (after d c fr)) (List.range n) nn c
    (List.mem_range.2 h.1) h.2.1
   have b := least_le h.2.2
   simp only [least, cost]; omega
 | [], _, _ :: _, h => by simp [Path] at h
 | _ :: _, _, [], h => by simp [Path] at h

theorem least_ex {n : Nat} : ∀ {ds : List Nd} {fr : List Int}, least n ds fr < nn →
 ∃ cs, Path n ds fr cs ∧ cost ds cs = least n ds fr
 | [], _, _ => ⟨[], by simp [Path], by simp [cost, least]⟩
 | d :: ds, fr, h => by
   rcases fold_ex (d := d) (fr := fr) (f := fun c => least n ds (after d c fr)) (List.range n) nn with e | ⟨c, hc, hp, e⟩
   · simp only [least] at h; omega
   · have e' : least n (d :: ds) fr = price d c + least n ds (after d c fr) := e
     have a := price_le d c
     have h2 : least n ds (after d c fr) < nn := by omega
     have ⟨cs, p, q⟩ := least_ex h2
     exact ⟨c :: cs, ⟨List.mem_range.1 hc, hp, p⟩, by simp only [cost]; omega⟩

/-- There is a way exactly if the least number is less than none. -/
theorem least_iff {n : Nat} {ds : List Nd} {fr : List Int} (hl : (ds.length : Int) < nn) :
 least n ds fr < nn ↔ ∃ cs, Path n ds fr cs := by
 constructor
 · intro h; have ⟨cs, p, _⟩ := least_ex h; exact ⟨cs, p⟩
 · intro ⟨cs, p⟩
   have := least_le p
   have := cost_le ds cs
   omega

theorem num_lt {n : Nat} : ∀ {cs : List Nat}, (∀ c ∈ cs, c < n) → num n cs < n ^ cs.length
 | [], _ => by simp [num]
 | c :: cs, h => by
   have a := num_lt (cs := cs) (fun x hx => h x (List.mem_cons_of_mem _ hx))
   have b : c + 1 ≤ n := h c (by simp)
   have d := Nat.mul_le_mul_right (n ^ cs.length) b
   simp only [num, List.length_cons, Nat.pow_succ, Nat.mul_comm _ n]
   rw [Nat.add_mul] at d; omega

theorem find_first {p : Nat → Bool} {n c : Nat} (h : (List.range n).find? p = some c) :
 c < n ∧ p c = true ∧ ∀ x < c, p x = false := by
 have h1 := List.find?_some h
 have h2 := List.mem_of_find?_eq_some h
 refine ⟨List.mem_range.1 h2, h1, ?_⟩
 intro x hx
 rw [List.find?_eq_some_iff_append] at h
 obtain ⟨_, xs1, ys1, e, hn⟩ := h
 have hi : xs1.length = c := by
  have h3 := congrArg (fun l => l[xs1.length]?) e
  simp only [List.getElem?_append_right (Nat.le_refl _), Nat.sub_self, List.getElem?_cons_zero] at h3
  rw [List.getElem?_eq_some_iff] at h3
  obtain ⟨_, h3⟩ := h3
  simpa using h3
 have h4 : xs1[x]? = some x := by
  have h3 := congrArg (fun l => l[x]?) e
  rw [List.getElem?_append_left (by omega), List.getElem?_eq_getElem (by simp; have := List.mem_range.1 h2; omega)] at h3
  simpa using h3.symm
 have h5 := hn x (List.mem_of_getElem? h4)
 simpa using h5

theorem first_ok {n : Nat} : ∀ {ds : List Nd} {fr : List Int} {rest : Int}, least n ds fr = rest → rest < nn →
 Path n ds fr (first n ds fr rest) ∧ cost ds (first n ds fr rest) = rest ∧
 ∀ cs, Path n ds fr cs → cost ds cs = rest → num n (first n ds fr rest) ≤ num n cs
 | [], fr, rest, h, _ => by
   refine ⟨by simp [first, Path], by simpa [first, cost, least] using h, ?_⟩
   intro cs _ _; simp [first, num]
 | d :: ds, fr, rest, h, hr => by
   have hex : ∃ c, (List.range n).find? (okc n (d :: ds) fr rest) = some c := by
    cases hf : (List.range n).find? (okc n (d :: ds) fr rest) with
    | some c => exact ⟨c, rfl⟩
    | none =>
      have hn := List.find?_eq_none.1 hf
      rcases fold_ex (d := d) (fr := fr) (f := fun c => least n ds (after d c fr)) (List.range n) nn with e | ⟨c, hc, hp, e⟩
      · simp only [least] at h; omega
      · have := hn c hc
        have e' : least n (d :: ds) fr = price d c + least n ds (after d c fr) := e
        simp only [okc, hp, Bool.true_and, decide_eq_true_eq] at this
        omega
   obtain ⟨c, hf⟩ := hex
   have ⟨hc, hk, hx⟩ := find_first hf
   simp only [okc, Bool.and_eq_true, decide_eq_true_eq] at hk
   have hp := price_le d c
   have ⟨i1, i2, i3⟩ := first_ok (n := n) (ds := ds) (fr := after d c fr) (rest := rest - price d c) (by omega) (by omega)
   have hfst : first n (d :: ds) fr rest = c :: first n ds (after d c fr) (rest - price d c) := by
    simp only [first, hf]
   rw [hfst]
   refine ⟨⟨hc, hk.1, i1⟩, by simp only [cost]; omega, ?_⟩
   intro cs pc ec
   cases cs with
   | nil => simp [Path] at pc
   | cons x cs =>
     simp only [Path] at pc
     simp only [cost] at ec
     have hq := price_le d x
     have ll := least_le pc.2.2
     have l1 := path_len i1
     have l2 := path_len pc.2.2
     have hge : least n ds (after d x fr) + price d x ≥ rest := by
      have a := fold_mem (d := d) (fr := fr) (f := fun c => least n ds (after d c fr)) (List.range n) nn x
       (List.mem_range.2 pc.1) pc.2.1
      have e' : least n (d :: ds) fr = (List.range n).foldl (stepL d fr (fun c => least n ds (after d c fr))) nn := rfl
      omega
     have hox : okc n (d :: ds) fr rest x = true := by
      simp only [okc, pc.2.1, Bool.true_and, decide_eq_true_eq]; omega
     have hcx : c ≤ x := by
      rcases Nat.lt_or_ge x c with h | h
      · have := hx x h; rw [this] at hox; cases hox
      · exact h
     simp only [num, l1, l2]
     rcases Nat.lt_or_ge c x with h | h
     · have b := num_lt (path_lt i1)
       rw [l1] at b
       have := Nat.mul_le_mul_right (n ^ ds.length) (show c + 1 ≤ x from h)
       rw [Nat.add_mul] at this
       omega
     · have : x = c := by omega
       subst this
       have := i3 cs pc.2.2 (by omega)
       omega

/-- What a repair says of departures and chutes, pair by pair. -/
def Fit (n : Nat) (ds : List Nd) (cs : List Nat) : Prop :=
 cs.length = ds.length ∧
 (∀ a ∈ ds.zip cs, a.2 < n ∧ (a.1.fixed = true → (a.2 : Int) = a.1.home)) ∧
 (ds.zip cs).Pairwise (fun a b => a.2 = b.2 → a.1.to ≤ b.1.frm)

def Asc (ds : List Nd) : Prop := (∀ d ∈ ds, 0 ≤ d.frm) ∧ ds.Pairwise (fun a b => a.frm ≤ b.frm)

theorem after_get {d : Nd} {c x : Nat} {fr : List Int} (hc : c < fr.length) :
 (after d c fr).getD x 0 =
   if (if x = c then d.to else fr.getD x 0) ≤ d.frm then 0 else (if x = c then d.to else fr.getD x 0) := by
 unfold after
 rw [List.getD_eq_getElem?_getD, List.getElem?_map, List.getElem?_set, List.getD_eq_getElem?_getD]
 by_cases h : c = x
 · subst h; simp [hc]
 · have h' : ¬ x = c := fun e => h e.symm
   simp only [h, h', if_false]
   cases fr[x]? with
   | none => simp
   | some v => simp

theorem after_len {d : Nd} {c : Nat} {fr : List Int} : (after d c fr).length = fr.length := by simp [after]

theorem path_iff {n : Nat} : ∀ {ds : List Nd} {fr : List Int} {cs : List Nat}, Asc ds → n ≤ fr.length →
 (Path n ds fr cs ↔ Fit n ds cs ∧ ∀ a ∈ ds.zip cs, fr.getD a.2 0 ≤ a.1.frm)
 | [], _, [], _, _ => by simp [Path, Fit]
 | [], _, _ :: _, _, _ => by simp [Path, Fit]
 | _ :: _, _, [], _, _ => by simp [Path, Fit]
 | d :: ds, fr, c :: cs, ha, hn => by
   have ha' : Asc ds := ⟨fun x hx => ha.1 x (List.mem_cons_of_mem _ hx), (List.pairwise_cons.1 ha.2).2⟩
   have hlt : ∀ x ∈ ds, d.frm ≤ x.frm := (List.pairwise_cons.1 ha.2).1
   have h0 : 0 ≤ d.frm := ha.1 d (by simp)
   have ih := path_iff (n := n) (ds := ds) (fr := after d c fr) (cs := cs) ha' (by rw [after_len]; exact hn)
   have hz : ∀ a ∈ ds.zip cs, a.1 ∈ ds := fun a h => (List.of_mem_zip h).1
   simp only [Path, Fit, List.zip_cons_cons, List.length_cons, List.pairwise_cons, List.forall_mem_cons]
   constructor
   · rintro ⟨hc, hp, h⟩
     have ⟨⟨l, f, p⟩, g⟩ := ih.1 h
     simp only [poss, Bool.and_eq_true, Bool.or_eq_true, Bool.not_eq_true', decide_eq_true_eq] at hp
     refine ⟨⟨by omega, ⟨⟨hc, fun e => ?_⟩, f⟩, ?_, p⟩, hp.1, ?_⟩
     · rcases hp.2 with h | h
       · rw [h] at e; cases e
       · exact h
     · intro a m e
       have := g a m
       have hx := hlt a.1 (hz a m)
       rw [after_get (by omega), if_pos e.symm] at this
       split at this <;> omega
     · intro a m
       have := g a m
       have hx := hlt a.1 (hz a m)
       rw [after_get (by omega)] at this
       by_cases e : a.2 = c
       · rw [e]; omega
       · rw [if_neg e] at this; split at this <;> omega
   · rintro ⟨⟨l, ⟨⟨hc, he⟩, f⟩, q, p⟩, hp, g⟩
     refine ⟨hc, ?_, ih.2 ⟨⟨by omega, f, p⟩, ?_⟩⟩
     · simp only [poss, Bool.and_eq_true, Bool.or_eq_true, Bool.not_eq_true', decide_eq_true_eq]
       refine ⟨hp, ?_⟩
       cases hf : d.fixed with
       | false => exact .inl rfl
       | true => exact .inr (he hf)
     · intro a m
       have hx := hlt a.1 (hz a m)
       rw [after_get (by omega)]
       by_cases e : a.2 = c
       · have := q a m e.symm
         rw [if_pos e]; split <;> omega
       · have := g a m
         rw [if_neg e]; split <;> omega

theorem path0 {n : Nat} {ds : List Nd} {cs : List Nat} {k : Nat} (ha : Asc ds) (hn : n ≤ k) :
 Path n ds (List.replicate k 0) cs ↔ Fit n ds cs := by
 rw [path_iff ha (by simpa using hn)]
 constructor
 · exact fun h => h.1
 · intro h
   refine ⟨h, fun a m => ?_⟩
   have := ha.1 a.1 (List.of_mem_zip m).1
   rw [List.getD_eq_getElem?_getD, List.getElem?_replicate]
   split <;> simpa using this

end RlM
