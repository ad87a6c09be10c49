/- The contracts of the functions that the statements about the crane reach: finish times and checks of an order; two of the statements. -/
import Derived.Test.YtjghgckdndggoaaCrH
set_option linter.unusedSimpArgs false
set_option linter.unusedVariables false
set_option maxRecDepth 100000
set_option maxHeartbeats 4000000
namespace Go.Proofs.Ytjghgckdndggoaa
open Go.Ev

theorem checked_zero {now : Int} {js : Jobs} (h : checkedV now js = 0) : js.length ≤ 200 ∧ 0 ≤ now ∧ now ≤ 1048576 ∧ ∀ x ∈ js, okJob x = true := by
  unfold checkedV at h
  split at h
  · cases h
  · split at h
    · cases h
    · split at h
      · rename_i hj; exact ⟨by omega, by omega, by omega, List.all_eq_true.1 hj⟩
      · cases h
theorem ordered_true {n : Nat} {l : List Int} (h : orderedV n l = true) : l.Perm (idxs n) := by
  have := of_decide_eq_true h
  exact (sortI_perm l).symm.trans (by rw [this]; simp)
theorem ordered_perm {n : Nat} {l : List Int} (h : l.Perm (idxs n)) : orderedV n l = true := by
  refine decide_eq_true ?_
  rw [sortI_idxs h]; simp

def finXV (now : Int) (js : Jobs) (o : List Int) : List Int := if checkedV now js ≠ 0 ∨ orderedV js.length o = false then [] else finV js now o
def con13 : Con := { ps := [.d false (.int .i64), .d false (.sl (.pair (.int .i64) (.int .i64))), .d false (.sl (.int .i64))], rs := [.d false (.sl (.int .i64))], pre := fun x => x.2.2.1.length ≤ 1048576, out := fun x => (finXV x.1 x.2.1 x.2.2.1, ()), nw := id }
theorem c13 : CtrOk Try.prog 13 con13.ctr :=
  con_sound (G := ⟨[(27, con27.ctr), (30, con30.ctr), (31, con31.ctr)], [], []⟩) tab_ok (EnvOk.cons c27 has27 (EnvOk.cons c30 has30 (EnvOk.cons c31 has31 EnvOk.nil))) rfl Try.func13 rfl con13 131143 (by kernel_rfl) (by decide) (by decide) rfl (by decide) rfl (by
    rintro ⟨(now : Int), (js : Jobs), (o : List Int), _⟩ hpre hwf X hT hG hk hK
    have ho : o.length ≤ 1048576 := hpre
    (simp only [go_sem, Int.toNat_zero, Nat.reduceAdd, Nat.reduceMul, Nat.reduceSub, Nat.reduceEqDiff, Nat.reduceLT, Nat.reduceLeDiff, Nat.reduceShiftRight, Nat.reduceMod, Nat.reduceBEq, reduceCtorEq, reduceIte, reduceDIte, Int.reduceNeg, con13, con27, con30, con31, hT, hG, hk, hK, Try.results13] at hwf ⊢); (try simp (disch := decide +kernel) only [drawn, true_and, and_true])
    intro _ _
    refine ⟨fun _ => ⟨by omega, ho⟩, fun h => by simpa using h, fun h => ?_, fun h => ?_⟩
    · unfold finXV
      simp only [Bool.or_eq_true, decide_eq_true_eq, Bool.not_eq_true'] at h
      rw [if_pos h]
    · simp only [Bool.or_eq_false_iff, decide_eq_false_iff_not, Classical.not_not, Bool.not_eq_false'] at h
      have hz := checked_zero h.1
      have hp := ordered_true h.2
      refine ⟨⟨hz.2.1, hz.2.2.1, ho, fun k hk => idxs_mem (hp.mem_iff.1 hk)⟩, fun _ => ?_⟩
      unfold finXV
      rw [if_neg]
      rintro (h3 | h3)
      · exact h3 h.1
      · rw [h.2] at h3; cases h3)
def checkXV (now : Int) (js : Jobs) (o : List Int) : Int := if checkedV now js ≠ 0 then checkedV now js else if orderedV js.length o = false then 9 else if lateV now js o ≥ 0 then 12 else 0
def con16 : Con := { ps := [.d false (.int .i64), .d false (.sl (.pair (.int .i64) (.int .i64))), .d false (.sl (.int .i64))], rs := [.d false (.int .i64)], pre := fun x => x.2.2.1.length ≤ 1048576, out := fun x => (checkXV x.1 x.2.1 x.2.2.1, ()), nw := id }
theorem c16 : CtrOk Try.prog 16 con16.ctr :=
  con_sound (G := ⟨[(27, con27.ctr), (30, con30.ctr), (29, con29.ctr)], [], []⟩) tab_ok (EnvOk.cons c27 has27 (EnvOk.cons c30 has30 (EnvOk.cons c29 has29 EnvOk.nil))) rfl Try.func16 rfl con16 1069255 (by kernel_rfl) (by decide) (by decide) rfl (by decide) rfl (by
    rintro ⟨(now : Int), (js : Jobs), (o : List Int), _⟩ hpre hwf X hT hG hk hK
    have ho : o.length ≤ 1048576 := hpre
    (simp only [go_sem, Int.toNat_zero, Nat.reduceAdd, Nat.reduceMul, Nat.reduceSub, Nat.reduceEqDiff, Nat.reduceLT, Nat.reduceLeDiff, Nat.reduceShiftRight, Nat.reduceMod, Nat.reduceBEq, reduceCtorEq, reduceIte, reduceDIte, Int.reduceNeg, con16, con27, con30, con29, hT, hG, hk, hK, Try.results16] at hwf ⊢); (try simp (disch := decide +kernel) only [drawn, true_and, and_true])
    intro _
    refine ⟨fun h => by unfold checkXV; rw [if_pos h], fun h hl => ⟨⟨by omega, ho⟩, fun h2 => ?_, fun h2 => ?_⟩⟩
    · simp only [Bool.not_eq_true'] at h2
      unfold checkXV; rw [if_neg h, if_pos h2]
    · simp only [Bool.not_eq_false'] at h2
      have h0 : checkedV now js = 0 := Classical.not_not.1 h
      have hz := checked_zero h0
      have hp := ordered_true h2
      refine ⟨⟨hz.2.1, hz.2.2.1, ho, fun k hk => idxs_mem (hp.mem_iff.1 hk)⟩, fun _ => ⟨fun h3 => ?_, fun h3 => ?_⟩⟩
      · unfold checkXV lateV; rw [if_neg h, if_neg (by rw [h2]; simp), if_pos h3]
      · unfold checkXV lateV; rw [if_neg h, if_neg (by rw [h2]; simp), if_neg h3])

theorem someV_gen (l : List Int) (n : Int) (h0 : 0 ≤ n) (h1 : n ≤ 20) : (0 ≤ (someV l n).1 ∧ (someV l n).1 ≤ 4) ∧ ((someV l n).2.length : Int) ≤ n ∧ ∀ x ∈ (someV l n).2, 0 ≤ x.1 ∧ x.1 ≤ 99 ∧ 0 ≤ x.2 ∧ x.2 ≤ 10000 := by
  have g1 := goMod_bd (Src.raw (l.take 2000, 0)) 5 (by omega)
  have g2 := goMod_bd (Src.raw (Src.step (l.take 2000, 0))) (n + 1) (by omega)
  have h := someL_ok (goMod (Src.raw (Src.step (l.take 2000, 0))) (n + 1)).toNat (Src.step (Src.step (l.take 2000, 0))) (goMod (Src.raw (l.take 2000, 0)) 5) g1.1 (by omega)
  have e : someV l n = (goMod (Src.raw (l.take 2000, 0)) 5, someL (goMod (Src.raw (Src.step (l.take 2000, 0))) (n + 1)).toNat (Src.step (Src.step (l.take 2000, 0))) (goMod (Src.raw (l.take 2000, 0)) 5)) := rfl
  rw [e]
  refine ⟨⟨g1.1, ?_⟩, ?_, h.2⟩
  · simp only; omega
  · rw [h.1]; omega
theorem checked_ok {js : Jobs} {now : Int} (hp : ∀ x ∈ js, 0 ≤ x.1 ∧ x.1 ≤ 99 ∧ 0 ≤ x.2 ∧ x.2 ≤ 1048576) (hn : 0 ≤ now ∧ now ≤ 1048576) (hl : js.length ≤ 200) : checkedV now js = 0 := by
  unfold checkedV
  rw [if_neg (by omega), if_neg (by omega), if_pos]
  refine List.all_eq_true.2 fun x hx => ?_
  have := hp x hx
  unfold okJob costV
  rw [if_neg (by omega)]
  simp; omega

/-- The sum of the costs. -/
def sumC (js : Jobs) (t : Int) (ks : List Int) : Int := ks.foldl (fun t k => t + costV (js.getD k.toNat (0, 0)).1) t
theorem sumC_snoc (js : Jobs) (t : Int) (ks : List Int) (k : Int) : sumC js t (ks ++ [k]) = sumC js t ks + costV (js.getD k.toNat (0, 0)).1 := by
  unfold sumC; rw [List.foldl_append]; rfl
theorem finV_at (js : Jobs) : ∀ (ks : List Int) (t : Int) (i : Nat), i < ks.length → (finV js t ks).getD i 0 = sumC js t (ks.take (i + 1))
  | [], _, i, h => by simp at h
  | k :: ks, t, 0, _ => by simp [finV, sumC]
  | k :: ks, t, i + 1, h => by
    have := finV_at js ks (t + costV (js.getD k.toNat (0, 0)).1) i (by simpa using h)
    simp only [finV, List.getD_cons_succ, List.take_succ_cons]
    rw [this]
    simp [sumC]
theorem sumC_perm (js : Jobs) {a b : List Int} (h : a.Perm b) (t : Int) : sumC js t a = sumC js t b := by
  unfold sumC
  exact h.foldl_eq' (fun x _ y _ z => by omega) t
theorem sumC_idxs (js : Jobs) (t : Int) (i : Nat) (hi : i < js.length) (h : ∀ x ∈ js, 0 ≤ x.1 ∧ x.1 ≤ 99) : sumC js t (idxs (i + 1)) = sumC js t (idxs i) + (2 * (js.getD i (0, 0)).1 + 2) := by
  rw [idxs_succ, sumC_snoc]
  have hm : js.getD i (0, 0) ∈ js := by
    rw [List.getD_eq_getElem?_getD, List.getElem?_eq_getElem hi]; exact List.getElem_mem _
  have := h _ hm
  rw [Int.toNat_natCast, costV, if_neg (by omega)]
theorem sumC_bd (js : Jobs) : ∀ (ks : List Int) (t : Int), t - ks.length ≤ sumC js t ks ∧ sumC js t ks ≤ t + 200 * ks.length
  | [], t => by simp [sumC]
  | k :: ks, t => by
    have h1 := costV_bd (js.getD k.toNat (0, 0)).1
    have h2 := sumC_bd js ks (t + costV (js.getD k.toNat (0, 0)).1)
    have e : sumC js t (k :: ks) = sumC js (t + costV (js.getD k.toNat (0, 0)).1) ks := rfl
    rw [e]
    simp only [List.length_cons]
    omega

def con4 : Con := { ps := [.d false (.sl (.int .i64)), .d false (.sl (.int .i64))], rs := [.d false .bool], pre := fun _ => True, out := fun _ => (true, ()), nw := id }
theorem c4 : CtrOk Try.prog 4 con4.ctr :=
  con_sound (G := ⟨[(8, con8.ctr), (12, con12.ctr), (13, con13.ctr), (14, con14.ctr), (10, con10.ctr)], [], []⟩) tab_ok (EnvOk.cons c8 has8 (EnvOk.cons c12 has12 (EnvOk.cons c13 has13 (EnvOk.cons c14 has14 (EnvOk.cons c10 has10 EnvOk.nil))))) rfl Try.func4 rfl con4 594475186246393843 (by kernel_rfl) (by decide) (by decide) rfl (by decide) rfl (by
    rintro ⟨(l : List Int), (m : List Int), _⟩ hpre hwf X hT hG hk hK
    (simp only [go_sem, Int.toNat_zero, Nat.reduceAdd, Nat.reduceMul, Nat.reduceSub, Nat.reduceEqDiff, Nat.reduceLT, Nat.reduceLeDiff, Nat.reduceShiftRight, Nat.reduceMod, Nat.reduceBEq, reduceCtorEq, reduceIte, reduceDIte, Int.reduceNeg, con4, con8, con12, con13, con14, con10, hT, hG, hk, hK, Try.results4] at hwf ⊢); (try simp (disch := decide +kernel) only [drawn, true_and, and_true])
    obtain ⟨⟨hn1, hn2⟩, hlen, hok⟩ := someV_gen l 8 (by omega) (by omega)
    clear hwf hpre
    generalize (someV l 8).1 = now at hn1 hn2 ⊢
    generalize (someV l 8).2 = js at hlen hok ⊢
    have hpm := permV_perm m js.length
    generalize permV m (js.length : Int) = o at hpm ⊢
    have hol : o.length = js.length := by rw [hpm.length_eq, idxs_len]
    have hf : finXV now js o = finV js now o := by
      unfold finXV
      rw [if_neg]
      rintro (h | h)
      · exact h (checked_ok (fun x hx => by have := hok x hx; omega) (by omega) (by omega))
      · rw [ordered_perm hpm] at h; cases h
    have hfl := finV_len js o now
    have hsum := sumC_perm js hpm now
    rw [hf]
    have hjs : ∀ x ∈ js, 0 ≤ x.1 ∧ x.1 ≤ 99 := fun x hx => by have := hok x hx; omega
    refine ⟨by decide, fun _ _ => ⟨by omega, fun _ => ⟨by omega, fun _ _ _ => ⟨fun h => h (by rw [hfl, hol]), fun _ => ?_⟩⟩⟩⟩
    generalize hfe : finV js now o = f at hfl ⊢
    refine evk_loop ⟨{ q : Nat × Int // q.1 ≤ f.length ∧ q.2 = sumC js now (o.take q.1) }, 1000,
      fun q => [(5, .one (.int .i64 now)), (6, .one (.sl (.pair (.int .i64) (.int .i64)) js false)), (7, .one (.sl (.int .i64) o false)), (8, .one (.sl (.int .i64) f false)), (9, .one (.int .i64 q.1.2)), (10, .one (.int .i64 q.1.1))], fun _ => [], fun q => f.length - q.1.1⟩ ⟨(0, now), by simp, by simp [sumC]⟩ ?_ ?_
    · simp only [go_sem, Int.toNat_zero, Nat.reduceAdd, Nat.reduceMul, Nat.reduceSub, Nat.reduceEqDiff, Nat.reduceLT, Nat.reduceLeDiff, Nat.reduceShiftRight, Nat.reduceMod, Nat.reduceBEq, reduceCtorEq, reduceIte, reduceDIte, Int.reduceNeg]
      rfl
    · rintro ⟨⟨i, s⟩, hi, hs⟩
      (simp only [go_sem, Int.toNat_zero, Nat.reduceAdd, Nat.reduceMul, Nat.reduceSub, Nat.reduceEqDiff, Nat.reduceLT, Nat.reduceLeDiff, Nat.reduceShiftRight, Nat.reduceMod, Nat.reduceBEq, reduceCtorEq, reduceIte, reduceDIte, Int.reduceNeg, con4, con8, con12, con13, con14, con10, hT, hG, hk, hK, Try.results4]); (try simp (disch := decide +kernel) only [drawn, true_and, and_true])
      have hi0 : i ≤ f.length := hi
      have hs0 : s = sumC js now (o.take i) := hs
      have hb := sumC_bd js (o.take i) now
      intro _
      refine ⟨fun hlt => ?_, fun hge => ?_⟩
      · have hi1 : i < o.length := by omega
        have eo : o.getD (i : Int).toNat 0 = o[i] := by simp [hi1]
        have ef : f.getD (i : Int).toNat 0 = sumC js now (o.take (i + 1)) := by rw [← hfe, Int.toNat_natCast]; exact finV_at js o now i hi1
        have ho := idxs_mem (hpm.mem_iff.1 (List.getElem_mem hi1))
        have hsn : sumC js now (o.take (i + 1)) = s + costV (js.getD (o[i]).toNat (0, 0)).1 := by rw [List.take_succ_eq_append_getElem hi1, sumC_snoc, hs0]
        rw [eo, ef, hsn]
        have hcb := costV_bd (js.getD (o[i]).toNat (0, 0)).1
        have hll : (o.take i).length = i := by rw [List.length_take]; omega
        rw [hll] at hb
        generalize hc : costV (js.getD (o[i]).toNat (0, 0)).1 = c at hcb hsn ⊢
        refine ⟨⟨by omega, by omega⟩, fun _ _ => ⟨ho, fun _ _ _ => ⟨by omega, ⟨by omega, by omega⟩, fun _ _ => ⟨fun h => h rfl, fun _ => ⟨by omega, fin_lp ⟨(i + 1, s + c), by omega, hsn.symm⟩ ?_ ?_⟩⟩⟩⟩⟩
        · simp only [go_sem, Int.toNat_zero, Nat.reduceAdd, Nat.reduceMul, Nat.reduceSub, Nat.reduceEqDiff, Nat.reduceLT, Nat.reduceLeDiff, Nat.reduceShiftRight, Nat.reduceMod, Nat.reduceBEq, reduceCtorEq, reduceIte, reduceDIte, Int.reduceNeg]
          rfl
        · show f.length - (i + 1) < f.length - i
          omega
      · have hsA : s = sumC js now (idxs js.length) := by rw [hs0, List.take_of_length_le (by omega), hsum]
        refine evk_loop ⟨{ q : Nat × Int // q.1 ≤ js.length ∧ q.2 = sumC js now (idxs q.1) }, 1000,
          fun q => [(6, .one (.sl (.pair (.int .i64) (.int .i64)) js false)), (9, .one (.int .i64 s)), (11, .one (.int .i64 q.1.2)), (12, .one (.int .i64 q.1.1))], fun _ => [], fun q => js.length - q.1.1⟩ ⟨(0, now), by simp, by simp [sumC, idxs]⟩ ?_ ?_
        · simp only [go_sem, Int.toNat_zero, Nat.reduceAdd, Nat.reduceMul, Nat.reduceSub, Nat.reduceEqDiff, Nat.reduceLT, Nat.reduceLeDiff, Nat.reduceShiftRight, Nat.reduceMod, Nat.reduceBEq, reduceCtorEq, reduceIte, reduceDIte, Int.reduceNeg]
          rfl
        · rintro ⟨⟨k, u⟩, hk0, hu⟩
          (simp only [go_sem, Int.toNat_zero, Nat.reduceAdd, Nat.reduceMul, Nat.reduceSub, Nat.reduceEqDiff, Nat.reduceLT, Nat.reduceLeDiff, Nat.reduceShiftRight, Nat.reduceMod, Nat.reduceBEq, reduceCtorEq, reduceIte, reduceDIte, Int.reduceNeg, con4, con8, con12, con13, con14, con10, hT, hG, hk, hK, Try.results4]); (try simp (disch := decide +kernel) only [drawn, true_and, and_true])
          have hk1 : k ≤ js.length := hk0
          have hu0 : u = sumC js now (idxs k) := hu
          have hb2 := sumC_bd js (idxs k) now
          rw [idxs_len] at hb2
          intro _
          refine ⟨fun hlt => ?_, fun hge => ?_⟩
          · have hk2 : k < js.length := by omega
            have hx := sumC_idxs js now k hk2 hjs
            have hm : js.getD k (0, 0) ∈ js := by
              rw [List.getD_eq_getElem?_getD, List.getElem?_eq_getElem hk2]; exact List.getElem_mem _
            have hm2 := hjs _ hm
            rw [Int.toNat_natCast]
            generalize (js.getD k (0, 0)).1 = p at hx hm2 ⊢
            refine ⟨⟨by omega, hlt⟩, fun _ _ => ⟨by omega, by omega, by omega, by omega, fin_lp ⟨(k + 1, u + (2 * p + 2)), by omega, ?_⟩ ?_ ?_⟩⟩
            · show u + (2 * p + 2) = sumC js now (idxs (k + 1))
              rw [hx, hu0]
            · simp only [go_sem, Int.toNat_zero, Nat.reduceAdd, Nat.reduceMul, Nat.reduceSub, Nat.reduceEqDiff, Nat.reduceLT, Nat.reduceLeDiff, Nat.reduceShiftRight, Nat.reduceMod, Nat.reduceBEq, reduceCtorEq, reduceIte, reduceDIte, Int.reduceNeg]
              rfl
            · show js.length - (k + 1) < js.length - k
              omega
          · have : k = js.length := by omega
            subst this
            rw [hsA, hu0])

open Go.Crane in
/-- If any order has no late job, the costs fit. -/
theorem feas_D : ∀ (l : List (Int × Int)) (t D : Int), pos l → feas t l → (∃ y ∈ l, y.2 ≤ D) → t + S l D ≤ D
  | [], _, _, _, _, ⟨y, hy, _⟩ => by cases hy
  | y :: r, t, D, hp, hf, ⟨z, hz, hzD⟩ => by
    have hc : 0 ≤ cost y := hp y List.mem_cons_self
    have hpr : pos r := fun x hx => hp x (List.mem_cons_of_mem _ hx)
    simp only [feas] at hf
    simp only [S]
    by_cases hr : ∃ q ∈ r, q.2 ≤ D
    · have := feas_D r (t + cost y) D hpr hf.2 hr
      split <;> omega
    · have h0 : S r D = 0 := S_zero r D (fun q hq h => hr ⟨q, hq, h⟩)
      rw [h0]
      rcases List.mem_cons.1 hz with rfl | hz
      · rw [if_pos hzD]; omega
      · exact absurd ⟨z, hz, hzD⟩ hr
open Go.Crane in
theorem feas_fits {l l' : List (Int × Int)} {t : Int} (hp : pos l) (hf : feas t l) (h : l.Perm l') : fits t l' := by
  intro x hx
  rw [← S_perm h]
  exact feas_D l t x.2 hp hf ⟨x, h.mem_iff.2 hx, Int.le_refl _⟩

open Go.Crane in
theorem best_ok (js : Jobs) (now : Int) (o : List Int) (hok : ∀ x ∈ js, 0 ≤ x.1 ∧ x.1 ≤ 99 ∧ 0 ≤ x.2 ∧ x.2 ≤ 10000) (hn : 0 ≤ now ∧ now ≤ 4) (hl : js.length ≤ 19) (hp : o.Perm (idxs js.length)) :
    (checkXV now js o = 0 ∨ checkXV now js o = 12) ∧ (checkXV now js o = 0 → planE now js = 0) := by
  have h0 : checkedV now js = 0 := checked_ok (fun x hx => by have := hok x hx; omega) (by omega) (by omega)
  have ho := ordered_perm hp
  have hv : checkXV now js o = if lateV now js o ≥ 0 then 12 else 0 := by
    unfold checkXV
    rw [if_neg (by rw [h0]; simp), if_neg (by rw [ho]; simp)]
  rw [hv]
  split
  · exact ⟨.inr rfl, fun h => by cases h⟩
  · rename_i hla
    refine ⟨.inl rfl, fun _ => ?_⟩
    have hf := (late_feas js (fun x hx => ⟨(hok x hx).1, (hok x hx).2.1⟩) o now 0 (Int.le_refl 0) (fun k hk => idxs_mem (hp.mem_iff.1 hk))).1 hla
    have hpm : (o.map fun k => js.getD k.toNat (0, 0)).Perm js := by
      have := hp.map (fun k : Int => js.getD k.toNat (0, 0))
      rwa [idxs_map] at this
    have hpos : pos (o.map fun k => js.getD k.toNat (0, 0)) := fun x hx => by
      have := hok x (hpm.mem_iff.1 hx); unfold cost; omega
    exact (plan_fits js now (fun x hx => by have := hok x hx; omega) (by omega) hl).1.2 (feas_fits hpos hf hpm)

def con6 : Con := { ps := [.d false (.sl (.int .i64)), .d false (.sl (.int .i64))], rs := [.d false .bool], pre := fun _ => True, out := fun _ => (true, ()), nw := id }
theorem c6 : CtrOk Try.prog 6 con6.ctr :=
  con_sound (G := ⟨[(8, con8.ctr), (12, con12.ctr), (9, con9.ctr), (16, con16.ctr), (10, con10.ctr)], [], []⟩) tab_ok (EnvOk.cons c8 has8 (EnvOk.cons c12 has12 (EnvOk.cons c9 has9 (EnvOk.cons c16 has16 (EnvOk.cons c10 has10 EnvOk.nil))))) rfl Try.func6 rfl con6 883 (by kernel_rfl) (by decide) (by decide) rfl (by decide) rfl (by
    rintro ⟨(l : List Int), (m : List Int), _⟩ hpre hwf X hT hG hk hK
    (simp only [go_sem, Int.toNat_zero, Nat.reduceAdd, Nat.reduceMul, Nat.reduceSub, Nat.reduceEqDiff, Nat.reduceLT, Nat.reduceLeDiff, Nat.reduceShiftRight, Nat.reduceMod, Nat.reduceBEq, reduceCtorEq, reduceIte, reduceDIte, Int.reduceNeg, con6, con8, con12, con9, con16, con10, hT, hG, hk, hK, Try.results6] at hwf ⊢); (try simp (disch := decide +kernel) only [drawn, true_and, and_true])
    obtain ⟨hn, hlen, hok⟩ := someV_gen l 7 (by omega) (by omega)
    clear hwf hpre
    generalize (someV l 7).1 = now at hn ⊢
    generalize (someV l 7).2 = js at hlen hok ⊢
    have hpm := permV_perm m js.length
    generalize permV m (js.length : Int) = o at hpm ⊢
    have hol : o.length = js.length := by rw [hpm.length_eq, idxs_len]
    have hb := best_ok js now o hok hn (by omega) hpm
    refine ⟨by decide, fun _ => ⟨by omega, fun _ _ => ⟨by omega, fun _ => ⟨by omega, fun _ => ⟨fun h => by simpa using h, fun h => ⟨h, fun h2 => by simpa using ⟨by simpa using h, by simpa using h2⟩⟩, ?_⟩⟩⟩⟩⟩
    rcases hb.1 with h | h
    · rw [h, hb.2 h]; rfl
    · rw [h]; rfl)
end Go.Proofs.Ytjghgckdndggoaa
