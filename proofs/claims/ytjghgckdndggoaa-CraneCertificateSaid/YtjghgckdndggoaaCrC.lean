/- The contracts of the functions that the statements about the crane reach: the sort by due times. -/
import Derived.Test.YtjghgckdndggoaaCrB
set_option linter.unusedSimpArgs false
set_option linter.unusedVariables false
set_option maxRecDepth 100000
set_option maxHeartbeats 4000000
namespace Go.Proofs.Ytjghgckdndggoaa
open Go.Ev

/-- Insertion behind all that are not greater. -/
def insV (lt : Int → Int → Bool) (x : Int) : List Int → List Int
  | [] => [x]
  | y :: l => if lt x y then x :: y :: l else y :: insV lt x l
def isort (lt : Int → Int → Bool) (l : List Int) : List Int := l.foldl (fun acc x => insV lt x acc) []
theorem insV_perm (lt : Int → Int → Bool) (x : Int) : ∀ l : List Int, (insV lt x l).Perm (x :: l)
  | [] => List.Perm.refl _
  | y :: l => by
    unfold insV
    split
    · exact List.Perm.refl _
    · exact ((insV_perm lt x l).cons y).trans (List.Perm.swap x y l)
theorem foldl_perm (lt : Int → Int → Bool) : ∀ (l acc : List Int), (l.foldl (fun acc x => insV lt x acc) acc).Perm (acc ++ l)
  | [], acc => by simp
  | x :: l, acc => by
    refine (foldl_perm lt l _).trans ?_
    refine ((insV_perm lt x acc).append_right l).trans ?_
    exact List.perm_middle.symm
theorem isort_perm (lt : Int → Int → Bool) (l : List Int) : (isort lt l).Perm l := by
  have := foldl_perm lt l []
  rwa [List.nil_append] at this
theorem isort_len (lt : Int → Int → Bool) (l : List Int) : (isort lt l).length = l.length := (isort_perm lt l).length_eq
theorem isort_snoc (lt : Int → Int → Bool) (l : List Int) (x : Int) : isort lt (l ++ [x]) = insV lt x (isort lt l) := by simp [isort]
theorem cmpV_neg (a b : Int) : cmpV a b < 0 ↔ a < b := by
  unfold cmpV
  split
  · omega
  · split <;> omega
def dueLt (js : Jobs) (a b : Int) : Bool := decide (dueOf js a < dueOf js b)
theorem isort_sorted (js : Jobs) (l : List Int) : (isort (dueLt js) l).Pairwise (fun a b => dueOf js a ≤ dueOf js b) := by
  have key : ∀ (l acc : List Int), acc.Pairwise (fun a b => dueOf js a ≤ dueOf js b) → (l.foldl (fun acc x => insV (dueLt js) x acc) acc).Pairwise (fun a b => dueOf js a ≤ dueOf js b) := by
    intro l
    induction l with
    | nil => intro acc h; exact h
    | cons x l ih =>
      intro acc h
      refine ih _ ?_
      clear ih
      induction acc with
      | nil => simp [insV]
      | cons y acc ih =>
        obtain ⟨h1, h2⟩ := List.pairwise_cons.1 h
        have ih2 := ih h2
        show List.Pairwise _ (if dueLt js x y then x :: y :: acc else y :: insV (dueLt js) x acc)
        split
        · rename_i hlt
          simp only [dueLt, decide_eq_true_eq] at hlt
          refine List.pairwise_cons.2 ⟨fun z hz => ?_, h⟩
          rcases List.mem_cons.1 hz with rfl | hz
          · omega
          · have := h1 z hz; omega
        · rename_i hlt
          simp only [dueLt, decide_eq_true_eq] at hlt
          refine List.pairwise_cons.2 ⟨fun z hz => ?_, ih2⟩
          rcases List.mem_cons.1 ((insV_perm _ _ _).mem_iff.1 hz) with rfl | hz
          · omega
          · exact h1 z hz
  exact key l [] List.Pairwise.nil
theorem mid_at (P R : List Int) (x : Int) (j : Nat) (h : j ≤ P.length) : (P.take j ++ x :: (P.drop j ++ R)).getD (j : Int).toNat 0 = x := by
  have e : (P.take j).length = j := by rw [List.length_take]; omega
  simp [List.getElem?_append, e]
theorem mid_before (P R : List Int) (x : Int) (j : Nat) (h : 0 < j ∧ j ≤ P.length) : (P.take j ++ x :: (P.drop j ++ R)).getD ((j : Int) - 1).toNat 0 = P[j - 1] := by
  have e : (P.take j).length = j := by rw [List.length_take]; omega
  have e2 : ((j : Int) - 1).toNat = j - 1 := by omega
  rw [e2]
  simp [List.getElem?_append, e, show j - 1 < j by omega, show j - 1 < P.length by omega]
theorem set_two (A : List Int) (p x : Int) (B : List Int) : ((A ++ p :: x :: B).set (A.length + 1) p).set A.length x = A ++ x :: p :: B := by
  induction A with
  | nil => rfl
  | cons a A ih =>
    show a :: (((A ++ p :: x :: B).set (A.length + 1) p).set A.length x) = a :: (A ++ x :: p :: B)
    rw [ih]
theorem mid_swap (P R : List Int) (x : Int) (j : Nat) (h : 0 < j ∧ j ≤ P.length) : ((P.take j ++ x :: (P.drop j ++ R)).set (j : Int).toNat P[j - 1]).set ((j : Int) - 1).toNat x = P.take (j - 1) ++ x :: (P.drop (j - 1) ++ R) := by
  obtain ⟨h1, h2⟩ := h
  obtain ⟨k, rfl⟩ : ∃ k, j = k + 1 := ⟨j - 1, by omega⟩
  have hk : k < P.length := by omega
  have e2 : (((k + 1 : Nat) : Int) - 1).toNat = k := by omega
  have e3 : ((k + 1 : Nat) : Int).toNat = k + 1 := by omega
  rw [e2, e3]
  have e : (P.take k).length = k := by rw [List.length_take]; omega
  have ed : P.drop k = P[k] :: P.drop (k + 1) := List.drop_eq_getElem_cons hk
  have et : P.take (k + 1) = P.take k ++ [P[k]] := List.take_succ_eq_append_getElem hk
  show ((P.take (k + 1) ++ x :: (P.drop (k + 1) ++ R)).set (k + 1) P[k]).set k x = P.take k ++ x :: (P.drop k ++ R)
  rw [ed, et, List.append_assoc]
  have := set_two (P.take k) P[k] x (P.drop (k + 1) ++ R)
  rw [e] at this
  exact this
theorem insV_mid (js : Jobs) (x : Int) : ∀ (P : List Int) (j : Nat), j ≤ P.length → P.Pairwise (fun a b => dueOf js a ≤ dueOf js b) → (∀ y ∈ P.drop j, dueLt js x y = true) → (0 < j → ∀ h : j - 1 < P.length, dueLt js x P[j - 1] = false) → insV (dueLt js) x P = P.take j ++ x :: P.drop j
  | [], j, _, _, _, _ => by simp [insV]
  | y :: P, 0, _, _, h, _ => by
    unfold insV
    rw [if_pos (h y (by simp))]
    rfl
  | y :: P, j + 1, hjl, hs, h, hj => by
    obtain ⟨h1, h2⟩ := List.pairwise_cons.1 hs
    have hy : dueLt js x y = false := by
      have hl : j < (y :: P).length := hjl
      have := hj (by omega) hl
      cases j with
      | zero => exact this
      | succ j =>
        have hjP : j < P.length := by simpa using hl
        have h3 : dueLt js x P[j] = false := this
        have hm := h1 P[j] (List.getElem_mem hjP)
        simp only [dueLt, decide_eq_false_iff_not] at h3 ⊢
        omega
    unfold insV
    rw [if_neg (by rw [hy]; simp), insV_mid js x P j (by simpa using hjl) h2 h (fun hj0 hl => by
      obtain ⟨k, rfl⟩ : ∃ k, j = k + 1 := ⟨j - 1, by omega⟩
      exact hj (by omega) hjl)]
    rfl
def con45 : Con := { ps := [.o 3 (.int .i64), .d false (.int .i64), .d false (.int .i64), .cl 37 [.p 23 (.sl (.pair (.int .i64) (.int .i64)))]], rs := [], pre := fun x => x.2.1 = 0 ∧ x.2.2.1 = x.1.length ∧ x.1.length ≤ 1000 ∧ ∀ k ∈ x.1, 0 ≤ k ∧ k < x.2.2.2.1.1.length, out := fun x => (), nw := fun x => (isort (dueLt x.2.2.2.1.1) x.1, x.2) }
theorem c45 : CtrOk Try.prog 45 con45.ctr :=
  con_sound (G := ⟨[(37, con37.ctr)], [], []⟩) tab_ok (EnvOk.cons c37 has37 EnvOk.nil) rfl Try.func45 rfl con45 17179886351 (by kernel_rfl) (by decide) (by decide) rfl (by decide) rfl (by
    rintro ⟨(l : List Int), (a : Int), (b : Int), ⟨(js : Jobs), _⟩, _⟩ hpre hwf X hT hG hk hK
    obtain ⟨rfl, rfl, h3, h4⟩ : a = 0 ∧ b = l.length ∧ l.length ≤ 1000 ∧ ∀ k ∈ l, 0 ≤ k ∧ k < js.length := hpre
    (simp only [go_sem, Nat.reduceAdd, Nat.reduceMul, Nat.reduceSub, Nat.reduceEqDiff, Nat.reduceLT, Nat.reduceLeDiff, Nat.reduceShiftRight, Nat.reduceMod, Nat.reduceBEq, reduceCtorEq, reduceIte, reduceDIte, Int.reduceNeg, con45, con37, hT, hG, hk, hK, Try.results45] at hwf ⊢); (try simp (disch := decide +kernel) only [drawn, true_and, and_true])
    refine ⟨⟨by omega, by omega⟩, ?_⟩
    refine evk_loop ⟨{ i : Nat // 1 ≤ i }, 1000,
      fun q => [(0, .one (.row 0)), (1, .one (.int .i64 0)), (2, .one (.int .i64 l.length)), (3, .one (.fn 37 [.loc 20 0])), (8, .one (.int .i64 q.1))],
      fun q => [(0, .row 3 (.int .i64) (isort (dueLt js) (l.take q.1) ++ l.drop q.1)), (20, .cells 23 [.sl (.pair (.int .i64) (.int .i64)) js false])], fun q => l.length + 1 - q.1⟩ ⟨1, Nat.le_refl 1⟩ ?_ ?_
    · simp only [go_sem, Nat.reduceAdd, Nat.reduceMul, Nat.reduceSub, Nat.reduceEqDiff, Nat.reduceLT, Nat.reduceLeDiff, Nat.reduceShiftRight, Nat.reduceMod, Nat.reduceBEq, reduceCtorEq, reduceIte, reduceDIte, Int.reduceNeg]
      refine ⟨?_, rfl⟩
      cases l with
      | nil => rfl
      | cons x l => rfl
    · rintro ⟨i, hi⟩
      (simp only [go_sem, Nat.reduceAdd, Nat.reduceMul, Nat.reduceSub, Nat.reduceEqDiff, Nat.reduceLT, Nat.reduceLeDiff, Nat.reduceShiftRight, Nat.reduceMod, Nat.reduceBEq, reduceCtorEq, reduceIte, reduceDIte, Int.reduceNeg, con45, con37, hT, hG, hk, hK, Try.results45]); (try simp (disch := decide +kernel) only [drawn, true_and, and_true])
      refine ⟨fun hlt => ?_, fun hge => ?_⟩
      · have hi' : i < l.length := by omega
        have hP := isort_len (dueLt js) (l.take i)
        have hPm := isort_perm (dueLt js) (l.take i)
        have hPs := isort_sorted js (l.take i)
        have hsn : isort (dueLt js) (l.take (i + 1)) = insV (dueLt js) l[i] (isort (dueLt js) (l.take i)) := by rw [List.take_succ_eq_append_getElem hi', isort_snoc]
        generalize hPe : isort (dueLt js) (l.take i) = P at hP hPm hPs hsn ⊢
        have hPl : P.length = i := by rw [hP, List.length_take]; omega
        refine evk_loop ⟨{ j : Nat // j ≤ i ∧ ∀ y ∈ P.drop j, dueLt js l[i] y = true }, 2000,
          fun q => [(0, .one (.row 0)), (1, .one (.int .i64 0)), (2, .one (.int .i64 l.length)), (3, .one (.fn 37 [.loc 20 0])), (8, .one (.int .i64 i)), (9, .one (.int .i64 q.1))],
          fun q => [(0, .row 3 (.int .i64) (P.take q.1 ++ l[i] :: (P.drop q.1 ++ l.drop (i + 1)))), (20, .cells 23 [.sl (.pair (.int .i64) (.int .i64)) js false])], fun q => q.1⟩ ⟨i, Nat.le_refl i, by intro y hy; rw [List.drop_of_length_le (by omega)] at hy; cases hy⟩ ?_ ?_
        · simp only [go_sem, Nat.reduceAdd, Nat.reduceMul, Nat.reduceSub, Nat.reduceEqDiff, Nat.reduceLT, Nat.reduceLeDiff, Nat.reduceShiftRight, Nat.reduceMod, Nat.reduceBEq, reduceCtorEq, reduceIte, reduceDIte, Int.reduceNeg]
          rw [List.take_of_length_le (by omega), List.drop_of_length_le (by omega : P.length ≤ i), List.nil_append, ← List.drop_eq_getElem_cons hi']
        · rintro ⟨j, hj, hgt⟩
          (simp only [go_sem, Nat.reduceAdd, Nat.reduceMul, Nat.reduceSub, Nat.reduceEqDiff, Nat.reduceLT, Nat.reduceLeDiff, Nat.reduceShiftRight, Nat.reduceMod, Nat.reduceBEq, reduceCtorEq, reduceIte, reduceDIte, Int.reduceNeg, con45, con37, hT, hG, hk, hK, Try.results45]); (try simp (disch := decide +kernel) only [drawn, true_and, and_true])
          have hj' : j ≤ i := hj
          have hML : (P.take j ++ l[i] :: (P.drop j ++ l.drop (i + 1))).length = l.length := by simp; omega
          have hswap := fun h => mid_swap P (l.drop (i + 1)) l[i] j h
          have hg1 := mid_at P (l.drop (i + 1)) l[i] j (by omega)
          have hg2 := fun h => mid_before P (l.drop (i + 1)) l[i] j h
          have hins := insV_mid js l[i] P j (by omega) hPs hgt
          have hx4 := h4 _ (List.getElem_mem hi')
          generalize hM : P.take j ++ l[i] :: (P.drop j ++ l.drop (i + 1)) = M at hML hswap hg1 hg2 ⊢
          simp only [List.length_set]
          by_cases hj0 : 0 < j
          · have hg2' := hg2 ⟨hj0, by omega⟩
            have hsw := hswap ⟨hj0, by omega⟩
            have hp4 : 0 ≤ P[j - 1]'(by omega) ∧ P[j - 1]'(by omega) < js.length := h4 _ (List.mem_of_mem_take (hPm.mem_iff.1 (List.getElem_mem _)))
            rw [hg1, hg2', hsw]
            have hdr : P.drop (j - 1) = P[j - 1]'(by omega) :: P.drop j := by
              have := List.drop_eq_getElem_cons (show j - 1 < P.length by omega)
              rwa [show j - 1 + 1 = j by omega] at this
            generalize hpe : P[j - 1]'(by omega) = p at hp4 hdr ⊢
            refine ⟨fun _ => by omega, fun _ => ⟨fun _ => by omega, fun _ => ⟨fun _ => by omega, fun _ => by omega, fun _ => ⟨fun _ => by omega, fun _ => ⟨fun _ => ⟨hx4.1, hx4.2, hp4.1, hp4.2⟩, fun _ => ⟨fun hc => ?_, fun hc => ?_⟩⟩⟩⟩⟩⟩
            · have hlt2 : dueLt js l[i] p = true := by
                simp only [Bool.and_eq_true, decide_eq_true_eq] at hc
                exact decide_eq_true ((cmpV_neg _ _).1 hc.2)
              refine ⟨by omega, by omega, by omega, fun _ => ⟨by omega, fun _ => ⟨by omega, fun _ => ⟨by omega, fun _ => ⟨by omega, fun _ => ⟨by omega, by omega, fun _ => ⟨by omega, by omega, fin_lp ⟨j - 1, by omega, ?_⟩ ?_ ?_⟩⟩⟩⟩⟩⟩⟩
              · intro y hy
                rw [hdr] at hy
                rcases List.mem_cons.1 hy with rfl | hy
                · exact hlt2
                · exact hgt y hy
              · simp only [go_sem, Nat.reduceAdd, Nat.reduceMul, Nat.reduceSub, Nat.reduceEqDiff, Nat.reduceLT, Nat.reduceLeDiff, Nat.reduceShiftRight, Nat.reduceMod, Nat.reduceBEq, reduceCtorEq, reduceIte, reduceDIte, Int.reduceNeg]
                omega
              · show j - 1 < j
                omega
            · have hnl : dueLt js l[i] p = false := by
                have : decide ((j : Int) > 0) = true := decide_eq_true (by omega)
                rw [this, Bool.true_and, decide_eq_false_iff_not] at hc
                exact decide_eq_false fun k => hc ((cmpV_neg _ _).2 k)
              have hins2 := hins (fun _ h => by rw [hpe]; exact hnl)
              refine ⟨by omega, fin_lp ⟨i + 1, by omega⟩ ?_ ?_⟩
              · simp only [go_sem, Nat.reduceAdd, Nat.reduceMul, Nat.reduceSub, Nat.reduceEqDiff, Nat.reduceLT, Nat.reduceLeDiff, Nat.reduceShiftRight, Nat.reduceMod, Nat.reduceBEq, reduceCtorEq, reduceIte, reduceDIte, Int.reduceNeg]
                refine ⟨?_, by omega⟩
                rw [hsn, hins2, ← hM]
                simp
              · show l.length + 1 - (i + 1) < l.length + 1 - i
                omega
          · obtain rfl : j = 0 := by omega
            have hz : ¬ (((0 : Nat) : Int) > 0) := by omega
            have hins2 := hins (fun h => absurd h (by omega))
            refine ⟨fun h => absurd h hz, fun _ => ⟨fun h => absurd h hz, fun _ => ⟨fun h => absurd h hz, fun h => absurd h hz, fun _ => ⟨fun h => absurd h hz, fun _ => ⟨fun h => absurd h hz, fun _ => ⟨fun hc => ?_, fun hc => ⟨by omega, fin_lp ⟨i + 1, by omega⟩ ?_ ?_⟩⟩⟩⟩⟩⟩⟩
            · rw [decide_eq_false hz] at hc; cases hc
            · simp only [go_sem, Nat.reduceAdd, Nat.reduceMul, Nat.reduceSub, Nat.reduceEqDiff, Nat.reduceLT, Nat.reduceLeDiff, Nat.reduceShiftRight, Nat.reduceMod, Nat.reduceBEq, reduceCtorEq, reduceIte, reduceDIte, Int.reduceNeg]
              refine ⟨?_, by omega⟩
              rw [hsn, hins2, ← hM]
              simp
            · show l.length + 1 - (i + 1) < l.length + 1 - i
              omega
      · rw [List.take_of_length_le (by omega), List.drop_of_length_le (by omega), List.append_nil])
end Go.Proofs.Ytjghgckdndggoaa
