/- The contracts of the functions that the statements about the makeup reach: the stable sort of at most 19. -/
import Derived.Test.YtdeihcabmpcaoaaGreatRfRDToRF
set_option linter.unusedSimpArgs false
set_option linter.unusedVariables false
set_option maxRecDepth 100000
set_option maxHeartbeats 4000000
namespace Go.Proofs.YtdeihcabmpcaoaaGreat
open Go.Ev

/-- Insertion behind all that are not greater. -/
def insV (x : Dep) : List Dep → List Dep
 | [] => [x]
 | y :: l => if x.opens < y.opens then x :: y :: l else y :: insV x l
def isort (l : List Dep) : List Dep := l.foldl (fun acc x => insV x acc) []
theorem insV_perm (x : Dep) : ∀ l : List Dep, (insV x l).Perm (x :: l)
 | [] => List.Perm.refl _
 | y :: l => by
   unfold insV
   split
   · exact List.Perm.refl _
   · exact ((insV_perm x l).cons y).trans (List.Perm.swap x y l)
theorem foldl_perm : ∀ (l acc : List Dep), (l.foldl (fun acc x => insV x acc) acc).Perm (acc ++ l)
 | [], acc => by simp
 | x :: l, acc => by
   refine (foldl_perm l _).trans ?_
   refine ((insV_perm x acc).append_right l).trans ?_
   exact List.perm_middle.symm
theorem isort_perm (l : List Dep) : (isort l).Perm l := by
 have := foldl_perm l []
 rwa [List.nil_append] at this
theorem isort_len (l : List Dep) : (isort l).length = l.length := (isort_perm l).length_eq
theorem isort_snoc (l : List Dep) (x : Dep) : isort (l ++ [x]) = insV x (isort l) := by simp [isort]
theorem isort_sorted (l : List Dep) : (isort l).Pairwise (fun a b => a.opens ≤ b.opens) := by
 have key : ∀ (l acc : List Dep), acc.Pairwise (fun a b => a.opens ≤ b.opens) → (l.foldl (fun acc x => insV x acc) acc).Pairwise (fun a b => a.opens ≤ b.opens) := by
  intro l
  induction l with
  | nil => intro acc h; exact h
  | cons x l ih =>
    intro acc h
    refine ih _ ?_
    clear ih
    induction acc with
    | nil => simp [insV]
    | cons y acc ih =>
      obtain ⟨h1, h2⟩ := List.pairwise_cons.1 h
      have ih2 := ih h2
      show List.Pairwise _ (if x.opens < y.opens then x :: y :: acc else y :: insV x acc)
      split
      · rename_i hlt
        refine List.pairwise_cons.2 ⟨fun z hz => ?_, h⟩
        rcases List.mem_cons.1 hz with rfl | hz
        · omega
        · have := h1 z hz; omega
      · rename_i hlt
        refine List.pairwise_cons.2 ⟨fun z hz => ?_, ih2⟩
        rcases List.mem_cons.1 ((insV_perm _ _).mem_iff.1 hz) with rfl | hz
        · omega
        · exact h1 z hz
 exact key l [] List.Pairwise.nil
theorem mid_at {α : Type} (z : α) (P R : List α) (x : α) (j : Nat) (h : j ≤ P.length) : (P.take j ++ x :: (P.drop j ++ R)).getD (j : Int).toNat z = x := by
 have e : (P.take j).length = j := by rw [List.length_take]; omega
 simp [List.getElem?_append, e]
theorem mid_before {α : Type} (z : α) (P R : List α) (x : α) (j : Nat) (h : 0 < j ∧ j ≤ P.length) : (P.take j ++ x :: (P.drop j ++ R)).getD ((j : Int) - 1).toNat z = P[j - 1] := by
 have e : (P.take j).length = j := by rw [List.length_take]; omega
 have e2 : ((j : Int) - 1).toNat = j - 1 := by omega
 rw [e2]
 simp [List.getElem?_append, e, show j - 1 < j by omega, show j - 1 < P.length by omega]
theorem set_two {α : Type} (A : List α) (p x : α) (B : List α) : ((A ++ p :: x :: B).set (A.length + 1) p).set A.length x = A ++ x :: p :: B := by
 induction A with
 | nil => rfl
 | cons a A ih =>
   show a :: (((A ++ p :: x :: B).set (A.length + 1) p).set A.length x) = a :: (A ++ x :: p :: B)
   rw [ih]
theorem mid_swap {α : Type} (P R : List α) (x : α) (j : Nat) (h : 0 < j ∧ j ≤ P.length) : ((P.take j ++ x :: (P.drop j ++ R)).set (j : Int).toNat P[j - 1]).set ((j : Int) - 1).toNat x = P.take (j - 1) ++ x :: (P.drop (j - 1) ++ R) := by
 obtain ⟨h1, h2⟩ := h
 obtain ⟨k, rfl⟩ : ∃ k, j = k + 1 := ⟨j - 1, by omega⟩
 have hk : k < P.length := by omega
 have e2 : (((k + 1 : Nat) : Int) - 1).toNat = k := by omega
 have e3 : ((k + 1 : Nat) : Int).toNat = k + 1 := by omega
 rw [e2, e3]
 have e : (P.take k).length = k := by rw [List.length_take]; omega
 have ed : P.drop k = P[k] :: P.drop (k + 1) := List.drop_eq_getElem_cons hk
 have et : P.take (k + 1) = P.take k ++ [P[k]] := List.take_succ_eq_append_getElem hk
 show ((P.take (k + 1) ++ x :: (P.drop (k + 1) ++ R)).set (k + 1) P[k]).set k x = P.take k ++ x :: (P.drop k ++ R)
 rw [ed, et, List.append_assoc]
 have := set_two (P.take k) P[k] x (P.drop (k + 1) ++ R)
 rw [e] at this
 exact this
theorem insV_mid (x : Dep) : ∀ (P : List Dep) (j : Nat), j ≤ P.length → P.Pairwise (fun a b => a.opens ≤ b.opens) → (∀ y ∈ P.drop j, x.opens < y.opens) → (0 < j → ∀ h : j - 1 < P.length, ¬ x.opens < (P[j - 1]).opens) → insV x P = P.take j ++ x :: P.drop j
 | [], j, _, _, _, _ => by simp [insV]
 | y :: P, 0, _, _, h, _ => by
   unfold insV
   rw [if_pos (h y (by simp))]
   rfl
 | y :: P, j + 1, hjl, hs, h, hj => by
   obtain ⟨h1, h2⟩ := List.pairwise_cons.1 hs
   have hy : ¬ x.opens < y.opens := by
    have hl : j < (y :: P).length := hjl
    have := hj (by omega) hl
    cases j with
    | zero => exact this
    | succ j =>
      have hjP : j < P.length := by simpa using hl
      have h3 : ¬ x.opens < (P[j]).opens := this
      have hm := h1 P[j] (List.getElem_mem hjP)
      omega
   unfold insV
   rw [if_neg hy, insV_mid x P j (by simpa using hjl) h2 h (fun hj0 hl => by
    obtain ⟨k, rfl⟩ : ∃ k, j = k + 1 := ⟨j - 1, by omega⟩
    exact hj (by omega) hjl)]
   rfl
def inTime (d : Dep) : Prop := 0 ≤ d.opens ∧ d.opens ≤ 1048576
def con27 : Con := { ps := [.d true yDP, .d true yDP], rs := [.d false (.int .i64)], pre := fun (x : Dep × Dep × Unit) => inTime x.1 ∧ inTime x.2.1, out := fun (x : Dep × Dep × Unit) => (x.1.opens - x.2.1.opens, ()), nw := id }
theorem c27 : CtrOk Tryz.prog 27 con27.ctr :=
 con_sound (G := ⟨[], [], [], [], []⟩) tab_ok EnvOk.nil rfl Tryz.func27 rfl con27 31 (by kernel_rfl) (by decide) (by decide) rfl (by decide) rfl (by
  rintro ⟨(a : Dep), (b : Dep), _⟩ hpre hwf X hT hG hk hK
  obtain ⟨⟨h1, h2⟩, h3, h4⟩ : inTime a ∧ inTime b := hpre
  obtain ⟨a0, a1, (a2 : Int), (a3 : Int), (a4 : Int), (a5 : Int), (a6 : Int)⟩ := a
  obtain ⟨b0, b1, (b2 : Int), (b3 : Int), (b4 : Int), (b5 : Int), (b6 : Int)⟩ := b
  simp only [Dep.opens] at h1 h2 h3 h4
  (simp -implicitDefEqProofs (maxSteps := 4000000) only [go_sem, Bool.not_eq_true', Bool.not_eq_false', Bool.or_eq_true, Bool.or_eq_false_iff, Bool.and_eq_true, Bool.and_eq_false_iff, decide_eq_true_eq, decide_eq_false_iff_not, Classical.not_not, not_or, maxLen, con27, hT, hG, hk, hK, Tryz.results27] at hwf ⊢); (try simp (disch := decide +kernel) only [drawn, true_and, and_true])
  (repeat' (with_reducible (first | refine And.intro ?_ ?_ | intro _))) <;> (try (first | with_reducible (first | done | assumption | omega | contradiction) | decide))
  rfl)
def con73 : Con := { ps := [.o 52 yDP, .d false (.int .i64), .d false (.int .i64), .cl 27 []], rs := [], pre := fun (x : List Dep × Int × Int × Unit × Unit) => x.2.1 = 0 ∧ x.2.2.1 = x.1.length ∧ x.1.length ≤ 1000 ∧ ∀ d ∈ x.1, inTime d, out := fun x => (), nw := fun x => (isort x.1, x.2) }
theorem c73 : CtrOk Tryz.prog 73 con73.ctr :=
 con_sound (G := ⟨[(27, con27.ctr)], [], [], [], []⟩) tab_ok (EnvOk.cons c27 has27 EnvOk.nil) rfl Tryz.func73 rfl con73 17179886351 (by kernel_rfl) (by decide) (by decide) rfl (by decide) rfl (by
  rintro ⟨(l : List Dep), (a : Int), (b : Int), _⟩ hpre hwf X hT hG hk hK
  obtain ⟨rfl, rfl, h3, h4⟩ : a = 0 ∧ b = l.length ∧ l.length ≤ 1000 ∧ ∀ k ∈ l, inTime k := hpre
  (simp -implicitDefEqProofs (maxSteps := 4000000) only [go_sem, Bool.not_eq_true', Bool.not_eq_false', Bool.or_eq_true, Bool.or_eq_false_iff, Bool.and_eq_true, Bool.and_eq_false_iff, decide_eq_true_eq, decide_eq_false_iff_not, Classical.not_not, not_or, maxLen, con73, con27, hT, hG, hk, hK, Tryz.results73] at hwf ⊢); (try simp (disch := decide +kernel) only [drawn, true_and, and_true])
  (repeat' (with_reducible (first | refine And.intro ?_ ?_ | intro _))) <;> (try (first | with_reducible (first | done | assumption | omega | contradiction) | decide))
  refine evk_loop ⟨{ i : Nat // 1 ≤ i }, 1000,
   fun q => [(0, .one (.row 0)), (1, .one (.int .i64 0)), (2, .one (.int .i64 l.length)), (3, .one (.fn 27 [])), (8, .one (.int .i64 q.1))],
   fun q => [(0, .row 52 yDP (isort (l.take q.1) ++ l.drop q.1))], fun q => l.length + 1 - q.1⟩ ⟨1, Nat.le_refl 1⟩ ?_ ?_
  · simp only [go_sem]
    refine ⟨?_, rfl⟩
    cases l with
    | nil => rfl
    | cons x l => rfl
  · rintro ⟨i, (hi : 1 ≤ i)⟩
    (simp -implicitDefEqProofs (maxSteps := 4000000) only [go_sem, Bool.not_eq_true', Bool.not_eq_false', Bool.or_eq_true, Bool.or_eq_false_iff, Bool.and_eq_true, Bool.and_eq_false_iff, decide_eq_true_eq, decide_eq_false_iff_not, Classical.not_not, not_or, maxLen, con73, con27, hT, hG, hk, hK, Tryz.results73]); (try simp (disch := decide +kernel) only [drawn, true_and, and_true])
    refine ⟨fun hlt => ?_, fun hge => ?_⟩
    · have hi' : i < l.length := by omega
      have hP := isort_len (l.take i)
      have hPm := isort_perm (l.take i)
      have hPs := isort_sorted (l.take i)
      have hsn : isort (l.take (i + 1)) = insV l[i] (isort (l.take i)) := by rw [List.take_succ_eq_append_getElem hi', isort_snoc]
      generalize hPe : isort (l.take i) = P at hP hPm hPs hsn ⊢
      have hPl : P.length = i := by rw [hP, List.length_take]; omega
      refine evk_loop ⟨{ j : Nat // j ≤ i ∧ ∀ y ∈ P.drop j, l[i].opens < Dep.opens y }, 2000,
       fun q => [(0, .one (.row 0)), (1, .one (.int .i64 0)), (2, .one (.int .i64 l.length)), (3, .one (.fn 27 [])), (8, .one (.int .i64 i)), (9, .one (.int .i64 q.1))],
       fun q => [(0, .row 52 yDP (P.take q.1 ++ l[i] :: (P.drop q.1 ++ l.drop (i + 1))))], fun q => q.1⟩ ⟨i, Nat.le_refl i, by intro y hy; rw [List.drop_of_length_le (by omega)] at hy; cases hy⟩ ?_ ?_
      · simp only [go_sem]
        rw [List.take_of_length_le (by omega), List.drop_of_length_le (by omega : P.length ≤ i), List.nil_append, ← List.drop_eq_getElem_cons hi']
      · rintro ⟨j, (hj' : j ≤ i), (hgt : ∀ y ∈ P.drop j, l[i].opens < Dep.opens y)⟩
        (simp -implicitDefEqProofs (maxSteps := 4000000) only [go_sem, Bool.not_eq_true', Bool.not_eq_false', Bool.or_eq_true, Bool.or_eq_false_iff, Bool.and_eq_true, Bool.and_eq_false_iff, decide_eq_true_eq, decide_eq_false_iff_not, Classical.not_not, not_or, maxLen, con73, con27, hT, hG, hk, hK, Tryz.results73]); (try simp (disch := decide +kernel) only [drawn, true_and, and_true])
        have hML : (P.take j ++ l[i] :: (P.drop j ++ l.drop (i + 1))).length = l.length := by simp; omega
        have hswap := fun h => mid_swap P (l.drop (i + 1)) l[i] j h
        have hg1 := fun z => mid_at z P (l.drop (i + 1)) l[i] j (by omega)
        have hg2 := fun z h => mid_before z P (l.drop (i + 1)) l[i] j h
        have hins := insV_mid l[i] P j (by omega) hPs hgt
        have hx4 := h4 _ (List.getElem_mem hi')
        generalize hM : P.take j ++ l[i] :: (P.drop j ++ l.drop (i + 1)) = M at hML hswap hg1 hg2 ⊢
        simp only [List.length_set, hg1]
        by_cases hj0 : 0 < j
        · have hg2' := fun z => hg2 z ⟨hj0, by omega⟩
          have hsw := hswap ⟨hj0, by omega⟩
          have hp4 : inTime (P[j - 1]'(by omega)) := h4 _ (List.mem_of_mem_take (hPm.mem_iff.1 (List.getElem_mem _)))
          simp only [hg2', hsw]
          have hdr : P.drop (j - 1) = P[j - 1]'(by omega) :: P.drop j := by
           have := List.drop_eq_getElem_cons (show j - 1 < P.length by omega)
           rwa [show j - 1 + 1 = j by omega] at this
          generalize hpe : P[j - 1]'(by omega) = p at hp4 hdr ⊢
          have hd1 := hx4.1
          have hd2 := hx4.2
          have hd3 := hp4.1
          have hd4 := hp4.2
          (repeat' (with_reducible (first | refine And.intro ?_ ?_ | intro _))) <;> (try (first | with_reducible (first | done | assumption | omega | contradiction) | decide))
          · have hlt2 : l[i].opens < p.opens := by omega
            refine fin_lp ⟨j - 1, by omega, ?_⟩ ?_ ?_
            · intro y hy
              rw [hdr] at hy
              rcases List.mem_cons.1 hy with rfl | hy
              · exact hlt2
              · exact hgt y hy
            · simp only [go_sem]
              omega
            · dsimp only; omega
          · have hins2 := hins (fun _ h => by rw [hpe]; omega)
            refine fin_lp ⟨i + 1, by omega⟩ ?_ ?_
            · simp only [go_sem]
              refine ⟨?_, by omega⟩
              rw [hsn, hins2, ← hM]
              simp
            · dsimp only; omega
        · obtain rfl : j = 0 := by omega
          have hz : ¬ (((0 : Nat) : Int) > 0) := by omega
          have hins2 := hins (fun h => absurd h (by omega))
          (repeat' (with_reducible (first | refine And.intro ?_ ?_ | intro _))) <;> (try (first | with_reducible (first | done | assumption | omega | contradiction) | decide))
          refine fin_lp ⟨i + 1, by omega⟩ ?_ ?_
          · simp only [go_sem]
            refine ⟨?_, by omega⟩
            rw [hsn, hins2, ← hM]
            simp
          · dsimp only; omega
    · rw [List.take_of_length_le (by omega), List.drop_of_length_le (by omega), List.append_nil])
/-- A function that is not called. -/
structure NoC where
 ctr : Ctr
def con74 : NoC := ⟨fun _ _ _ => ⟨False, .one .undef, [], True⟩⟩
theorem c74 : CtrOk Tryz.prog 74 con74.ctr := by
 intro D gv hS cx hD σ N m w fr avs vs _ _ _ h
 exact h.elim
def con56 : Con := { ps := [.o 52 yDP, .d false (.int .i64), .cl 27 []], rs := [], pre := fun (x : List Dep × Int × Unit × Unit) => x.2.1 = x.1.length ∧ x.1.length ≤ 19 ∧ ∀ k ∈ x.1, inTime k, out := fun x => (), nw := fun x => (isort x.1, x.2) }
theorem c56 : CtrOk Tryz.prog 56 con56.ctr :=
 con_sound (G := ⟨[(73, con73.ctr), (74, con74.ctr)], [], [], [], []⟩) tab_ok (EnvOk.cons c73 has73 (EnvOk.cons c74 has74 EnvOk.nil)) rfl Tryz.func56 rfl con56 18014433942971335 (by kernel_rfl) (by decide) (by decide) rfl (by decide) rfl (by
  rintro ⟨(l : List Dep), (n : Int), _⟩ hpre hwf X hT hG hk hK
  obtain ⟨rfl, h3, h4⟩ : n = l.length ∧ l.length ≤ 19 ∧ ∀ k ∈ l, inTime k := hpre
  (simp -implicitDefEqProofs (maxSteps := 4000000) only [go_sem, Bool.not_eq_true', Bool.not_eq_false', Bool.or_eq_true, Bool.or_eq_false_iff, Bool.and_eq_true, Bool.and_eq_false_iff, decide_eq_true_eq, decide_eq_false_iff_not, Classical.not_not, not_or, maxLen, con56, con73, con74, hT, hG, hk, hK, Tryz.results56] at hwf ⊢); (try simp (disch := decide +kernel) only [drawn, true_and, and_true])
  refine evk_loop ⟨Unit, 1000,
   fun q => [(0, .one (.row 0)), (1, .one (.int .i64 l.length)), (2, .one (.fn 27 [])), (6, .one (.int .i64 20)), (7, .one (.int .i64 0)), (8, .one (.int .i64 20))],
   fun q => [(0, .row 52 yDP l)], fun q => 0⟩ () ?_ ?_
  · simp only [go_sem]
  · rintro ⟨⟩
    (simp -implicitDefEqProofs (maxSteps := 4000000) only [go_sem, Bool.not_eq_true', Bool.not_eq_false', Bool.or_eq_true, Bool.or_eq_false_iff, Bool.and_eq_true, Bool.and_eq_false_iff, decide_eq_true_eq, decide_eq_false_iff_not, Classical.not_not, not_or, maxLen, con56, con73, con74, hT, hG, hk, hK, Tryz.results56]); (try simp (disch := decide +kernel) only [drawn, true_and, and_true])
    refine ⟨fun h => absurd h (by omega), fun _ => ⟨⟨by omega, h4⟩, ?_⟩⟩
    refine evk_loop ⟨Unit, 2000,
     fun q => [(0, .one (.row 0)), (1, .one (.int .i64 l.length)), (2, .one (.fn 27 [])), (6, .one (.int .i64 20)), (7, .one (.int .i64 0)), (8, .one (.int .i64 20))],
     fun q => [(0, .row 52 yDP (isort l))], fun q => 0⟩ () ?_ ?_
    · simp only [go_sem]
    · rintro ⟨⟩
      (simp -implicitDefEqProofs (maxSteps := 4000000) only [go_sem, Bool.not_eq_true', Bool.not_eq_false', Bool.or_eq_true, Bool.or_eq_false_iff, Bool.and_eq_true, Bool.and_eq_false_iff, decide_eq_true_eq, decide_eq_false_iff_not, Classical.not_not, not_or, maxLen, con56, con73, con74, hT, hG, hk, hK, Tryz.results56]); (try simp (disch := decide +kernel) only [drawn, true_and, and_true])
      exact fun h => absurd h (by omega))
def con26 : Con := { ps := [.o 52 yDP, .cl 27 []], rs := [], pre := fun (x : List Dep × Unit × Unit) => x.1.length ≤ 19 ∧ ∀ k ∈ x.1, inTime k, out := fun x => (), nw := fun x => (isort x.1, x.2) }
theorem c26 : CtrOk Tryz.prog 26 con26.ctr :=
 con_sound (G := ⟨[(56, con56.ctr)], [], [], [], []⟩) tab_ok (EnvOk.cons c56 has56 EnvOk.nil) rfl Tryz.func26 rfl con26 3 (by kernel_rfl) (by decide) (by decide) rfl (by decide) rfl (by
  rintro ⟨(l : List Dep), _⟩ hpre hwf X hT hG hk hK
  obtain ⟨h3, h4⟩ : l.length ≤ 19 ∧ ∀ k ∈ l, inTime k := hpre
  (simp -implicitDefEqProofs (maxSteps := 4000000) only [go_sem, Bool.not_eq_true', Bool.not_eq_false', Bool.or_eq_true, Bool.or_eq_false_iff, Bool.and_eq_true, Bool.and_eq_false_iff, decide_eq_true_eq, decide_eq_false_iff_not, Classical.not_not, not_or, maxLen, con26, con56, hT, hG, hk, hK, Tryz.results26] at hwf ⊢); (try simp (disch := decide +kernel) only [drawn, true_and, and_true])
  (repeat' (with_reducible (first | refine And.intro ?_ ?_ | intro _))) <;> (try (first | with_reducible (first | done | assumption | omega | contradiction) | decide))
  all_goals exact h4 _ (by assumption))
end Go.Proofs.YtdeihcabmpcaoaaGreat
