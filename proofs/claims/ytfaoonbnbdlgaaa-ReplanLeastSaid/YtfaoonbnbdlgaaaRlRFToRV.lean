/- The contracts of the functions that the statements about the makeup reach: schedules out of numbers. -/
import Derived.Test.YtfaoonbnbdlgaaaRlRAToRE
import Derived.Test.YtfaoonbnbdlgaaaEvSortToSortF
set_option linter.unusedSimpArgs false
set_option linter.unusedVariables false
set_option maxRecDepth 100000
set_option maxHeartbeats 4000000
namespace Go.Proofs.Ytfaoonbnbdlgaaa
open Go.Ev

def ascI : List Int → Bool
 | a :: b :: l => decide (a < b) && ascI (b :: l)
 | _ => true
def argsV (l : List Dep) (cs : List Int) : Int :=
 if validateV l ≠ 0 then validateV l else if ((planV l).length : Int) > 16 ∨ (cs.length : Int) > 6 then 2 else if cs.all (fun c => decide (0 ≤ c)) = false then 1 else if ascI cs = false then 9 else 0
def strs3 : List ByteArray := [⟨#[66, 65]⟩, ⟨#[76, 72]⟩, ⟨#[83, 75]⟩]
def fltsV (n : Int) : Flt := (strs3.getD (goMod n 27 / 9).toNat ByteArray.empty, 1 + goMod n 27 / 3 % 3, ByteArray.empty, 1 + goMod n 27 % 3)
def con21 : Con := { ps := [.d false (.int .i64)], rs := [.d true yFL], pre := fun _ => True, out := fun x => (fltsV x.1, ()), nw := id }
theorem c21 : CtrOk Try.prog 21 con21.ctr :=
 con_sound (G := ⟨[(24, con24.ctr)], [], [], [], []⟩) tab_ok (EnvOk.cons c24 has24 EnvOk.nil) rfl Try.func21 rfl con21 5 (by kernel_rfl) (by decide) (by decide) rfl (by decide) rfl (by
  rintro ⟨(n : Int), _⟩ hpre hwf X hT hG hk hK
  (simp -implicitDefEqProofs (maxSteps := 4000000) only [go_sem, Bool.not_eq_true', Bool.not_eq_false', Bool.or_eq_true, Bool.or_eq_false_iff, Bool.and_eq_true, Bool.and_eq_false_iff, decide_eq_true_eq, decide_eq_false_iff_not, Classical.not_not, not_or, maxLen, con21, con24, hT, hG, hk, hK, Try.results21] at hwf ⊢); (try simp (disch := decide +kernel) only [drawn, true_and, and_true])
  have hb := goMod_bd n 27 (by omega)
  have e : fltsV n = (strs3.getD (goMod n 27 / 9).toNat ByteArray.empty, 1 + goMod n 27 / 3 % 3, ByteArray.empty, 1 + goMod n 27 % 3) := rfl
  rw [e]
  generalize goMod n 27 = k at hb ⊢
  have e1 : k.tdiv 9 = k / 9 := Int.tdiv_eq_ediv_of_nonneg hb.1
  have e2 : k.tdiv 3 = k / 3 := Int.tdiv_eq_ediv_of_nonneg hb.1
  have e3 : k.tmod 3 = k % 3 := Int.tmod_eq_emod_of_nonneg hb.1
  have e4 : (k / 3).tmod 3 = k / 3 % 3 := Int.tmod_eq_emod_of_nonneg (by omega)
  simp only [e1, e2, e3, e4]
  (repeat' (with_reducible (first | refine And.intro ?_ ?_ | intro _))) <;> (try (first | with_reducible (first | done | assumption | omega | contradiction) | decide))
  all_goals rfl)
def con48 : Con := { ps := [.p 54 ySR, .d false (.sl .str)], rs := [.d false .str], pre := fun (x : Src × List ByteArray × Unit) => 0 ≤ x.1.2 ∧ 0 < x.2.1.length, out := fun (x : Src × List ByteArray × Unit) => (x.2.1.getD (goMod x.1.raw x.2.1.length).toNat ByteArray.empty, ()), nw := fun x => (Src.step x.1, x.2) }
theorem c48 : CtrOk Try.prog 48 con48.ctr :=
 con_sound (G := ⟨[(10, con10.ctr)], [], [], [], []⟩) tab_ok (EnvOk.cons c10 has10 EnvOk.nil) rfl Try.func48 rfl con48 19 (by kernel_rfl) (by decide) (by decide) rfl (by decide) rfl (by
  rintro ⟨⟨(l : List Int), (a : Int)⟩, (s : List ByteArray), _⟩ hpre hwf X hT hG hk hK
  obtain ⟨h1, h2⟩ : 0 ≤ a ∧ 0 < s.length := hpre
  (simp -implicitDefEqProofs (maxSteps := 4000000) only [go_sem, Bool.not_eq_true', Bool.not_eq_false', Bool.or_eq_true, Bool.or_eq_false_iff, Bool.and_eq_true, Bool.and_eq_false_iff, decide_eq_true_eq, decide_eq_false_iff_not, Classical.not_not, not_or, maxLen, con48, con10, hT, hG, hk, hK, Try.results48] at hwf ⊢); (try simp (disch := decide +kernel) only [drawn, true_and, and_true])
  have := goMod_bd (Src.raw (l, a)) s.length (by omega)
  (repeat' (with_reducible (first | refine And.intro ?_ ?_ | intro _))) <;> (try (first | with_reducible (first | done | assumption | omega | contradiction) | decide)))
def ports : List ByteArray := [⟨#[67, 80, 72]⟩, ⟨#[76, 72, 82]⟩, ⟨#[70, 82, 65]⟩, ⟨#[79, 83, 76]⟩, ⟨#[65, 82, 78]⟩]
def con22 : Con := { ps := [.p 54 ySR], rs := [.d false .str], pre := fun (x : Src × Unit) => 0 ≤ x.1.2, out := fun (x : Src × Unit) => (ports.getD (goMod x.1.raw 5).toNat ByteArray.empty, ()), nw := fun x => (Src.step x.1, x.2) }
theorem c22 : CtrOk Try.prog 22 con22.ctr :=
 con_sound (G := ⟨[(48, con48.ctr)], [], [], [], []⟩) tab_ok (EnvOk.cons c48 has48 EnvOk.nil) rfl Try.func22 rfl con22 5 (by kernel_rfl) (by decide) (by decide) rfl (by decide) rfl (by
  rintro ⟨⟨(l : List Int), (a : Int)⟩, _⟩ hpre hwf X hT hG hk hK
  have h1 : 0 ≤ a := hpre
  (simp -implicitDefEqProofs (maxSteps := 4000000) only [go_sem, Bool.not_eq_true', Bool.not_eq_false', Bool.or_eq_true, Bool.or_eq_false_iff, Bool.and_eq_true, Bool.and_eq_false_iff, decide_eq_true_eq, decide_eq_false_iff_not, Classical.not_not, not_or, maxLen, con22, con48, hT, hG, hk, hK, Try.results22] at hwf ⊢); (try simp (disch := decide +kernel) only [drawn, true_and, and_true])
  (repeat' (with_reducible (first | refine And.intro ?_ ?_ | intro _))) <;> (try (first | with_reducible (first | done | assumption | omega | contradiction) | decide))
  all_goals rfl)
def depV (k : Int) (s : Src) : Dep :=
 (fltsV k, ports.getD (goMod s.raw 5).toNat ByteArray.empty, goMod s.step.raw 40, goMod s.step.raw 40 + 1 + goMod s.step.step.step.raw 20, goMod s.step.raw 40 + 1 + goMod s.step.step.step.raw 20 + goMod s.step.step.step.step.raw 10, goMod s.step.step.raw 100, ([0, 0, 0, 0, 1, 2] : List Int).getD (goMod s.step.step.step.step.step.raw 6).toNat 0)
def dep6 (s : Src) : Src := s.step.step.step.step.step.step
def schedL : Nat → Src → Int → List Dep × Src
 | 0, s, _ => ([], s)
 | n + 1, s, k => if k < 27 then (if k + goMod s.raw 3 ≥ 27 then ([], s.step) else (depV (k + goMod s.raw 3) s.step :: (schedL n (dep6 s.step) (k + goMod s.raw 3 + 1)).1, (schedL n (dep6 s.step) (k + goMod s.raw 3 + 1)).2)) else ([], s)
def schedV (s : Src) (most : Int) : List Dep × Src := schedL (goMod s.raw (most + 1)).toNat s.step 0
def con7 : Con := { ps := [.p 54 ySR, .d false (.int .i64)], rs := [.d false (.sl yDP)], pre := fun (x : Src × Int × Unit) => 0 ≤ x.1.2 ∧ 0 ≤ x.2.1 ∧ x.2.1 ≤ 1000, out := fun (x : Src × Int × Unit) => ((schedV x.1 x.2.1).1, ()), nw := fun x => ((schedV x.1 x.2.1).2, x.2) }
theorem c7 : CtrOk Try.prog 7 con7.ctr :=
 con_sound (G := ⟨[(10, con10.ctr), (21, con21.ctr), (22, con22.ctr)], [], [], [], []⟩) tab_ok (EnvOk.cons c10 has10 (EnvOk.cons c21 has21 (EnvOk.cons c22 has22 EnvOk.nil))) rfl Try.func7 rfl con7 269485043 (by kernel_rfl) (by decide) (by decide) rfl (by decide) rfl (by
  rintro ⟨⟨(sl : List Int), (sa : Int)⟩, (most : Int), _⟩ hpre hwf X hT hG hk hK
  obtain ⟨h1, h2, h3⟩ : 0 ≤ sa ∧ 0 ≤ most ∧ most ≤ 1000 := hpre
  (simp -implicitDefEqProofs (maxSteps := 4000000) only [go_sem, Bool.not_eq_true', Bool.not_eq_false', Bool.or_eq_true, Bool.or_eq_false_iff, Bool.and_eq_true, Bool.and_eq_false_iff, decide_eq_true_eq, decide_eq_false_iff_not, Classical.not_not, not_or, maxLen, con7, con10, con21, con22, hT, hG, hk, hK, Try.results7] at hwf ⊢); (try simp (disch := decide +kernel) only [drawn, true_and, and_true])
  have hn0 := goMod_bd (Src.raw (sl, sa)) (most + 1) (by omega)
  have hs := Src.step_pos (sl, sa) h1
  have hv : schedV (sl, sa) most = schedL (goMod (Src.raw (sl, sa)) (most + 1)).toNat (Src.step (sl, sa)) 0 := rfl
  generalize goMod (Src.raw (sl, sa)) (most + 1) = n0 at hn0 hv ⊢
  generalize Src.step (sl, sa) = s1 at hs hv ⊢
  (repeat' (with_reducible (first | refine And.intro ?_ ?_ | intro _))) <;> (try (first | with_reducible (first | done | assumption | omega | contradiction) | decide))
  refine evk_loop ⟨{ q : Src × Int × Nat × List Dep // 0 ≤ q.1.2 ∧ 0 ≤ q.2.1 ∧ q.2.1 ≤ 27 ∧ q.2.2.1 ≤ n0.toNat ∧ q.2.2.2.length ≤ q.2.2.1 ∧ schedL n0.toNat s1 0 = (q.2.2.2 ++ (schedL (n0.toNat - q.2.2.1) q.1 q.2.1).1, (schedL (n0.toNat - q.2.2.1) q.1 q.2.1).2) }, 1000,
   fun q => [(0, .one (.loc 0 0)), (5, .one (.int .i64 n0)), (6, .one (.row 64)), (7, .one (.int .i64 q.1.2.1)), (8, .one (.int .i64 q.1.2.2.1))],
   fun q => [(0, .cells 54 [.sl (.int .i64) q.1.1.1 false, .int .i64 q.1.1.2]), (64, .row 42 yDP q.1.2.2.2)], fun q => n0.toNat - q.1.2.2.1⟩
   ⟨(s1, 0, 0, []), hs, by simp, by simp, by simp, by simp, by simp⟩ ?_ ?_
  · simp only [go_sem]
    rfl
  · rintro ⟨⟨⟨ql, qa⟩, k, i, out⟩, (c1 : 0 ≤ qa), (c2 : 0 ≤ k), (c3 : k ≤ 27), (c4 : i ≤ n0.toNat), (c5 : out.length ≤ i), (c6 : schedL n0.toNat s1 0 = (out ++ (schedL (n0.toNat - i) (ql, qa) k).1, (schedL (n0.toNat - i) (ql, qa) k).2))⟩
    (simp -implicitDefEqProofs (maxSteps := 4000000) only [go_sem, Bool.not_eq_true', Bool.not_eq_false', Bool.or_eq_true, Bool.or_eq_false_iff, Bool.and_eq_true, Bool.and_eq_false_iff, decide_eq_true_eq, decide_eq_false_iff_not, Classical.not_not, not_or, maxLen, con7, con10, con21, con22, hT, hG, hk, hK, Try.results7]); (try simp (disch := decide +kernel) only [drawn, true_and, and_true])
    have b3 := goMod_bd (Src.raw (ql, qa)) 3 (by omega)
    have p1 := Src.step_pos (ql, qa) c1
    have p2 := Src.step_pos _ p1
    have p3 := Src.step_pos _ p2
    have p4 := Src.step_pos _ p3
    have p5 := Src.step_pos _ p4
    have p6 := Src.step_pos _ p5
    have p7 := Src.step_pos _ p6
    refine ⟨fun hc => ?_, fun hc => ?_⟩
    · have hm : n0.toNat - i = (n0.toNat - (i + 1)) + 1 := by omega
      rw [hm, schedL, if_pos hc.2] at c6
      have q40 := goMod_bd (Src.raw (Src.step (Src.step (ql, qa)))) 40 (by omega)
      have q100 := goMod_bd (Src.raw (Src.step (Src.step (Src.step (ql, qa))))) 100 (by omega)
      have q20 := goMod_bd (Src.raw (Src.step (Src.step (Src.step (Src.step (ql, qa)))))) 20 (by omega)
      have q10 := goMod_bd (Src.raw (Src.step (Src.step (Src.step (Src.step (Src.step (ql, qa))))))) 10 (by omega)
      have q6 := goMod_bd (Src.raw (Src.step (Src.step (Src.step (Src.step (Src.step (Src.step (ql, qa)))))))) 6 (by omega)
      have e := @depV.eq_1 (k + goMod (Src.raw (ql, qa)) 3) (Src.step (ql, qa))
      have e7 : dep6 (Src.step (ql, qa)) = Src.step (Src.step (Src.step (Src.step (Src.step (Src.step (Src.step (ql, qa))))))) := rfl
      (repeat' (with_reducible (first | refine And.intro ?_ ?_ | intro _))) <;> (try (first | with_reducible (first | done | assumption | omega | contradiction) | decide))
      · rename_i h
        rw [if_pos h] at c6
        rw [hv, c6]
      · rename_i h
        rw [if_pos h] at c6
        rw [hv, c6]
      · rename_i h
        rw [if_pos h] at c6
        rw [hv, c6]; simp
      · have h : ¬ k + goMod (Src.raw (ql, qa)) 3 ≥ 27 := by assumption
        rw [if_neg h] at c6
        rw [e7] at c6
        refine fin_lp ⟨(Src.step (Src.step (Src.step (Src.step (Src.step (Src.step (Src.step (ql, qa))))))), k + goMod (Src.raw (ql, qa)) 3 + 1, i + 1, out ++ [depV (k + goMod (Src.raw (ql, qa)) 3) (Src.step (ql, qa))]), p7, by dsimp only; omega, by dsimp only; omega, by dsimp only; omega, by rw [List.length_append]; simp only [List.length_singleton]; omega, by dsimp only; rw [c6]; simp⟩ (by simp only [go_sem]; first | rfl | ((repeat' apply And.intro) <;> first | rfl | assumption | omega)) (by dsimp only; omega)
    · have hx : schedL (n0.toNat - i) (ql, qa) k = ([], (ql, qa)) := by
       cases hq : n0.toNat - i with
       | zero => rfl
       | succ m => rw [schedL, if_neg (by omega)]
      rw [hx] at c6
      rw [hv, c6]
      exact ⟨rfl, rfl, by simp⟩)
def day1 (i : Nat) (t : Int) : Dep := (fltsV i, ⟨#[67, 80, 72]⟩, t, t + 10, t + 12, 0, 0)
end Go.Proofs.Ytfaoonbnbdlgaaa

/- The contracts of the functions that the statements about the makeup reach: the stable sort of at most 19. -/
set_option linter.unusedSimpArgs false
set_option linter.unusedVariables false
set_option maxRecDepth 100000
set_option maxHeartbeats 4000000
namespace Go.Proofs.Ytfaoonbnbdlgaaa
open Go.Ev

/-- Insertion behind all that are not greater. -/
def insV (x : Dep) : List Dep → List Dep
 | [] => [x]
 | y :: l => if x.opens < y.opens then x :: y :: l else y :: insV x l
def isort (l : List Dep) : List Dep := l.foldl (fun acc x => insV x acc) []
theorem insV_perm (x : Dep) : ∀ l : List Dep, (insV x l).Perm (x :: l)
 | [] => List.Perm.refl _
 | y :: l => by
   unfold insV
   split
   · exact List.Perm.refl _
   · exact ((insV_perm x l).cons y).trans (List.Perm.swap x y l)
theorem foldl_perm : ∀ (l acc : List Dep), (l.foldl (fun acc x => insV x acc) acc).Perm (acc ++ l)
 | [], acc => by simp
 | x :: l, acc => by
   refine (foldl_perm l _).trans ?_
   refine ((insV_perm x acc).append_right l).trans ?_
   exact List.perm_middle.symm
theorem isort_perm (l : List Dep) : (isort l).Perm l := by
 have := foldl_perm l []
 rwa [List.nil_append] at this
theorem isort_len (l : List Dep) : (isort l).length = l.length := (isort_perm l).length_eq
theorem isort_snoc (l : List Dep) (x : Dep) : isort (l ++ [x]) = insV x (isort l) := by simp [isort]
theorem isort_sorted (l : List Dep) : (isort l).Pairwise (fun a b => a.opens ≤ b.opens) := by
 have key : ∀ (l acc : List Dep), acc.Pairwise (fun a b => a.opens ≤ b.opens) → (l.foldl (fun acc x => insV x acc) acc).Pairwise (fun a b => a.opens ≤ b.opens) := by
  intro l
  induction l with
  | nil => intro acc h; exact h
  | cons x l ih =>
    intro acc h
    refine ih _ ?_
    clear ih
    induction acc with
    | nil => simp [insV]
    | cons y acc ih =>
      obtain ⟨h1, h2⟩ := List.pairwise_cons.1 h
      have ih2 := ih h2
      show List.Pairwise _ (if x.opens < y.opens then x :: y :: acc else y :: insV x acc)
      split
      · rename_i hlt
        refine List.pairwise_cons.2 ⟨fun z hz => ?_, h⟩
        rcases List.mem_cons.1 hz with rfl | hz
        · omega
        · have := h1 z hz; omega
      · rename_i hlt
        refine List.pairwise_cons.2 ⟨fun z hz => ?_, ih2⟩
        rcases List.mem_cons.1 ((insV_perm _ _).mem_iff.1 hz) with rfl | hz
        · omega
        · exact h1 z hz
 exact key l [] List.Pairwise.nil
theorem mid_at {α : Type} (z : α) (P R : List α) (x : α) (j : Nat) (h : j ≤ P.length) : (P.take j ++ x :: (P.drop j ++ R)).getD (j : Int).toNat z = x := by
 have e : (P.take j).length = j := by rw [List.length_take]; omega
 simp [List.getElem?_append, e]
theorem mid_before {α : Type} (z : α) (P R : List α) (x : α) (j : Nat) (h : 0 < j ∧ j ≤ P.length) : (P.take j ++ x :: (P.drop j ++ R)).getD ((j : Int) - 1).toNat z = P[j - 1] := by
 have e : (P.take j).length = j := by rw [List.length_take]; omega
 have e2 : ((j : Int) - 1).toNat = j - 1 := by omega
 rw [e2]
 simp [List.getElem?_append, e, show j - 1 < j by omega, show j - 1 < P.length by omega]
theorem set_two {α : Type} (A : List α) (p x : α) (B : List α) : ((A ++ p :: x :: B).set (A.length + 1) p).set A.length x = A ++ x :: p :: B := by
 induction A with
 | nil => rfl
 | cons a A ih =>
   show a :: (((A ++ p :: x :: B).set (A.length + 1) p).set A.length x) = a :: (A ++ x :: p :: B)
   rw [ih]
theorem mid_swap {α : Type} (P R : List α) (x : α) (j : Nat) (h : 0 < j ∧ j ≤ P.length) : ((P.take j ++ x :: (P.drop j ++ R)).set (j : Int).toNat P[j - 1]).set ((j : Int) - 1).toNat x = P.take (j - 1) ++ x :: (P.drop (j - 1) ++ R) := by
 obtain ⟨h1, h2⟩ := h
 obtain ⟨k, rfl⟩ : ∃ k, j = k + 1 := ⟨j - 1, by omega⟩
 have hk : k < P.length := by omega
 have e2 : (((k + 1 : Nat) : Int) - 1).toNat = k := by omega
 have e3 : ((k + 1 : Nat) : Int).toNat = k + 1 := by omega
 rw [e2, e3]
 have e : (P.take k).length = k := by rw [List.length_take]; omega
 have ed : P.drop k = P[k] :: P.drop (k + 1) := List.drop_eq_getElem_cons hk
 have et : P.take (k + 1) = P.take k ++ [P[k]] := List.take_succ_eq_append_getElem hk
 show ((P.take (k + 1) ++ x :: (P.drop (k + 1) ++ R)).set (k + 1) P[k]).set k x = P.take k ++ x :: (P.drop k ++ R)
 rw [ed, et, List.append_assoc]
 have := set_two (P.take k) P[k] x (P.drop (k + 1) ++ R)
 rw [e] at this
 exact this
theorem insV_mid (x : Dep) : ∀ (P : List Dep) (j : Nat), j ≤ P.length → P.Pairwise (fun a b => a.opens ≤ b.opens) → (∀ y ∈ P.drop j, x.opens < y.opens) → (0 < j → ∀ h : j - 1 < P.length, ¬ x.opens < (P[j - 1]).opens) → insV x P = P.take j ++ x :: P.drop j
 | [], j, _, _, _, _ => by simp [insV]
 | y :: P, 0, _, _, h, _ => by
   unfold insV
   rw [if_pos (h y (by simp))]
   rfl
 | y :: P, j + 1, hjl, hs, h, hj => by
   obtain ⟨h1, h2⟩ := List.pairwise_cons.1 hs
   have hy : ¬ x.opens < y.opens := by
    have hl : j < (y :: P).length := hjl
    have := hj (by omega) hl
    cases j with
    | zero => exact this
    | succ j =>
      have hjP : j < P.length := by simpa using hl
      have h3 : ¬ x.opens < (P[j]).opens := this
      have hm := h1 P[j] (List.getElem_mem hjP)
      omega
   unfold insV
   rw [if_neg hy, insV_mid x P j (by simpa using hjl) h2 h (fun hj0 hl => by
    obtain ⟨k, rfl⟩ : ∃ k, j = k + 1 := ⟨j - 1, by omega⟩
    exact hj (by omega) hjl)]
   rfl
end Go.Proofs.Ytfaoonbnbdlgaaa

/- The contracts of the functions that the statements about the makeup reach: the peak. -/
set_option linter.unusedSimpArgs false
set_option linter.unusedVariables false
set_option maxRecDepth 100000
set_option maxHeartbeats 4000000
namespace Go.Proofs.Ytfaoonbnbdlgaaa
open Go.Ev

/-- How many are open. -/
def cnt (l : List Dep) (t : Int) : Nat := l.countP (fun d => isOpenV d t)
theorem openV_cnt (l : List Dep) (t : Int) : (openV l t).length = cnt l t := by
 unfold openV cnt
 rw [List.length_map, List.countP_eq_length_filter]
theorem isOpenV_iff (d : Dep) (t : Int) : isOpenV d t = true ↔ d.state = 0 ∧ d.opens ≤ t ∧ t < d.closes := by
 unfold isOpenV
 simp only [Bool.and_eq_true, decide_eq_true_eq]
 exact ⟨fun h => ⟨h.1.1, h.1.2, h.2⟩, fun h => ⟨⟨h.1, h.2.1⟩, h.2.2⟩⟩
theorem max_opens : ∀ (l : List Dep), l ≠ [] → ∃ d ∈ l, ∀ e ∈ l, e.opens ≤ d.opens
 | [], h => absurd rfl h
 | [d], _ => ⟨d, by simp, by simp⟩
 | a :: b :: l, _ => by
   obtain ⟨d, hd, h⟩ := max_opens (b :: l) (by simp)
   by_cases c : d.opens ≤ a.opens
   · exact ⟨a, by simp, fun e he => by rcases List.mem_cons.1 he with rfl | he; exact Int.le_refl _; have := h e he; omega⟩
   · exact ⟨d, List.mem_cons_of_mem _ hd, fun e he => by rcases List.mem_cons.1 he with rfl | he; omega; exact h e he⟩
theorem cnt_mono {l : List Dep} {x : Int} (h : 0 < cnt l x) : ∃ d ∈ l, isOpenV d x = true ∧ cnt l x ≤ cnt l d.opens := by
 have hne : l.filter (fun d => isOpenV d x) ≠ [] := fun e => by
  unfold cnt at h
  rw [List.countP_eq_length_filter, e] at h
  simp at h
 obtain ⟨d, hd, hm⟩ := max_opens _ hne
 obtain ⟨hdl, hdo⟩ := List.mem_filter.1 hd
 refine ⟨d, hdl, hdo, ?_⟩
 unfold cnt
 refine List.countP_mono_left fun e he heo => ?_
 have h1 := hm e (List.mem_filter.2 ⟨he, heo⟩)
 rw [isOpenV_iff] at heo hdo ⊢
 omega
def IsPk (l : List Dep) (p : Int × Int) : Prop := (p.2 = 0 ∧ p.1 = 0 ∧ ∀ x, cnt l x = 0) ∨ (0 < p.2 ∧ (cnt l p.1 : Int) = p.2 ∧ ∀ x, (cnt l x : Int) ≤ p.2 ∧ ((cnt l x : Int) = p.2 → p.1 ≤ x))
def pkStep (l : List Dep) (a : Int × Int) (d : Dep) : Int × Int :=
 if ((openV l d.opens).length : Int) > a.2 ∨ (((openV l d.opens).length : Int) = a.2 ∧ ((openV l d.opens).length : Int) > 0) ∧ d.opens < a.1 then (d.opens, ((openV l d.opens).length : Int)) else a
def peakV (l : List Dep) : Int × Int := l.foldl (pkStep l) (0, 0)
theorem peakV_is (l : List Dep) : IsPk l (peakV l) := by
 have key : ∀ (r : List Dep) (a : Int × Int) (P : Dep → Prop), (a.2 = 0 ∧ a.1 = 0 ∧ ∀ d, P d → cnt l d.opens = 0) ∨ (0 < a.2 ∧ (cnt l a.1 : Int) = a.2 ∧ ∀ d, P d → (cnt l d.opens : Int) ≤ a.2 ∧ ((cnt l d.opens : Int) = a.2 → a.1 ≤ d.opens)) →
  ((r.foldl (pkStep l) a).2 = 0 ∧ (r.foldl (pkStep l) a).1 = 0 ∧ ∀ d, (P d ∨ d ∈ r) → cnt l d.opens = 0) ∨ (0 < (r.foldl (pkStep l) a).2 ∧ (cnt l (r.foldl (pkStep l) a).1 : Int) = (r.foldl (pkStep l) a).2 ∧ ∀ d, (P d ∨ d ∈ r) → (cnt l d.opens : Int) ≤ (r.foldl (pkStep l) a).2 ∧ ((cnt l d.opens : Int) = (r.foldl (pkStep l) a).2 → (r.foldl (pkStep l) a).1 ≤ d.opens)) := by
  intro r
  induction r with
  | nil => intro a P h; simpa using h
  | cons d r ih =>
    intro a P h
    have := ih (pkStep l a d) (fun e => P e ∨ e = d) (by
     unfold pkStep
     rw [openV_cnt]
     split
     · rename_i hc
       right
       dsimp only
       have hpos : (0 : Int) < cnt l d.opens := by
        rcases h with ⟨h1, h2, h3⟩ | ⟨h1, h2, h3⟩ <;> omega
       refine ⟨hpos, rfl, fun e he => ?_⟩
       rcases he with he | rfl
       · rcases h with ⟨h1, h2, h3⟩ | ⟨h1, h2, h3⟩
         · have := h3 e he; omega
         · obtain ⟨u, v⟩ := h3 e he
           refine ⟨by omega, fun k => ?_⟩
           have := v (by omega)
           omega
       · exact ⟨Int.le_refl _, fun _ => Int.le_refl _⟩
     · rename_i hc
       rcases h with ⟨h1, h2, h3⟩ | ⟨h1, h2, h3⟩
       · refine .inl ⟨h1, h2, fun e he => ?_⟩
         rcases he with he | rfl
         · exact h3 e he
         · omega
       · refine .inr ⟨h1, h2, fun e he => ?_⟩
         rcases he with he | rfl
         · exact h3 e he
         · exact ⟨by omega, fun k => by omega⟩)
    rw [List.foldl_cons]
    have hq : ∀ e, (P e ∨ e ∈ d :: r) → ((P e ∨ e = d) ∨ e ∈ r) := fun e he => by
     rcases he with he | he
     · exact .inl (.inl he)
     · rcases List.mem_cons.1 he with rfl | he
       · exact .inl (.inr rfl)
       · exact .inr he
    rcases this with ⟨h1, h2, h3⟩ | ⟨h1, h2, h3⟩
    · exact .inl ⟨h1, h2, fun e he => h3 e (hq e he)⟩
    · exact .inr ⟨h1, h2, fun e he => h3 e (hq e he)⟩
 have := key l (0, 0) (fun _ => False) (.inl ⟨rfl, rfl, fun _ h => h.elim⟩)
 unfold IsPk peakV
 rcases this with ⟨h1, h2, h3⟩ | ⟨h1, h2, h3⟩
 · refine .inl ⟨h1, h2, fun x => ?_⟩
   rcases Nat.eq_zero_or_pos (cnt l x) with e | e
   · exact e
   · obtain ⟨d, hd, _, hm⟩ := cnt_mono e
     have := h3 d (.inr hd)
     omega
 · refine .inr ⟨h1, h2, fun x => ?_⟩
   rcases Nat.eq_zero_or_pos (cnt l x) with e | e
   · omega
   · obtain ⟨d, hd, ho, hm⟩ := cnt_mono e
     obtain ⟨u, v⟩ := h3 d (.inr hd)
     rw [isOpenV_iff] at ho
     exact ⟨by omega, fun k => by have := v (by omega); omega⟩
def con20 : Con := { ps := [.d false (.sl yDP)], rs := [.d false (.int .i64), .d false (.int .i64)], pre := fun (x : List Dep × Unit) => x.1.length ≤ 1048576, out := fun (x : List Dep × Unit) => ((peakV x.1).1, (peakV x.1).2, ()), nw := id }
theorem c20 : CtrOk Try.prog 20 con20.ctr :=
 con_sound (G := ⟨[(47, con47.ctr)], [], [], [], []⟩) tab_ok (EnvOk.cons c47 has47 EnvOk.nil) rfl Try.func20 rfl con20 1099511632381 (by kernel_rfl) (by decide) (by decide) rfl (by decide) rfl (by
  rintro ⟨(l : List Dep), _⟩ hpre hwf X hT hG hk hK
  have hl : l.length ≤ 1048576 := hpre
  (simp -implicitDefEqProofs (maxSteps := 4000000) only [go_sem, Bool.not_eq_true', Bool.not_eq_false', Bool.or_eq_true, Bool.or_eq_false_iff, Bool.and_eq_true, Bool.and_eq_false_iff, decide_eq_true_eq, decide_eq_false_iff_not, Classical.not_not, not_or, maxLen, con20, con47, hT, hG, hk, hK, Try.results20] at hwf ⊢); (try simp (disch := decide +kernel) only [drawn, true_and, and_true])
  refine evk_loop ⟨{ i : Nat // i ≤ l.length }, 1000, fun i => [(0, .one (.sl yDP l false)), (4, .one (.int .i64 ((l.take i.1).foldl (pkStep l) (0, 0)).1)), (5, .one (.int .i64 ((l.take i.1).foldl (pkStep l) (0, 0)).2)), (6, .one (.int .i64 i.1))], fun _ => [], fun i => l.length - i.1⟩ ⟨0, by simp⟩ ?_ ?_
  · simp only [go_sem]
    exact ⟨rfl, rfl, rfl⟩
  · rintro ⟨i, (hi : i ≤ l.length)⟩
    (simp -implicitDefEqProofs (maxSteps := 4000000) only [go_sem, Bool.not_eq_true', Bool.not_eq_false', Bool.or_eq_true, Bool.or_eq_false_iff, Bool.and_eq_true, Bool.and_eq_false_iff, decide_eq_true_eq, decide_eq_false_iff_not, Classical.not_not, not_or, maxLen, con20, con47, hT, hG, hk, hK, Try.results20]); (try simp (disch := decide +kernel) only [drawn, true_and, and_true])
    refine fun _ => ⟨fun hlt => ?_, fun hge => ?_⟩
    · have hi' : i < l.length := by omega
      have ek : ∀ z, l.getD (i : Int).toNat z = l[i] := fun z => by simp [hi']
      simp only [ek]
      have hst : (l.take (i + 1)).foldl (pkStep l) (0, 0) = pkStep l ((l.take i).foldl (pkStep l) (0, 0)) l[i] := by
       rw [List.take_succ_eq_append_getElem hi', List.foldl_append]; rfl
      have hop := openV_len l l[i].2.2.1
      generalize (l.take i).foldl (pkStep l) (0, 0) = a at hst ⊢
      (repeat' (with_reducible (first | refine And.intro ?_ ?_ | intro _))) <;> (try (first | with_reducible (first | done | assumption | omega | contradiction) | decide))
      · have hc : ((openV l l[i].opens).length : Int) > a.2 ∨ (((openV l l[i].opens).length : Int) = a.2 ∧ ((openV l l[i].opens).length : Int) > 0) ∧ l[i].opens < a.1 := by assumption
        have e : pkStep l a l[i] = (l[i].opens, ((openV l l[i].opens).length : Int)) := if_pos hc
        refine fin_lp ⟨i + 1, by omega⟩ ?_ ?_
        · simp only [go_sem]
          rw [hst, e]
          exact ⟨rfl, rfl, rfl⟩
        · dsimp only; omega
      · have hc : ¬ ((openV l l[i].opens).length : Int) > a.2 ∧ ((¬ ((openV l l[i].opens).length : Int) = a.2 ∨ ¬ ((openV l l[i].opens).length : Int) > 0) ∨ ¬ l[i].opens < a.1) := by assumption
        have e : pkStep l a l[i] = a := if_neg (by omega)
        refine fin_lp ⟨i + 1, by omega⟩ ?_ ?_
        · simp only [go_sem]
          rw [hst, e]
          exact ⟨rfl, rfl, rfl⟩
        · dsimp only; omega
    · rw [List.take_of_length_le (by omega)]
      exact ⟨rfl, rfl⟩)
end Go.Proofs.Ytfaoonbnbdlgaaa

/- The contracts of the functions that the statements about the makeup reach: the order of flights. -/
set_option linter.unusedSimpArgs false
set_option linter.unusedVariables false
set_option maxRecDepth 100000
set_option maxHeartbeats 4000000
namespace Go.Proofs.Ytfaoonbnbdlgaaa
open Go.Ev
open Go.Sort (SWO)

/-- What a comparison is. -/
structure Cmp {α : Type} (c : α → α → Int) : Prop where
 eq : ∀ a b, c a b = 0 ↔ a = b
 anti : ∀ a b, c a b < 0 ↔ 0 < c b a
 trans : ∀ a b d, c a b < 0 → c b d < 0 → c a d < 0
 unit : ∀ a b, -1 ≤ c a b ∧ c a b ≤ 1
theorem cmpV_cmp : Cmp cmpV := by
 refine ⟨fun a b => ?_, fun a b => ?_, fun a b d => ?_, fun a b => ?_⟩ <;> unfold cmpV
 · split
   · omega
   · split <;> omega
 · (repeat' split) <;> omega
 · intro h1 h2
   have a1 : a < b := by
    apply Classical.byContradiction
    intro h
    rw [if_neg h] at h1
    split at h1 <;> omega
   have a2 : b < d := by
    apply Classical.byContradiction
    intro h
    rw [if_neg h] at h2
    split at h2 <;> omega
   rw [if_pos (by omega)]; omega
 · split
   · omega
   · split <;> omega
theorem strLt_iff (a b : ByteArray) : strLt a b = true ↔ a.toList < b.toList := by
 unfold strLt
 rw [Go.Proofs.bytesLess_eq, decide_eq_true_eq]
theorem str_inj {a b : ByteArray} (h : a.toList = b.toList) : a = b := by
 have := bytes_eq a b
 rw [h] at this
 simpa using this.symm
theorem cmpS_cmp : Cmp cmpS := by
 have hlt : ∀ a b, cmpS a b = if a.toList < b.toList then -1 else if a = b then 0 else 1 := fun a b => by
  unfold cmpS
  by_cases h : a.toList < b.toList
  · rw [if_pos ((strLt_iff a b).2 h), if_pos h]
  · have h2 : strLt a b = false := by
     cases hh : strLt a b
     · rfl
     · exact absurd ((strLt_iff a b).1 hh) h
    rw [if_neg h, h2]
    by_cases e : a = b
    · simp [e]
    · simp [e]
 have tri : ∀ a b : ByteArray, a ≠ b → ¬ a.toList < b.toList → b.toList < a.toList := fun a b e h => by
  have h2 : b.toList ≤ a.toList := List.not_lt.1 h
  rcases List.le_iff_lt_or_eq.1 h2 with h3 | h3
  · exact h3
  · exact absurd (str_inj h3.symm) e
 refine ⟨fun a b => ?_, fun a b => ?_, fun a b d => ?_, fun a b => ?_⟩ <;> simp only [hlt]
 · by_cases h : a.toList < b.toList
   · rw [if_pos h]
     refine ⟨fun k => by omega, fun k => ?_⟩
     subst k
     exact absurd h (List.lt_irrefl _)
   · rw [if_neg h]
     by_cases e : a = b <;> simp [e]
 · by_cases h : a.toList < b.toList
   · rw [if_pos h, if_neg (fun k => List.lt_asymm h k), if_neg (fun e => by subst e; exact List.lt_irrefl _ h)]
     omega
   · rw [if_neg h]
     by_cases e : a = b
     · subst e; simp [h]
     · rw [if_neg e, if_pos (tri a b e h)]; omega
 · intro h1 h2
   have a1 : a.toList < b.toList := by
    apply Classical.byContradiction
    intro h
    rw [if_neg h] at h1
    split at h1 <;> omega
   have a2 : b.toList < d.toList := by
    apply Classical.byContradiction
    intro h
    rw [if_neg h] at h2
    split at h2 <;> omega
   rw [if_pos (List.lt_trans a1 a2)]; omega
 · split
   · omega
   · split <;> omega
def lexC {α β : Type} (c : α → α → Int) (d : β → β → Int) (x y : α × β) : Int := if c x.1 y.1 = 0 then d x.2 y.2 else c x.1 y.1
theorem Cmp.lex {α β : Type} {c : α → α → Int} {d : β → β → Int} (hc : Cmp c) (hd : Cmp d) : Cmp (lexC c d) := by
 have sym : ∀ a b, c a b = 0 → c b a = 0 := fun a b h => (hc.eq b a).2 ((hc.eq a b).1 h).symm
 refine ⟨fun a b => ?_, fun a b => ?_, fun a b e => ?_, fun a b => ?_⟩ <;> unfold lexC
 · by_cases h : c a.1 b.1 = 0
   · rw [if_pos h, hd.eq]
     have := (hc.eq _ _).1 h
     exact ⟨fun k => Prod.ext this k, fun k => by rw [k]⟩
   · rw [if_neg h]
     exact ⟨fun k => absurd k h, fun k => absurd ((hc.eq _ _).2 (by rw [k])) h⟩
 · by_cases h : c a.1 b.1 = 0
   · rw [if_pos h, if_pos (sym _ _ h)]; exact hd.anti _ _
   · rw [if_neg h, if_neg (fun k => h (sym _ _ k))]; exact hc.anti _ _
 · by_cases h : c a.1 b.1 = 0
   · have e1 := (hc.eq _ _).1 h
     rw [if_pos h, e1]
     by_cases h2 : c b.1 e.1 = 0
     · simp only [h2, if_true]; exact hd.trans _ _ _
     · simp only [h2, if_false]; exact fun _ k => k
   · rw [if_neg h]
     by_cases h2 : c b.1 e.1 = 0
     · rw [if_pos h2, ← (hc.eq _ _).1 h2, if_neg h]; exact fun k _ => k
     · rw [if_neg h2]
       intro k1 k2
       have := hc.trans _ _ _ k1 k2
       rw [if_neg (by omega)]; exact this
 · split
   · exact hd.unit _ _
   · exact hc.unit _ _
theorem fltC_eq (a b : Flt) : fltC a b = lexC cmpS (lexC cmpV (lexC cmpS cmpV)) a b := by
 unfold fltC lexC
 simp only [orV]
 split
 · split
   · split
     · split
       · omega
       · rfl
     · rfl
   · rfl
 · rfl
theorem fltC_cmp : Cmp fltC := by
 have : fltC = lexC cmpS (lexC cmpV (lexC cmpS cmpV)) := by funext a b; exact fltC_eq a b
 rw [this]
 exact cmpS_cmp.lex (cmpV_cmp.lex (cmpS_cmp.lex cmpV_cmp))
theorem all_swo : SWO (fun x y : All => decide (fltC x.1 y.1 < 0)) := by
 refine ⟨fun x => ?_, fun x y z h1 h2 => ?_, fun x y z h1 h2 => ?_⟩
 · have := (fltC_cmp.eq x.1 x.1).2 rfl
   exact decide_eq_false (by omega)
 · exact decide_eq_true (fltC_cmp.trans _ y.1 _ (of_decide_eq_true h1) (of_decide_eq_true h2))
 · have a1 := of_decide_eq_false h1
   have a2 := of_decide_eq_false h2
   refine decide_eq_false fun h => ?_
   by_cases e : fltC y.1 x.1 = 0
   · rw [(fltC_cmp.eq _ _).1 e] at a2; exact a2 h
   · have : fltC y.1 x.1 < 0 := by
      have := fltC_cmp.anti x.1 y.1
      have b := fltC_cmp.anti y.1 x.1
      have e2 : fltC x.1 y.1 ≠ 0 := fun k => e ((fltC_cmp.eq _ _).2 ((fltC_cmp.eq _ _).1 k).symm)
      omega
     exact a2 (fltC_cmp.trans _ _ _ this h)
/-- In the order of the flights. -/
def sortAl (l : List All) : List All := l.mergeSort (fun a b => decide (fltC a.1 b.1 ≤ 0))
theorem sortAl_perm (l : List All) : (sortAl l).Perm l := List.mergeSort_perm l _
theorem fltC_tot (a b : Flt) : ¬ fltC a b ≤ 0 → fltC b a < 0 := fun h => (fltC_cmp.anti b a).2 (by omega)
theorem sortAl_sorted (l : List All) : (sortAl l).Pairwise (fun a b => fltC a.1 b.1 ≤ 0) := by
 have h := List.pairwise_mergeSort (le := fun a b : All => decide (fltC a.1 b.1 ≤ 0)) (fun a b c h1 h2 => by
  have h1 := of_decide_eq_true h1
  have h2 := of_decide_eq_true h2
  refine decide_eq_true ?_
  by_cases e1 : fltC a.1 b.1 = 0
  · rw [(fltC_cmp.eq _ _).1 e1]; exact h2
  · by_cases e2 : fltC b.1 c.1 = 0
    · rw [← (fltC_cmp.eq _ _).1 e2]; exact h1
    · have := fltC_cmp.trans a.1 b.1 c.1 (by omega) (by omega)
      omega) (fun a b => by
  simp only [Bool.or_eq_true, decide_eq_true_eq]
  by_cases h : fltC a.1 b.1 ≤ 0
  · exact .inl h
  · have := fltC_tot _ _ h
    exact .inr (by omega)) l
 exact h.imp (fun h => by simpa using h)
theorem sortAl_eq {l z : List All} (hn : (l.map (·.1)).Nodup) (hp : z.Perm l) (hs : z.Pairwise (fun a b => ¬ fltC b.1 a.1 < 0)) : z = sortAl l := by
 have hnz : (z.map (·.1)).Nodup := (hp.map _).nodup_iff.2 hn
 refine List.Perm.eq_of_pairwise (le := fun a b : All => ¬ fltC b.1 a.1 < 0) (fun a b ha hb h1 h2 => ?_) hs ((sortAl_sorted l).imp (fun {a b} h k => by
  have := (fltC_cmp.anti b.1 a.1).1 k; omega)) (hp.trans (sortAl_perm l).symm)
 have e0 : fltC a.1 b.1 = 0 := by
  have := fltC_cmp.anti b.1 a.1
  omega
 have e := (fltC_cmp.eq _ _).1 e0
 have ha' : a ∈ l := hp.mem_iff.1 ha
 have hb' : b ∈ l := (sortAl_perm l).mem_iff.1 hb
 clear hs hp hnz ha hb
 induction l with
 | nil => cases ha'
 | cons c l ih =>
   rw [List.map_cons, List.nodup_cons] at hn
   rcases List.mem_cons.1 ha' with h1 | h1 <;> rcases List.mem_cons.1 hb' with h2 | h2
   · rw [h1, h2]
   · exact absurd (List.mem_map.2 ⟨b, h2, by rw [← e, h1]⟩) hn.1
   · exact absurd (List.mem_map.2 ⟨a, h1, by rw [e, h2]⟩) hn.1
   · exact ih hn.2 h1 h2
end Go.Proofs.Ytfaoonbnbdlgaaa

/- The contracts of the functions that the statements about the makeup reach: the plan. -/
set_option linter.unusedSimpArgs false
set_option linter.unusedVariables false
set_option maxRecDepth 100000
set_option maxHeartbeats 4000000
namespace Go.Proofs.Ytfaoonbnbdlgaaa
open Go.Ev

theorem valF_ok : ∀ (l : List Dep) (p : Option Flt), valF p l = 0 → (∀ d ∈ l, validV d = true) ∧ (∀ f, p = some f → ∀ d ∈ l, fltC f d.1 < 0) ∧ l.Pairwise (fun a b => fltC a.1 b.1 < 0)
 | [], _, _ => ⟨by simp, by simp, List.Pairwise.nil⟩
 | d :: l, p, h => by
   unfold valF at h
   have hv : validV d = true := by
    cases hv : validV d
    · rw [if_pos hv] at h; omega
    · rfl
   rw [if_neg (by rw [hv]; simp)] at h
   have key : valF (some d.1) l = 0 → (∀ e ∈ d :: l, validV e = true) ∧ (d :: l).Pairwise (fun a b => fltC a.1 b.1 < 0) ∧ ∀ e ∈ l, fltC d.1 e.1 < 0 := fun k => by
    obtain ⟨h1, h2, h3⟩ := valF_ok l (some d.1) k
    have h4 := h2 d.1 rfl
    exact ⟨fun e he => by rcases List.mem_cons.1 he with rfl | he; exact hv; exact h1 e he, List.pairwise_cons.2 ⟨h4, h3⟩, h4⟩
   cases p with
   | none =>
     obtain ⟨a, b, _⟩ := key h
     exact ⟨a, by simp, b⟩
   | some f =>
     dsimp only at h
     by_cases e0 : fltC f d.1 = 0
     · rw [if_pos e0] at h; omega
     · rw [if_neg e0] at h
       by_cases e1 : fltC f d.1 = 1
       · rw [if_pos e1] at h; omega
       · rw [if_neg e1] at h
         obtain ⟨a, b, c⟩ := key h
         have hu := fltC_cmp.unit f d.1
         have hfd : fltC f d.1 < 0 := by omega
         refine ⟨a, fun g hg e he => ?_, b⟩
         cases hg
         rcases List.mem_cons.1 he with rfl | he
         · exact hfd
         · exact fltC_cmp.trans _ _ _ hfd (c e he)
theorem valid_ok {l : List Dep} (h : validateV l = 0) : l.length ≤ 24 ∧ (∀ d ∈ l, validV d = true) ∧ l.Pairwise (fun a b => fltC a.1 b.1 < 0) := by
 unfold validateV at h
 by_cases c : (l.length : Int) > 24
 · rw [if_pos c] at h; omega
 · rw [if_neg c] at h
   obtain ⟨a, _, b⟩ := valF_ok l none h
   exact ⟨by omega, a, b⟩
theorem validV_times {d : Dep} (h : validV d = true) : 0 ≤ d.opens ∧ d.opens < d.closes ∧ d.closes ≤ 1048576 := by
 unfold validV inV at h
 simp only [Bool.and_eq_true, decide_eq_true_eq] at h
 unfold Dep.opens Dep.closes
 omega
theorem nodup_flts {l : List Dep} (h : l.Pairwise (fun a b => fltC a.1 b.1 < 0)) : (l.map (fun d => d.1)).Nodup := by
 unfold List.Nodup
 rw [List.pairwise_map]
 refine h.imp fun {a b} hab e => ?_
 rw [(fltC_cmp.eq _ _).2 e] at hab
 omega
def place (d : Dep) : List Int → List Int → Option (Int × List Int)
 | c :: cs, f :: fs => if f ≤ d.opens then some (c, d.closes :: fs) else (place d cs fs).map (fun r => (r.1, f :: r.2))
 | _, _ => none
def greedy : List Dep → List Int → List Int → List All
 | [], _, _ => []
 | d :: ds, cs, fr => match place d cs fr with
   | some (c, fr') => (d.1, c) :: greedy ds cs fr'
   | none => greedy ds cs fr
abbrev Mk := List All × Int × List Flt
end Go.Proofs.Ytfaoonbnbdlgaaa

/- The contracts of the reference's functions: the order of flights, lists. -/
set_option linter.unusedSimpArgs false
set_option linter.unusedVariables false
set_option maxRecDepth 100000
set_option maxHeartbeats 4000000
namespace Go.Proofs.Ytfaoonbnbdlgaaa
open Go.Ev

theorem strLt_self (a : ByteArray) : strLt a a = false := by
 cases h : strLt a a
 · rfl
 · exact absurd ((strLt_iff a a).1 h) (List.lt_irrefl _)
def con43 : Con := { ps := [.d true yFL, .d true yFL], rs := [.d false (.int .i64)], pre := fun _ => True, out := fun (x : Flt × Flt × Unit) => (fltC x.1 x.2.1, ()), nw := id }
theorem c43 : CtrOk Try.prog 43 con43.ctr :=
 con_sound (G := ⟨[], [], [], [], []⟩) tab_ok EnvOk.nil rfl Try.func43 rfl con43 6600292565567 (by kernel_rfl) (by decide) (by decide) rfl (by decide) rfl (by
  rintro ⟨(a : Flt), (b : Flt), _⟩ hpre hwf X hT hG hk hK
  obtain ⟨a1, (a2 : Int), a3, (a4 : Int)⟩ := a
  obtain ⟨b1, (b2 : Int), b3, (b4 : Int)⟩ := b
  (simp -implicitDefEqProofs (maxSteps := 4000000) only [go_sem, Bool.not_eq_true', Bool.not_eq_false', Bool.or_eq_true, Bool.or_eq_false_iff, Bool.and_eq_true, Bool.and_eq_false_iff, decide_eq_true_eq, decide_eq_false_iff_not, Classical.not_not, not_or, maxLen, con43, hT, hG, hk, hK, Try.results43] at hwf ⊢); (try simp (disch := decide +kernel) only [drawn, true_and, and_true])
  have h2 : ¬ a2 = b2 → ¬ a2 < b2 → b2 < a2 := by omega
  have h4 : ¬ a4 = b4 → ¬ a4 < b4 → b4 < a4 := by omega
  (repeat' (with_reducible (first | refine And.intro ?_ ?_ | intro _))) <;> (try (first | with_reducible (first | done | assumption | omega | contradiction) | decide))
  all_goals simp_all [fltC, orV, cmpS, cmpV, strLt_self]
  · have n2 : ¬ a2 < b2 := by omega
    simp [n2]
  · have n4 : ¬ a4 < b4 := by omega
    simp [n4])
end Go.Proofs.Ytfaoonbnbdlgaaa

/- The contracts of the reference's functions: Overlap. -/
set_option linter.unusedSimpArgs false
set_option linter.unusedVariables false
set_option maxRecDepth 100000
set_option maxHeartbeats 4000000
namespace Go.Proofs.Ytfaoonbnbdlgaaa
open Go.Ev

def maxI (a b : Int) : Int := if b > a then b else a
def overR (a b : Dep) : Bool := isOpenV a (maxI a.opens b.opens) && isOpenV b (maxI a.opens b.opens)
def con50 : Con := { ps := [.d true yDP, .d true yDP], rs := [.d false .bool], pre := fun _ => True, out := fun (x : Dep × Dep × Unit) => (overR x.1 x.2.1, ()), nw := id }
theorem c50 : CtrOk Try.prog 50 con50.ctr :=
 con_sound (G := ⟨[(64, con64.ctr)], [], [], [], []⟩) tab_ok (EnvOk.cons c64 has64 EnvOk.nil) rfl Try.func50 rfl con50 31 (by kernel_rfl) (by decide) (by decide) rfl (by decide) rfl (by
  rintro ⟨(a : Dep), (b : Dep), _⟩ hpre hwf X hT hG hk hK
  (simp -implicitDefEqProofs (maxSteps := 4000000) only [go_sem, Bool.not_eq_true', Bool.not_eq_false', Bool.or_eq_true, Bool.or_eq_false_iff, Bool.and_eq_true, Bool.and_eq_false_iff, decide_eq_true_eq, decide_eq_false_iff_not, Classical.not_not, not_or, maxLen, con50, con64, hT, hG, hk, hK, Try.results50] at hwf ⊢); (try simp (disch := decide +kernel) only [drawn, true_and, and_true])
  (repeat' (with_reducible (first | refine And.intro ?_ ?_ | intro _))) <;> (try (first | with_reducible (first | done | assumption | omega | contradiction) | decide))
  all_goals rfl)
end Go.Proofs.Ytfaoonbnbdlgaaa

/- The contracts of the reference's functions: what is valid. -/
set_option linter.unusedSimpArgs false
set_option linter.unusedVariables false
set_option maxRecDepth 100000
set_option maxHeartbeats 4000000
namespace Go.Proofs.Ytfaoonbnbdlgaaa
open Go.Ev

def con94 : Con := { ps := [.d false (.int .u8)], rs := [.d false .bool], pre := fun _ => True, out := fun x => (letterV x.1, ()), nw := id }
theorem c94 : CtrOk Try.prog 94 con94.ctr :=
 con_sound (G := ⟨[], [], [], [], []⟩) tab_ok EnvOk.nil rfl Try.func94 rfl con94 5 (by kernel_rfl) (by decide) (by decide) rfl (by decide) rfl (by
  rintro ⟨(b : Int), _⟩ hpre hwf X hT hG hk hK
  (simp -implicitDefEqProofs (maxSteps := 4000000) only [go_sem, Bool.not_eq_true', Bool.not_eq_false', Bool.or_eq_true, Bool.or_eq_false_iff, Bool.and_eq_true, Bool.and_eq_false_iff, decide_eq_true_eq, decide_eq_false_iff_not, Classical.not_not, not_or, maxLen, con94, hT, hG, hk, hK, Try.results94] at hwf ⊢); (try simp (disch := decide +kernel) only [drawn, true_and, and_true])
  (repeat' (with_reducible (first | refine And.intro ?_ ?_ | intro _))) <;> (try (first | with_reducible (first | done | assumption | omega | contradiction) | decide))
  rfl)
def con99 : Con := { ps := [.d false (.int .u8)], rs := [.d false .bool], pre := fun _ => True, out := fun x => (digitV x.1, ()), nw := id }
theorem c99 : CtrOk Try.prog 99 con99.ctr :=
 con_sound (G := ⟨[], [], [], [], []⟩) tab_ok EnvOk.nil rfl Try.func99 rfl con99 5 (by kernel_rfl) (by decide) (by decide) rfl (by decide) rfl (by
  rintro ⟨(b : Int), _⟩ hpre hwf X hT hG hk hK
  (simp -implicitDefEqProofs (maxSteps := 4000000) only [go_sem, Bool.not_eq_true', Bool.not_eq_false', Bool.or_eq_true, Bool.or_eq_false_iff, Bool.and_eq_true, Bool.and_eq_false_iff, decide_eq_true_eq, decide_eq_false_iff_not, Classical.not_not, not_or, maxLen, con99, hT, hG, hk, hK, Try.results99] at hwf ⊢); (try simp (disch := decide +kernel) only [drawn, true_and, and_true])
  (repeat' (with_reducible (first | refine And.intro ?_ ?_ | intro _))) <;> (try (first | with_reducible (first | done | assumption | omega | contradiction) | decide))
  rfl)
theorem carrierV_eq (s : ByteArray) (h : s.size = 2) : carrierV s = ((letterV (byteAt s 0) || digitV (byteAt s 0)) && (letterV (byteAt s 1) || digitV (byteAt s 1)) && (letterV (byteAt s 0) || letterV (byteAt s 1))) := by
 unfold carrierV
 rw [if_neg (by omega), h]
 simp only [carF]
 cases letterV (byteAt s 0) <;> cases digitV (byteAt s 0) <;> cases letterV (byteAt s 1) <;> cases digitV (byteAt s 1) <;> decide
def con92 : Con := { ps := [.d false .str], rs := [.d false .bool], pre := fun _ => True, out := fun x => (carrierV x.1, ()), nw := id }
theorem c92 : CtrOk Try.prog 92 con92.ctr :=
 con_sound (G := ⟨[(94, con94.ctr), (99, con99.ctr)], [], [], [], []⟩) tab_ok (EnvOk.cons c94 has94 (EnvOk.cons c99 has99 EnvOk.nil)) rfl Try.func92 rfl con92 157 (by kernel_rfl) (by decide) (by decide) rfl (by decide) rfl (by
  rintro ⟨(s : ByteArray), _⟩ hpre hwf X hT hG hk hK
  (simp -implicitDefEqProofs (maxSteps := 4000000) only [go_sem, Bool.not_eq_true', Bool.not_eq_false', Bool.or_eq_true, Bool.or_eq_false_iff, Bool.and_eq_true, Bool.and_eq_false_iff, decide_eq_true_eq, decide_eq_false_iff_not, Classical.not_not, not_or, maxLen, con92, con94, con99, hT, hG, hk, hK, Try.results92] at hwf ⊢); (try simp (disch := decide +kernel) only [drawn, true_and, and_true])
  (repeat' (with_reducible (first | refine And.intro ?_ ?_ | intro _))) <;> (try (first | with_reducible (first | done | assumption | omega | contradiction) | decide))
  · have h : ¬ (s.size : Int) = 2 := by assumption
    unfold carrierV; rw [if_pos h]
  all_goals first
   | (have h : (letterV (byteAt s 0) = true ∨ digitV (byteAt s 0) = true) ∧ (letterV (byteAt s 1) = true ∨ digitV (byteAt s 1) = true) := by assumption
      first
       | exact h.1
       | exact h.2)
   | (rename_i h
      exact (carrierV_eq s (by omega)).symm))
def con93 : Con := { ps := [.d false .str], rs := [.d false .bool], pre := fun _ => True, out := fun x => (lettersV x.1 0 1, ()), nw := id }
theorem c93 : CtrOk Try.prog 93 con93.ctr :=
 con_sound (G := ⟨[(94, con94.ctr)], [], [], [], []⟩) tab_ok (EnvOk.cons c94 has94 EnvOk.nil) rfl Try.func93 rfl con93 5 (by kernel_rfl) (by decide) (by decide) rfl (by decide) rfl (by
  rintro ⟨(s : ByteArray), _⟩ hpre hwf X hT hG hk hK
  (simp -implicitDefEqProofs (maxSteps := 4000000) only [go_sem, Bool.not_eq_true', Bool.not_eq_false', Bool.or_eq_true, Bool.or_eq_false_iff, Bool.and_eq_true, Bool.and_eq_false_iff, decide_eq_true_eq, decide_eq_false_iff_not, Classical.not_not, not_or, maxLen, con93, con94, hT, hG, hk, hK, Try.results93] at hwf ⊢); (try simp (disch := decide +kernel) only [drawn, true_and, and_true])
  (repeat' (with_reducible (first | refine And.intro ?_ ?_ | intro _))) <;> (try (first | with_reducible (first | done | assumption | omega | contradiction) | decide))
  unfold lettersV
  have e : decide (s = ByteArray.empty) = decide (s.size = 0) := by
   rw [decide_eq_decide]
   exact ⟨fun h => by rw [h]; rfl, fun h => ByteArray.ext (Array.eq_empty_of_size_eq_zero h)⟩
  show (decide (s = ByteArray.empty) || _) = _
  rw [e]
  rcases hs : s.size with _ | _ | n
  · rfl
  · simp [allFrom]
  · rw [decide_eq_false (by omega), decide_eq_false (by omega), decide_eq_false (p := ((n + 1 + 1 : Nat) : Int) ≤ 1) (by omega)]
    simp)
def con81 : Con := { ps := [.d false .str], rs := [.d false .bool], pre := fun _ => True, out := fun x => (lettersV x.1 3 3, ()), nw := id }
theorem c81 : CtrOk Try.prog 81 con81.ctr :=
 con_sound (G := ⟨[(94, con94.ctr)], [], [], [], []⟩) tab_ok (EnvOk.cons c94 has94 EnvOk.nil) rfl Try.func81 rfl con81 5 (by kernel_rfl) (by decide) (by decide) rfl (by decide) rfl (by
  rintro ⟨(s : ByteArray), _⟩ hpre hwf X hT hG hk hK
  (simp -implicitDefEqProofs (maxSteps := 4000000) only [go_sem, Bool.not_eq_true', Bool.not_eq_false', Bool.or_eq_true, Bool.or_eq_false_iff, Bool.and_eq_true, Bool.and_eq_false_iff, decide_eq_true_eq, decide_eq_false_iff_not, Classical.not_not, not_or, maxLen, con81, con94, hT, hG, hk, hK, Try.results81] at hwf ⊢); (try simp (disch := decide +kernel) only [drawn, true_and, and_true])
  (repeat' (with_reducible (first | refine And.intro ?_ ?_ | intro _))) <;> (try (first | with_reducible (first | done | assumption | omega | contradiction) | decide))
  unfold lettersV
  by_cases hs : s.size = 3
  · rw [hs]; simp [allFrom, Bool.and_assoc]
  · rw [decide_eq_false (by omega)]
    by_cases h : (s.size : Int) ≥ 3
    · rw [decide_eq_false (p := (s.size : Int) ≤ 3) (by omega)]; simp
    · rw [decide_eq_false h]; simp)
def con80 : Con := { ps := [.d true yFL], rs := [.d false .bool], pre := fun _ => True, out := fun x => (fltOk x.1, ()), nw := id }
theorem c80 : CtrOk Try.prog 80 con80.ctr :=
 con_sound (G := ⟨[(92, con92.ctr), (93, con93.ctr)], [], [], [], []⟩) tab_ok (EnvOk.cons c92 has92 (EnvOk.cons c93 has93 EnvOk.nil)) rfl Try.func80 rfl con80 7 (by kernel_rfl) (by decide) (by decide) rfl (by decide) rfl (by
  rintro ⟨⟨a1, (a2 : Int), a3, (a4 : Int)⟩, _⟩ hpre hwf X hT hG hk hK
  (simp -implicitDefEqProofs (maxSteps := 4000000) only [go_sem, Bool.not_eq_true', Bool.not_eq_false', Bool.or_eq_true, Bool.or_eq_false_iff, Bool.and_eq_true, Bool.and_eq_false_iff, decide_eq_true_eq, decide_eq_false_iff_not, Classical.not_not, not_or, maxLen, con80, con92, con93, hT, hG, hk, hK, Try.results80] at hwf ⊢); (try simp (disch := decide +kernel) only [drawn, true_and, and_true])
  (repeat' (with_reducible (first | refine And.intro ?_ ?_ | intro _))) <;> (try (first | with_reducible (first | done | assumption | omega | contradiction) | decide))
  rfl)
def con63 : Con := { ps := [.d true yDP], rs := [.d false .bool], pre := fun _ => True, out := fun x => (validV x.1, ()), nw := id }
theorem c63 : CtrOk Try.prog 63 con63.ctr :=
 con_sound (G := ⟨[(80, con80.ctr), (81, con81.ctr)], [], [], [], []⟩) tab_ok (EnvOk.cons c80 has80 (EnvOk.cons c81 has81 EnvOk.nil)) rfl Try.func63 rfl con63 7 (by kernel_rfl) (by decide) (by decide) rfl (by decide) rfl (by
  rintro ⟨(a : Dep), _⟩ hpre hwf X hT hG hk hK
  obtain ⟨a0, a1, (a2 : Int), (a3 : Int), (a4 : Int), (a5 : Int), (a6 : Int)⟩ := a
  (simp -implicitDefEqProofs (maxSteps := 4000000) only [go_sem, Bool.not_eq_true', Bool.not_eq_false', Bool.or_eq_true, Bool.or_eq_false_iff, Bool.and_eq_true, Bool.and_eq_false_iff, decide_eq_true_eq, decide_eq_false_iff_not, Classical.not_not, not_or, maxLen, con63, con80, con81, hT, hG, hk, hK, Try.results63] at hwf ⊢); (try simp (disch := decide +kernel) only [drawn, true_and, and_true])
  (repeat' (with_reducible (first | refine And.intro ?_ ?_ | intro _))) <;> (try (first | with_reducible (first | done | assumption | omega | contradiction) | decide))
  unfold validV inV
  dsimp only
  generalize fltOk a0 = b3
  generalize lettersV a1 3 3 = b4
  rw [Bool.eq_iff_iff]
  simp only [Bool.and_eq_true, decide_eq_true_eq]
  constructor
  · rintro ⟨⟨⟨⟨⟨⟨⟨⟨⟨h1, h2⟩, h3⟩, h4⟩, h5⟩, h6⟩, h7⟩, h8⟩, h9⟩, h10⟩
    refine ⟨⟨⟨⟨⟨⟨⟨⟨h1, h2⟩, ?_⟩, ?_⟩, ?_⟩, ?_⟩, ?_⟩, ?_⟩, ?_⟩ <;> omega
  · rintro ⟨⟨⟨⟨⟨⟨⟨⟨h1, h2⟩, h3⟩, h4⟩, h5⟩, h6⟩, h7⟩, h8⟩, h9⟩
    refine ⟨⟨⟨⟨⟨⟨⟨⟨⟨h1, h2⟩, ?_⟩, ?_⟩, ?_⟩, ?_⟩, ?_⟩, ?_⟩, ?_⟩, ?_⟩ <;> omega)
end Go.Proofs.Ytfaoonbnbdlgaaa
