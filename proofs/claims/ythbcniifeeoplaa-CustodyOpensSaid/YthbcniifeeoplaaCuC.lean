/- The contracts of the functions that the statements about custody reach: awake, the laws. -/
import Derived.Test.YthbcniifeeoplaaCuB
set_option linter.unusedSimpArgs false
set_option linter.unusedVariables false
set_option maxRecDepth 100000
set_option maxHeartbeats 4000000
namespace Go.Proofs.Ythbcniifeeoplaa
open Go.Ev

def con8 : Con := { ps := [], rs := [.d false .bool], pre := fun _ => True, out := fun _ => (true, ()), nw := id }
theorem c8 : CtrOk Try.prog 8 con8.ctr :=
  con_sound (G := ⟨[(11, con11.ctr), (17, con17.ctr), (23, con23.ctr)], []⟩) tab_ok (EnvOk.cons c11 has11 (EnvOk.cons c17 has17 (EnvOk.cons c23 has23 EnvOk.nil))) rfl Try.func8 rfl con8 95 (by kernel_rfl) (by decide) (by decide) rfl (by decide) rfl (by
    rintro ⟨⟩ hpre hwf X hT hG hk hK
    (simp only [go_sem, Nat.reduceAdd, Nat.reduceMul, Nat.reduceSub, Nat.reduceEqDiff, Nat.reduceLT, Nat.reduceLeDiff, Nat.reduceShiftRight, Nat.reduceMod, Nat.reduceBEq, reduceCtorEq, reduceIte, reduceDIte, Int.reduceNeg, con8, con11, con17, con23, hT, hG, hk, hK, Try.results8] at hwf ⊢); (try simp (disch := decide +kernel) only [drawn, true_and, and_true])
    intro _ _ _ _ _
    decide)
theorem goMod_bd (x n : Int) (h : 1 ≤ n) : 0 ≤ goMod x n ∧ goMod x n < n := by
  have := tmod_bd x n h
  unfold goMod
  rw [if_neg (by omega)]
  split <;> omega
theorem openV_yes {a c : Int} {l r : List Int} (h : (openV (a, c, l, r)).2 = true) : a = c ∧ 1 ≤ a ∧ a ∈ l ∧ a ∈ r ∧ (openV (a, c, l, r)).1 = a := by
  unfold openV at h ⊢
  split at h
  · cases h
  · rename_i k
    rw [if_neg k]
    simp only [not_or, ne_eq, Classical.not_not, Int.not_lt] at k
    exact ⟨k.1, by omega, k.2.2.2.1, k.2.2.2.2, rfl⟩
theorem openV_self {a : Int} {l : List Int} (h1 : 0 ≤ a) (h2 : a < 41) : openV (a, a, l, l) = if a > 0 ∧ a ∈ l then (a, true) else (0, false) := by
  unfold openV
  by_cases h : a > 0 <;> by_cases k : a ∈ l <;> simp [h, k] <;> omega
theorem single_fin {g : Int} {l : List Int} (h1 : 0 ≤ g) (h2 : g < 41) {o : Int × Bool} (ho : o.2 = true → o.1 = g ∧ g > 0 ∧ g ∈ l) :
    (o.snd = true → o.snd = true ∧ (¬¬o.fst = g → (o.snd && !decide ¬o.fst = g) = true)) ∧
      (o.snd = true → o.snd = true ∧ ((decide ¬o.fst = g || decide (g = 0)) = false → (o.snd && !(decide ¬o.fst = g || decide (g = 0))) = true)) ∧
        ((o.snd && (decide ¬o.fst = g || decide (g = 0) || !decide (g ∈ l))) = true → False) ∧
          ((o.snd && (decide ¬o.fst = g || decide (g = 0) || !decide (g ∈ l))) = false →
            -9223372036854775808 ≤ (openV (g, g, l, l)).fst ∧ (openV (g, g, l, l)).fst ≤ 9223372036854775807 →
              ((openV (g, g, l, l)).snd = (decide (g > 0) && decide (g ∈ l)) →
                  (openV (g, g, l, l)).snd = (decide (g > 0) && decide (g ∈ l)) ∧
                  ((!(openV (g, g, l, l)).snd) = false → (decide ((openV (g, g, l, l)).snd = (decide (g > 0) && decide (g ∈ l))) &&
                      !!(openV (g, g, l, l)).snd) =
                    true)) ∧
                (decide ((openV (g, g, l, l)).snd = (decide (g > 0) && decide (g ∈ l))) &&
                    (!(openV (g, g, l, l)).snd || decide ((openV (g, g, l, l)).fst = g))) =
                  true) := by
  rw [openV_self h1 h2]
  obtain ⟨q, e⟩ := o
  cases e with
  | false =>
    refine ⟨fun h => (by cases h), fun h => (by cases h), fun h => (by simp at h), fun _ _ => ?_⟩
    by_cases k1 : g > 0 <;> by_cases k2 : g ∈ l <;> simp [k1, k2]
  | true =>
    obtain ⟨e1, e2, e3⟩ := ho rfl
    simp only at e1
    subst e1
    have e4 : q ≠ 0 := by omega
    refine ⟨fun _ => ⟨rfl, fun _ => by simp⟩, fun _ => ⟨rfl, fun _ => by simp [e4]⟩, fun h => by simp [e4, e3] at h, fun _ _ => ?_⟩
    simp [e2, e3]
def con4 : Con := { ps := [.d false (.int .i64), .d false (.sl (.int .i64)), .d false (.int .i64), .d false (.int .i64), .d false (.sl (.int .i64))], rs := [.d false .bool], pre := fun _ => True, out := fun _ => (true, ()), nw := id }
theorem c4 : CtrOk Try.prog 4 con4.ctr :=
  con_sound (G := ⟨[(8, con8.ctr), (11, con11.ctr), (13, con13.ctr), (14, con14.ctr)], []⟩) tab_ok (EnvOk.cons c8 has8 (EnvOk.cons c11 has11 (EnvOk.cons c13 has13 (EnvOk.cons c14 has14 EnvOk.nil)))) rfl Try.func4 rfl con4 1180591695793456544799 (by kernel_rfl) (by decide) (by decide) rfl (by decide) rfl (by
    rintro ⟨(b : Int), (l : List Int), (f : Int), (v : Int), (r : List Int), _⟩ hpre hwf X hT hG hk hK
    (simp only [go_sem, Nat.reduceAdd, Nat.reduceMul, Nat.reduceSub, Nat.reduceEqDiff, Nat.reduceLT, Nat.reduceLeDiff, Nat.reduceShiftRight, Nat.reduceMod, Nat.reduceBEq, reduceCtorEq, reduceIte, reduceDIte, Int.reduceNeg, con4, con8, con11, con13, con14, hT, hG, hk, hK, Try.results4] at hwf ⊢); (try simp (disch := decide +kernel) only [drawn, true_and, and_true])
    have hg := goMod_bd b 41 (by omega)
    clear hwf hpre hT hG hk hK
    generalize goMod b 41 = g at hg ⊢
    generalize goMod f 4 = q
    intro _ hr
    refine ⟨fun h => by simp; omega, fun _ _ _ => ⟨?_, ?_⟩⟩
    · intro _ _
      refine single_fin hg.1 hg.2 (fun h => ?_)
      obtain ⟨rfl, e1, e2, _, e3⟩ := openV_yes h
      exact ⟨e3, by omega, e2⟩
    · intro _
      refine ⟨fun _ _ => single_fin hg.1 hg.2 (fun h => ?_), fun _ => ⟨fun _ _ => single_fin hg.1 hg.2 (fun h => ?_), fun _ _ => single_fin hg.1 hg.2 (fun h => ?_)⟩⟩
      · obtain ⟨rfl, e1, e2, _, e3⟩ := openV_yes h
        exact ⟨e3, by omega, e2⟩
      · obtain ⟨_, e1, _, e2, e3⟩ := openV_yes h
        exact ⟨e3, by omega, e2⟩
      · obtain ⟨_, e1, e2, _, e3⟩ := openV_yes h
        exact ⟨e3, by omega, e2⟩)
end Go.Proofs.Ythbcniifeeoplaa
