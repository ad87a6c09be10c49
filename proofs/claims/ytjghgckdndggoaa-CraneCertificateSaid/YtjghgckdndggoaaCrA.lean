/- The contracts of the functions that read numbers. -/
import Derived.Test.YtjghgckdndggoaaCrTab
set_option linter.unusedSimpArgs false
set_option linter.unusedVariables false
set_option maxRecDepth 100000
set_option maxHeartbeats 4000000
namespace Go.Proofs.Ytjghgckdndggoaa
open Go.Ev

theorem has3 : FnHas Try.prog 3 := ⟨⟨_, Try.func3, by kernel_rfl, by kernel_rfl⟩⟩
theorem has8 : FnHas Try.prog 8 := ⟨⟨_, Try.func8, by kernel_rfl, by kernel_rfl⟩⟩
theorem has9 : FnHas Try.prog 9 := ⟨⟨_, Try.func9, by kernel_rfl, by kernel_rfl⟩⟩
theorem has10 : FnHas Try.prog 10 := ⟨⟨_, Try.func10, by kernel_rfl, by kernel_rfl⟩⟩
theorem has11 : FnHas Try.prog 11 := ⟨⟨_, Try.func11, by kernel_rfl, by kernel_rfl⟩⟩
theorem has14 : FnHas Try.prog 14 := ⟨⟨_, Try.func14, by kernel_rfl, by kernel_rfl⟩⟩
theorem has21 : FnHas Try.prog 21 := ⟨⟨_, Try.func21, by kernel_rfl, by kernel_rfl⟩⟩
theorem has24 : FnHas Try.prog 24 := ⟨⟨_, Try.func24, by kernel_rfl, by kernel_rfl⟩⟩
theorem has25 : FnHas Try.prog 25 := ⟨⟨_, Try.func25, by kernel_rfl, by kernel_rfl⟩⟩
theorem has26 : FnHas Try.prog 26 := ⟨⟨_, Try.func26, by kernel_rfl, by kernel_rfl⟩⟩
theorem has27 : FnHas Try.prog 27 := ⟨⟨_, Try.func27, by kernel_rfl, by kernel_rfl⟩⟩
theorem has28 : FnHas Try.prog 28 := ⟨⟨_, Try.func28, by kernel_rfl, by kernel_rfl⟩⟩
theorem has29 : FnHas Try.prog 29 := ⟨⟨_, Try.func29, by kernel_rfl, by kernel_rfl⟩⟩
theorem has31 : FnHas Try.prog 31 := ⟨⟨_, Try.func31, by kernel_rfl, by kernel_rfl⟩⟩
theorem has35 : FnHas Try.prog 35 := ⟨⟨_, Try.func35, by kernel_rfl, by kernel_rfl⟩⟩
theorem has36 : FnHas Try.prog 36 := ⟨⟨_, Try.func36, by kernel_rfl, by kernel_rfl⟩⟩
theorem has37 : FnHas Try.prog 37 := ⟨⟨_, Try.func37, by kernel_rfl, by kernel_rfl⟩⟩
theorem has38 : FnHas Try.prog 38 := ⟨⟨_, Try.func38, by kernel_rfl, by kernel_rfl⟩⟩
theorem has41 : FnHas Try.prog 41 := ⟨⟨_, Try.func41, by kernel_rfl, by kernel_rfl⟩⟩
theorem has42 : FnHas Try.prog 42 := ⟨⟨_, Try.func42, by kernel_rfl, by kernel_rfl⟩⟩
theorem has45 : FnHas Try.prog 45 := ⟨⟨_, Try.func45, by kernel_rfl, by kernel_rfl⟩⟩
theorem has46 : FnHas Try.prog 46 := ⟨⟨_, Try.func46, by kernel_rfl, by kernel_rfl⟩⟩
theorem has15 : FnHas Try.prog 15 := ⟨⟨_, Try.func15, by kernel_rfl, by kernel_rfl⟩⟩


/-- Mod. -/
def goMod (x n : Int) : Int := if n < 1 then 0 else if x.tmod n < 0 then x.tmod n + n else x.tmod n
theorem tmod_bd (x n : Int) (h : 1 ≤ n) : -n < x.tmod n ∧ x.tmod n < n := by
  have h1 := Int.tmod_lt_of_pos x (show 0 < n by omega)
  have h2 := Int.lt_tmod_of_pos x (show 0 < n by omega)
  omega
theorem goMod_bd (x n : Int) (h : 1 ≤ n) : 0 ≤ goMod x n ∧ goMod x n < n := by
  have := tmod_bd x n h
  unfold goMod
  rw [if_neg (by omega)]
  split <;> omega
def con11 : Con := { ps := [.d false (.int .i64), .d false (.int .i64)], rs := [.d false (.int .i64)], pre := fun _ => True, out := fun x => (goMod x.1 x.2.1, ()), nw := id }
theorem c11 : CtrOk Try.prog 11 con11.ctr :=
  con_sound (G := ⟨[], [], []⟩) tab_ok EnvOk.nil rfl Try.func11 rfl con11 2131 (by kernel_rfl) (by decide) (by decide) rfl (by decide) rfl (by
    rintro ⟨(x : Int), (n : Int), _⟩ hpre hwf X hT hG hk hK
    (simp only [go_sem, Nat.reduceAdd, Nat.reduceMul, Nat.reduceSub, Nat.reduceEqDiff, Nat.reduceLT, Nat.reduceLeDiff, Nat.reduceShiftRight, Nat.reduceMod, Nat.reduceBEq, reduceCtorEq, reduceIte, reduceDIte, Int.reduceNeg, con11, hT, hG, hk, hK, Try.results11] at hwf ⊢); (try simp (disch := decide +kernel) only [drawn, true_and, and_true])
    unfold goMod
    by_cases hn : n < 1
    · simp [hn]
    · have hb := tmod_bd x n (by omega)
      have hn0 : n ≠ 0 := by omega
      simp only [hn, if_false, not_false_eq_true, true_implies, false_implies, true_and]
      refine ⟨⟨hn0, by omega, by omega⟩, fun h => ⟨⟨by omega, by omega⟩, ?_⟩, fun h => ?_⟩
      · rw [if_pos h]
      · rw [if_neg h])

abbrev Src := List Int × Int
def Src.raw (s : Src) : Int := if s.2 ≥ s.1.length then 0 else s.1.getD s.2.toNat 0
def Src.step (s : Src) : Src := if s.2 ≥ s.1.length then s else (s.1, s.2 + 1)
theorem Src.step_pos (s : Src) (h : 0 ≤ s.2) : 0 ≤ s.step.2 := by unfold Src.step; split; exact h; exact Int.le_trans h (by simp only; omega)
def con35 : Con := { ps := [.p 51 (.pair (.sl (.int .i64)) (.int .i64))], rs := [.d false (.int .i64)], pre := fun x => 0 ≤ x.1.2, out := fun x => (Src.raw x.1, ()), nw := fun x => (Src.step x.1, ()) }
theorem c35 : CtrOk Try.prog 35 con35.ctr :=
  con_sound (G := ⟨[], [], []⟩) tab_ok EnvOk.nil rfl Try.func35 rfl con35 4101 (by kernel_rfl) (by decide) (by decide) rfl (by decide) rfl (by
    rintro ⟨⟨(l : List Int), (a : Int)⟩, _⟩ hpre hwf X hT hG hk hK
    (simp only [go_sem, Nat.reduceAdd, Nat.reduceMul, Nat.reduceSub, Nat.reduceEqDiff, Nat.reduceLT, Nat.reduceLeDiff, Nat.reduceShiftRight, Nat.reduceMod, Nat.reduceBEq, reduceCtorEq, reduceIte, reduceDIte, Int.reduceNeg, con35, hT, hG, hk, hK, Try.results35] at hwf ⊢); (try simp (disch := decide +kernel) only [drawn, true_and, and_true])
    intro hl
    have hpre : 0 ≤ a := hpre
    have hl' := hl
    simp only [maxLen] at hl'
    unfold Src.step Src.raw
    refine ⟨fun h => ?_, fun h => ⟨⟨by omega, by omega⟩, ⟨by omega, by omega⟩, ⟨by omega, by omega⟩, fun _ _ => ?_⟩⟩
    · simp [show (a : Int) ≥ (l.length : Int) from h]
    · simp [show ¬ (a : Int) ≥ (l.length : Int) from h])

def con25 : Con := { ps := [.p 51 (.pair (.sl (.int .i64)) (.int .i64)), .d false (.int .i64)], rs := [.d false (.int .i64)], pre := fun x => 0 ≤ x.1.2, out := fun x => (goMod (Src.raw x.1) x.2.1, ()), nw := fun x => (Src.step x.1, x.2) }
theorem c25 : CtrOk Try.prog 25 con25.ctr :=
  con_sound (G := ⟨[(35, con35.ctr), (11, con11.ctr)], [], []⟩) tab_ok (EnvOk.cons c35 has35 (EnvOk.cons c11 has11 EnvOk.nil)) rfl Try.func25 rfl con25 19 (by kernel_rfl) (by decide) (by decide) rfl (by decide) rfl (by
    rintro ⟨⟨(l : List Int), (a : Int)⟩, (n : Int), _⟩ hpre hwf X hT hG hk hK
    (simp only [go_sem, Nat.reduceAdd, Nat.reduceMul, Nat.reduceSub, Nat.reduceEqDiff, Nat.reduceLT, Nat.reduceLeDiff, Nat.reduceShiftRight, Nat.reduceMod, Nat.reduceBEq, reduceCtorEq, reduceIte, reduceDIte, Int.reduceNeg, con25, con35, con11, hT, hG, hk, hK, Try.results25] at hwf ⊢); (try simp (disch := decide +kernel) only [drawn, true_and, and_true])
    exact hpre)

def con24 : Con := { ps := [.d false (.sl (.int .i64))], rs := [.p 51 (.pair (.sl (.int .i64)) (.int .i64))], pre := fun x => True, out := fun x => ((x.1.take 2000, 0), ()), nw := id }
theorem c24 : CtrOk Try.prog 24 con24.ctr :=
  con_sound (G := ⟨[], [], []⟩) tab_ok EnvOk.nil rfl Try.func24 rfl con24 37 (by kernel_rfl) (by decide) (by decide) rfl (by decide) rfl (by
    rintro ⟨(l : List Int), _⟩ hpre hwf X hT hG hk hK
    (simp only [go_sem, Nat.reduceAdd, Nat.reduceMul, Nat.reduceSub, Nat.reduceEqDiff, Nat.reduceLT, Nat.reduceLeDiff, Nat.reduceShiftRight, Nat.reduceMod, Nat.reduceBEq, reduceCtorEq, reduceIte, reduceDIte, Int.reduceNeg, con24, hT, hG, hk, hK, Try.results24] at hwf ⊢); (try simp (disch := decide +kernel) only [drawn, true_and, and_true])
    refine fun _ => ⟨fun h => ⟨⟨by omega, by omega, by omega⟩, rfl⟩, fun h => ?_⟩
    rw [List.take_of_length_le (by omega)])

def con26 : Con := { ps := [.p 51 (.pair (.sl (.int .i64)) (.int .i64)), .d false (.int .i64), .d false (.int .i64)], rs := [.d false (.int .i64)], pre := fun x => 0 ≤ x.1.2 ∧ -1000000 ≤ x.2.1 ∧ x.2.1 ≤ x.2.2.1 ∧ x.2.2.1 ≤ 1000000, out := fun x => (x.2.1 + goMod (Src.raw x.1) (x.2.2.1 - x.2.1 + 1), ()), nw := fun x => (Src.step x.1, x.2) }
theorem c26 : CtrOk Try.prog 26 con26.ctr :=
  con_sound (G := ⟨[(25, con25.ctr)], [], []⟩) tab_ok (EnvOk.cons c25 has25 EnvOk.nil) rfl Try.func26 rfl con26 71 (by kernel_rfl) (by decide) (by decide) rfl (by decide) rfl (by
    rintro ⟨⟨(l : List Int), (a : Int)⟩, (lo : Int), (hi : Int), _⟩ hpre hwf X hT hG hk hK
    (simp only [go_sem, Nat.reduceAdd, Nat.reduceMul, Nat.reduceSub, Nat.reduceEqDiff, Nat.reduceLT, Nat.reduceLeDiff, Nat.reduceShiftRight, Nat.reduceMod, Nat.reduceBEq, reduceCtorEq, reduceIte, reduceDIte, Int.reduceNeg, con26, con25, hT, hG, hk, hK, Try.results26] at hwf ⊢); (try simp (disch := decide +kernel) only [drawn, true_and, and_true])
    obtain ⟨h1, h2, h3, h4⟩ : 0 ≤ a ∧ -1000000 ≤ lo ∧ lo ≤ hi ∧ hi ≤ 1000000 := hpre
    have := goMod_bd (Src.raw (l, a)) (hi - lo + 1) (by omega)
    refine ⟨⟨by omega, by omega⟩, ⟨by omega, by omega⟩, h1, fun _ => ⟨by omega, by omega⟩⟩)
end Go.Proofs.Ytjghgckdndggoaa
