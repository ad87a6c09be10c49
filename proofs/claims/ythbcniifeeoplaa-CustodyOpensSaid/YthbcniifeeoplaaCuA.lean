/- The contracts of the functions that the statements about custody reach: reading numbers, sets, gates. -/
import Derived.Test.YthbcniifeeoplaaCuTab
set_option linter.unusedSimpArgs false
set_option linter.unusedVariables false
set_option maxRecDepth 100000
set_option maxHeartbeats 4000000
namespace Go.Proofs.Ythbcniifeeoplaa
open Go.Ev

theorem has3 : FnHas Try.prog 3 := ⟨⟨_, Try.func3, by kernel_rfl, by kernel_rfl⟩⟩
theorem has4 : FnHas Try.prog 4 := ⟨⟨_, Try.func4, by kernel_rfl, by kernel_rfl⟩⟩
theorem has8 : FnHas Try.prog 8 := ⟨⟨_, Try.func8, by kernel_rfl, by kernel_rfl⟩⟩
theorem has9 : FnHas Try.prog 9 := ⟨⟨_, Try.func9, by kernel_rfl, by kernel_rfl⟩⟩
theorem has10 : FnHas Try.prog 10 := ⟨⟨_, Try.func10, by kernel_rfl, by kernel_rfl⟩⟩
theorem has11 : FnHas Try.prog 11 := ⟨⟨_, Try.func11, by kernel_rfl, by kernel_rfl⟩⟩
theorem has12 : FnHas Try.prog 12 := ⟨⟨_, Try.func12, by kernel_rfl, by kernel_rfl⟩⟩
theorem has13 : FnHas Try.prog 13 := ⟨⟨_, Try.func13, by kernel_rfl, by kernel_rfl⟩⟩
theorem has14 : FnHas Try.prog 14 := ⟨⟨_, Try.func14, by kernel_rfl, by kernel_rfl⟩⟩
theorem has15 : FnHas Try.prog 15 := ⟨⟨_, Try.func15, by kernel_rfl, by kernel_rfl⟩⟩
theorem has16 : FnHas Try.prog 16 := ⟨⟨_, Try.func16, by kernel_rfl, by kernel_rfl⟩⟩
theorem has17 : FnHas Try.prog 17 := ⟨⟨_, Try.func17, by kernel_rfl, by kernel_rfl⟩⟩
theorem has23 : FnHas Try.prog 23 := ⟨⟨_, Try.func23, by kernel_rfl, by kernel_rfl⟩⟩
theorem has29 : FnHas Try.prog 29 := ⟨⟨_, Try.func29, by kernel_rfl, by kernel_rfl⟩⟩
theorem has30 : FnHas Try.prog 30 := ⟨⟨_, Try.func30, by kernel_rfl, by kernel_rfl⟩⟩
theorem has31 : FnHas Try.prog 31 := ⟨⟨_, Try.func31, by kernel_rfl, by kernel_rfl⟩⟩
theorem has32 : FnHas Try.prog 32 := ⟨⟨_, Try.func32, by kernel_rfl, by kernel_rfl⟩⟩
theorem has33 : FnHas Try.prog 33 := ⟨⟨_, Try.func33, by kernel_rfl, by kernel_rfl⟩⟩
theorem has39 : FnHas Try.prog 39 := ⟨⟨_, Try.func39, by kernel_rfl, by kernel_rfl⟩⟩
theorem has47 : FnHas Try.prog 47 := ⟨⟨_, Try.func47, by kernel_rfl, by kernel_rfl⟩⟩
theorem has48 : FnHas Try.prog 48 := ⟨⟨_, Try.func48, by kernel_rfl, by kernel_rfl⟩⟩
theorem has40 : FnHas Try.prog 40 := ⟨⟨_, Try.func40, by kernel_rfl, by kernel_rfl⟩⟩
theorem has49 : FnHas Try.prog 49 := ⟨⟨_, Try.func49, by kernel_rfl, by kernel_rfl⟩⟩
theorem has62 : FnHas Try.prog 62 := ⟨⟨_, Try.func62, by kernel_rfl, by kernel_rfl⟩⟩


/-- Mod. -/
def goMod (x n : Int) : Int := if n < 1 then 0 else if x.tmod n < 0 then x.tmod n + n else x.tmod n
def con13 : Con := { ps := [.d false (.int .i64), .d false (.int .i64)], rs := [.d false (.int .i64)], pre := fun _ => True, out := fun x => (goMod x.1 x.2.1, ()), nw := id }
theorem tmod_bd (x n : Int) (h : 1 ≤ n) : -n < x.tmod n ∧ x.tmod n < n := by
  have h1 := Int.tmod_lt_of_pos x (show 0 < n by omega)
  have h2 := Int.lt_tmod_of_pos x (show 0 < n by omega)
  omega
theorem c13 : CtrOk Try.prog 13 con13.ctr :=
  con_sound (G := ⟨[], []⟩) tab_ok EnvOk.nil rfl Try.func13 rfl con13 2131 (by kernel_rfl) (by decide) (by decide) rfl (by decide) rfl (by
    rintro ⟨(x : Int), (n : Int), _⟩ hpre hwf X hT hG hk hK
    (simp only [go_sem, Nat.reduceAdd, Nat.reduceMul, Nat.reduceSub, Nat.reduceEqDiff, Nat.reduceLT, Nat.reduceLeDiff, Nat.reduceShiftRight, Nat.reduceMod, Nat.reduceBEq, reduceCtorEq, reduceIte, reduceDIte, Int.reduceNeg, con13, hT, hG, hk, hK, Try.results13] at hwf ⊢); (try simp (disch := decide +kernel) only [drawn, true_and, and_true])
    unfold goMod
    by_cases hn : n < 1
    · simp [hn]
    · have hb := tmod_bd x n (by omega)
      have hn0 : n ≠ 0 := by omega
      simp only [hn, if_false, not_false_eq_true, true_implies, false_implies, true_and]
      refine ⟨⟨hn0, by omega, by omega⟩, fun h => ⟨⟨by omega, by omega⟩, ?_⟩, fun h => ?_⟩
      · rw [if_pos h]
      · rw [if_neg h])

/-- In. -/
def con14 : Con := { ps := [.d false (.sl (.int .i64)), .d false (.int .i64)], rs := [.d false .bool], pre := fun _ => True, out := fun x => (decide (x.2.1 ∈ x.1), ()), nw := id }
theorem c14 : CtrOk Try.prog 14 con14.ctr :=
  con_sound (G := ⟨[], []⟩) tab_ok EnvOk.nil rfl Try.func14 rfl con14 131635 (by kernel_rfl) (by decide) (by decide) rfl (by decide) rfl (by
    rintro ⟨(l : List Int), (x : Int), _⟩ hpre hwf X hT hG hk hK
    (simp only [go_sem, Nat.reduceAdd, Nat.reduceMul, Nat.reduceSub, Nat.reduceEqDiff, Nat.reduceLT, Nat.reduceLeDiff, Nat.reduceShiftRight, Nat.reduceMod, Nat.reduceBEq, reduceCtorEq, reduceIte, reduceDIte, Int.reduceNeg, con14, hT, hG, hk, hK, Try.results14] at hwf ⊢); (try simp (disch := decide +kernel) only [drawn, true_and, and_true])
    refine evk_loop ⟨{ i : Nat // i ≤ l.length ∧ x ∉ l.take i }, 1000, fun i => [(0, .one (.sl (.int .i64) l false)), (1, .one (.int .i64 x)), (5, .one (.int .i64 i.1))], fun _ => [], fun i => l.length - i.1⟩ ⟨0, by simp⟩ ?_ ?_
    · simp only [go_sem, Nat.reduceAdd, Nat.reduceMul, Nat.reduceSub, Nat.reduceEqDiff, Nat.reduceLT, Nat.reduceLeDiff, Nat.reduceShiftRight, Nat.reduceMod, Nat.reduceBEq, reduceCtorEq, reduceIte, reduceDIte, Int.reduceNeg]
      rfl
    · rintro ⟨i, hi, hx⟩
      (simp only [go_sem, Nat.reduceAdd, Nat.reduceMul, Nat.reduceSub, Nat.reduceEqDiff, Nat.reduceLT, Nat.reduceLeDiff, Nat.reduceShiftRight, Nat.reduceMod, Nat.reduceBEq, reduceCtorEq, reduceIte, reduceDIte, Int.reduceNeg, con14, hT, hG, hk, hK, Try.results14]); (try simp (disch := decide +kernel) only [drawn, true_and, and_true])
      intro hl
      refine ⟨fun hlt => ⟨⟨by omega, hlt⟩, fun _ _ => ⟨fun he => ?_, fun he => ⟨by have := hwf.1.1; simp only [maxLen] at this; omega, ?_⟩⟩⟩, fun hge => ?_⟩
      · have : x ∈ l := by
          have hi' : i < l.length := by omega
          rw [← he]; simp [hi']
        simp [this]
      · refine fin_lp ⟨i + 1, by omega, ?_⟩ ?_ ?_
        · have hi' : i < l.length := by omega
          rw [List.take_succ_eq_append_getElem hi']
          simp [hi'] at he
          simp only [List.mem_append, List.mem_singleton, not_or]
          exact ⟨hx, fun h => he h.symm⟩
        · simp only [go_sem, Nat.reduceAdd, Nat.reduceMul, Nat.reduceSub, Nat.reduceEqDiff, Nat.reduceLT, Nat.reduceLeDiff, Nat.reduceShiftRight, Nat.reduceMod, Nat.reduceBEq, reduceCtorEq, reduceIte, reduceDIte, Int.reduceNeg]
          rfl
        · show l.length - (i + 1) < l.length - i
          omega
      · rw [List.take_of_length_le (by omega)] at hx
        simp [hx])
end Go.Proofs.Ythbcniifeeoplaa
