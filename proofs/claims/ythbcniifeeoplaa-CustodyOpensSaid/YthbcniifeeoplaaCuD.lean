/- The contracts of the functions that the statements about custody reach: the law of openings. -/
import Derived.Test.YthbcniifeeoplaaCuC
set_option linter.unusedSimpArgs false
set_option linter.unusedVariables false
set_option maxRecDepth 100000
set_option maxHeartbeats 4000000
namespace Go.Proofs.Ythbcniifeeoplaa
open Go.Ev

def con3 : Con := { ps := [.d true (.pair (.int .i64) (.pair (.int .i64) (.pair (.sl (.int .i64)) (.sl (.int .i64))))), .d false (.sl (.int .i64))], rs := [.d false .bool], pre := fun _ => True, out := fun _ => (true, ()), nw := id }
theorem c3 : CtrOk Try.prog 3 con3.ctr :=
  con_sound (G := ⟨[(8, con8.ctr), (9, con9.ctr), (10, con10.ctr), (11, con11.ctr), (12, con12.ctr)], []⟩) tab_ok (EnvOk.cons c8 has8 (EnvOk.cons c9 has9 (EnvOk.cons c10 has10 (EnvOk.cons c11 has11 (EnvOk.cons c12 has12 EnvOk.nil))))) rfl Try.func3 rfl con3 151115997667840657211127 (by kernel_rfl) (by decide) (by decide) rfl (by decide) rfl (by
    rintro ⟨⟨(a : Int), (b : Int), (c : List Int), (d : List Int)⟩, (r : List Int), _⟩ hpre hwf X hT hG hk hK
    (simp only [go_sem, Nat.reduceAdd, Nat.reduceMul, Nat.reduceSub, Nat.reduceEqDiff, Nat.reduceLT, Nat.reduceLeDiff, Nat.reduceShiftRight, Nat.reduceMod, Nat.reduceBEq, reduceCtorEq, reduceIte, reduceDIte, Int.reduceNeg, con3, con8, con9, con10, con11, con12, hT, hG, hk, hK, Try.results3] at hwf ⊢); (try simp (disch := decide +kernel) only [drawn, true_and, and_true])
    have stp : ∀ s : Src, 0 ≤ s.2 → 0 ≤ (Src.step s).2 := fun s h => by unfold Src.step; split; exact h; exact Int.le_trans h (by simp only; omega)
    intro _ _
    refine ⟨fun h => by simpa using h, fun _ _ => ⟨Int.le_refl 0, fun _ => ?_⟩⟩
    generalize e1 : Src.step (List.take 2000 r, 0) = s1
    have h1 : 0 ≤ s1.2 := by rw [← e1]; exact stp _ (Int.le_refl 0)
    generalize goMod (Src.raw (List.take 2000 r, 0)) 4 = A
    refine ⟨h1, fun _ => ?_⟩
    generalize e2 : Src.step (s1.1, s1.2) = s2
    have h2 : 0 ≤ s2.2 := by rw [← e2]; exact stp _ h1
    generalize goMod (Src.raw (s1.1, s1.2)) 4 = B
    refine ⟨h2, fun _ => ?_⟩
    generalize e3 : Src.step (s2.1, s2.2) = s3
    have h3 : 0 ≤ s3.2 := by rw [← e3]; exact stp _ h2
    have hn := goMod_bd (Src.raw (s2.1, s2.2)) 4 (by omega)
    generalize goMod (Src.raw (s2.1, s2.2)) 4 = n at hn ⊢
    refine evk_loop ⟨{ q : Src × List Int × List Int × Int // 0 ≤ q.1.2 ∧ 0 ≤ q.2.2.2 ∧ q.2.1.length + q.2.2.2 ≤ 3 ∧ q.2.2.1.length + q.2.2.2 ≤ 3 }, 1000,
      fun q => [(1, .one (.sl (.int .i64) r false)), (2, .one (.loc 32 0)), (5, .one (.loc 64 0)), (6, .one (.loc 96 0)), (7, .one (.int .i64 q.1.2.2.2))],
      fun q => [(32, .cells 24 [.int .i64 a, .int .i64 b, .sl (.int .i64) c false, .sl (.int .i64) d false]), (64, .cells 58 [.sl (.int .i64) q.1.1.1 false, .int .i64 q.1.1.2]), (96, .cells 24 [.int .i64 A, .int .i64 B, .row 128, .row 129]), (128, .row 3 (.int .i64) q.1.2.1), (129, .row 3 (.int .i64) q.1.2.2.1)],
      fun q => q.1.2.2.2.toNat⟩ ⟨(s3, [], [], n), h3, hn.1, by simp; omega, by simp; omega⟩ ?_ ?_
    · simp only [go_sem, Nat.reduceAdd, Nat.reduceMul, Nat.reduceSub, Nat.reduceEqDiff, Nat.reduceLT, Nat.reduceLeDiff, Nat.reduceShiftRight, Nat.reduceMod, Nat.reduceBEq, reduceCtorEq, reduceIte, reduceDIte, Int.reduceNeg]
    · rintro ⟨⟨⟨l, p⟩, xs, ys, n⟩, hp, hn0, hx, hy⟩
      (simp only [go_sem, Nat.reduceAdd, Nat.reduceMul, Nat.reduceSub, Nat.reduceEqDiff, Nat.reduceLT, Nat.reduceLeDiff, Nat.reduceShiftRight, Nat.reduceMod, Nat.reduceBEq, reduceCtorEq, reduceIte, reduceDIte, Int.reduceNeg, con3, con8, con9, con10, con11, con12, hT, hG, hk, hK, Try.results3]); (try simp (disch := decide +kernel) only [drawn, true_and, and_true])
      have hp' : 0 ≤ p := hp
      have hn0' : 0 ≤ n := hn0
      have hx' : (xs.length : Int) + n ≤ 3 := hx
      have hy' : (ys.length : Int) + n ≤ 3 := hy
      refine ⟨fun hpos => ⟨hp', fun _ => ⟨by omega, stp _ hp', fun _ => ⟨by omega, ⟨by omega, by omega⟩, fin_lp ⟨(Src.step (Src.step (l, p)), xs ++ [goMod (Src.raw (l, p)) 4], ys ++ [goMod (Src.raw (Src.step (l, p))) 4], n - 1), stp _ (stp _ hp'), ?_, ?_, ?_⟩ ?_ ?_⟩⟩⟩, fun hneg _ => ?_⟩
      · show 0 ≤ n - 1
        omega
      · show ((xs ++ [_]).length : Int) + (n - 1) ≤ 3
        rw [List.length_append]; simp only [List.length_cons, List.length_nil]; omega
      · show ((ys ++ [_]).length : Int) + (n - 1) ≤ 3
        rw [List.length_append]; simp only [List.length_cons, List.length_nil]; omega
      · simp only [go_sem, Nat.reduceAdd, Nat.reduceMul, Nat.reduceSub, Nat.reduceEqDiff, Nat.reduceLT, Nat.reduceLeDiff, Nat.reduceShiftRight, Nat.reduceMod, Nat.reduceBEq, reduceCtorEq, reduceIte, reduceDIte, Int.reduceNeg]
      · show (n - 1).toNat < n.toNat
        omega
      · refine evk_loop ⟨{ i : Nat // i ≤ 2 }, 1000, fun i => [(54, .one (.row 64)), (55, .one (.int .i64 2)), (56, .one (.int .i64 i.1))],
          fun i => [(64, .row 24 (.pair (.int .i64) (.pair (.int .i64) (.pair (.sl (.int .i64)) (.sl (.int .i64))))) [(a, b, c, d), (A, B, xs, ys)])], fun i => 2 - i.1⟩ ⟨0, by omega⟩ ?_ ?_
        · simp only [go_sem, Nat.reduceAdd, Nat.reduceMul, Nat.reduceSub, Nat.reduceEqDiff, Nat.reduceLT, Nat.reduceLeDiff, Nat.reduceShiftRight, Nat.reduceMod, Nat.reduceBEq, reduceCtorEq, reduceIte, reduceDIte, Int.reduceNeg]
          exact ⟨rfl, rfl⟩
        · rintro ⟨i, hi⟩
          (simp only [go_sem, Nat.reduceAdd, Nat.reduceMul, Nat.reduceSub, Nat.reduceEqDiff, Nat.reduceLT, Nat.reduceLeDiff, Nat.reduceShiftRight, Nat.reduceMod, Nat.reduceBEq, reduceCtorEq, reduceIte, reduceDIte, Int.reduceNeg, con3, con8, con9, con10, con11, con12, hT, hG, hk, hK, Try.results3]); (try simp (disch := decide +kernel) only [drawn, true_and, and_true])
          clear hwf hpre hT hG hk hK
          intro hlt
          refine ⟨⟨by omega, by omega⟩, fun _ => ⟨⟨by omega, by omega⟩, fun _ => ?_⟩⟩
          generalize openV _ = o
          refine fun _ _ => ⟨⟨by omega, by omega⟩, fin_lp ⟨i + 1, by omega⟩ ?_ ?_⟩
          · simp only [go_sem, Nat.reduceAdd, Nat.reduceMul, Nat.reduceSub, Nat.reduceEqDiff, Nat.reduceLT, Nat.reduceLeDiff, Nat.reduceShiftRight, Nat.reduceMod, Nat.reduceBEq, reduceCtorEq, reduceIte, reduceDIte, Int.reduceNeg]
            omega
          · show 2 - (i + 1) < 2 - i
            omega)
end Go.Proofs.Ythbcniifeeoplaa
