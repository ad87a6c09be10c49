/- The law: Check accepts what Plan returns. -/
import Derived.Test.YtdmgmdppejopcaaMkR
set_option linter.unusedSimpArgs false
set_option linter.unusedVariables false
set_option maxRecDepth 100000
set_option maxHeartbeats 4000000
namespace Go.Proofs.Ytdmgmdppejopcaa
open Go.Ev

theorem chL_pos : ∀ (n : Nat) (s : Src) (c : Int), 0 ≤ s.2 → 0 ≤ (chL n s c).2.2
  | 0, _, _, h => h
  | n + 1, s, c, h => chL_pos n s.step _ (Src.step_pos s h)
theorem chutesV_pos (s : Src) (n : Int) (h : 0 ≤ s.2) : 0 ≤ (chutesV s n).2.2 := chL_pos _ _ _ (Src.step_pos s h)
def con7 : Con := { ps := [.d false (.sl (.int .i64))], rs := [.d false .bool], pre := fun _ => True, out := fun _ => (true, ()), nw := id }
theorem c7 : CtrOk Try.prog 7 con7.ctr :=
  con_sound (G := ⟨[(9, con9.ctr), (11, con11.ctr), (15, con15.ctr), (16, con16.ctr), (18, con18.ctr), (19, con19.ctr), (25, con25.ctr)], [], []⟩) tab_ok (EnvOk.cons c9 has9 (EnvOk.cons c11 has11 (EnvOk.cons c15 has15 (EnvOk.cons c16 has16 (EnvOk.cons c18 has18 (EnvOk.cons c19 has19 (EnvOk.cons c25 has25 EnvOk.nil))))))) rfl Try.func7 rfl con7 2203318227453 (by kernel_rfl) (by decide) (by decide) rfl (by decide) rfl (by
    rintro ⟨(ns : List Int), _⟩ hpre hwf X hT hG hk hK
    (simp only [go_sem, Prod.eta, Option.isSome_none, Option.isSome_some, Int.toNat_zero, Nat.reduceAdd, Nat.reduceMul, Nat.reduceSub, Nat.reduceEqDiff, Nat.reduceLT, Nat.reduceLeDiff, Nat.reduceShiftRight, Nat.reduceMod, Nat.reduceBEq, reduceCtorEq, reduceIte, reduceDIte, Int.reduceNeg, Bool.not_eq_true', Bool.not_eq_false', Bool.or_eq_true, Bool.or_eq_false_iff, Bool.and_eq_true, Bool.and_eq_false_iff, decide_eq_true_eq, decide_eq_false_iff_not, Classical.not_not, not_or, maxLen, con7, con9, con11, con15, con16, con18, con19, con25, hT, hG, hk, hK, Try.results7] at hwf ⊢); (try simp (disch := decide +kernel) only [drawn, true_and, and_true])
    refine fun _ => evk_loop ⟨{ q : Src × Nat // 0 ≤ q.1.2 ∧ q.2 ≤ 3 }, 1000,
      fun q => [(3, .one (.loc 80 0)), (4, .one (.int .i64 q.1.2))],
      fun q => [(80, .cells 61 [.sl (.int .i64) q.1.1.1 false, .int .i64 q.1.1.2])], fun q => 3 - q.1.2⟩ ⟨((ns.take 2000, 0), 0), Int.le_refl 0, by simp⟩ ?_ ?_
    · simp only [go_sem, Prod.eta, Option.isSome_none, Option.isSome_some, Int.toNat_zero, Nat.reduceAdd, Nat.reduceMul, Nat.reduceSub, Nat.reduceEqDiff, Nat.reduceLT, Nat.reduceLeDiff, Nat.reduceShiftRight, Nat.reduceMod, Nat.reduceBEq, reduceCtorEq, reduceIte, reduceDIte, Int.reduceNeg]
      first
        | rfl
        | skip
    · rintro ⟨⟨⟨ql, qa⟩, i⟩, (c1 : 0 ≤ qa), (c2 : i ≤ 3)⟩
      (simp only [go_sem, Prod.eta, Option.isSome_none, Option.isSome_some, Int.toNat_zero, Nat.reduceAdd, Nat.reduceMul, Nat.reduceSub, Nat.reduceEqDiff, Nat.reduceLT, Nat.reduceLeDiff, Nat.reduceShiftRight, Nat.reduceMod, Nat.reduceBEq, reduceCtorEq, reduceIte, reduceDIte, Int.reduceNeg, Bool.not_eq_true', Bool.not_eq_false', Bool.or_eq_true, Bool.or_eq_false_iff, Bool.and_eq_true, Bool.and_eq_false_iff, decide_eq_true_eq, decide_eq_false_iff_not, Classical.not_not, not_or, maxLen, con7, con9, con11, con15, con16, con18, con19, con25, hT, hG, hk, hK, Try.results7]); (try simp (disch := decide +kernel) only [drawn, true_and, and_true])
      intro hlt
      have hsl := schedV_len (ql, qa) 16 (by omega)
      have hsv := sched_validate (ql, qa) 16 (by omega) (by omega)
      have hsp := schedV_pos (ql, qa) 16 c1
      generalize (schedV (ql, qa) 16).1 = l at hsl hsv ⊢
      generalize (schedV (ql, qa) 16).2 = s0 at hsp ⊢
      have es : (s0.1, s0.2) = s0 := rfl
      have hch := chutes_ok s0 6 (by omega)
      have hcp := chutesV_pos s0 6 hsp
      generalize (chutesV s0 6).1 = cs at hch ⊢
      generalize (chutesV s0 6).2 = s1 at hcp ⊢
      obtain ⟨hc1, hc2, hc3⟩ := hch
      have hpe := planV_len l
      have hall : cs.all (fun c => decide (0 ≤ c)) = true := by
        rw [List.all_eq_true]
        intro c hc
        have := hc2 c hc
        exact decide_eq_true (by omega)
      have hargs := args_of (l := l) (cs := cs) hsv (by omega) (by omega) hall hc3
      obtain ⟨A1, A2⟩ := planO_ok hargs
      have hsound := sound hargs
      have hpl : (planO l cs).1.1.length ≤ 1048576 := by
        rcases A2 with ⟨_, h, _⟩ | ⟨_, _, _, _, h⟩
        · rw [h]; simp
        · omega
      clear A2
      (repeat' (with_reducible (first | refine And.intro ?_ ?_ | intro _))) <;> (try (first | with_reducible (first | done | assumption | omega | contradiction) | decide))
      refine fin_lp ⟨(s1, i + 1), hcp, by dsimp only; omega⟩ (by simp only [go_sem, Prod.eta, Option.isSome_none, Option.isSome_some, Int.toNat_zero, Nat.reduceAdd, Nat.reduceMul, Nat.reduceSub, Nat.reduceEqDiff, Nat.reduceLT, Nat.reduceLeDiff, Nat.reduceShiftRight, Nat.reduceMod, Nat.reduceBEq, reduceCtorEq, reduceIte, reduceDIte, Int.reduceNeg]; first | rfl | ((repeat' apply And.intro) <;> first | rfl | assumption | omega)) (by dsimp only; omega))
end Go.Proofs.Ytdmgmdppejopcaa
