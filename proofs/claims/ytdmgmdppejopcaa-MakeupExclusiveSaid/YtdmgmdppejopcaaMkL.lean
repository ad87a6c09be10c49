/- The law: the peak. -/
import Derived.Test.YtdmgmdppejopcaaMkK
set_option linter.unusedSimpArgs false
set_option linter.unusedVariables false
set_option maxRecDepth 100000
set_option maxHeartbeats 4000000
namespace Go.Proofs.Ytdmgmdppejopcaa
open Go.Ev

theorem schedL_len : ∀ (n : Nat) (s : Src) (k : Int), (schedL n s k).1.length ≤ n
  | 0, _, _ => Nat.le_refl _
  | n + 1, s, k => by
    unfold schedL
    split
    · split
      · exact Nat.zero_le _
      · exact Nat.succ_le_succ (schedL_len n _ _)
    · exact Nat.zero_le _
theorem schedV_len (s : Src) (n : Int) (h : 0 ≤ n) : ((schedV s n).1.length : Int) ≤ n := by
  have h1 := schedL_len (goMod s.raw (n + 1)).toNat s.step 0
  have h2 := goMod_bd s.raw (n + 1) (by omega)
  unfold schedV
  omega
theorem pk_facts (e : List Dep) : 0 ≤ (peakV e).2 ∧ ((peakV e).2 = 0 → (peakV e).1 = 0) ∧ (peakV e).2 ≤ (openV e (peakV e).1).length ∧ (∀ x, ((openV e x).length : Int) ≤ (peakV e).2) ∧ (∀ x, ((openV e x).length : Int) = (peakV e).2 → 0 < (peakV e).2 → (peakV e).1 ≤ x) := by
  have h := peakV_is e
  simp only [openV_cnt]
  generalize peakV e = p at h ⊢
  unfold IsPk at h
  rcases h with ⟨h1, h2, h3⟩ | ⟨h1, h2, h3⟩
  · have := h3 p.1
    exact ⟨by omega, fun _ => h2, by omega, fun x => by rw [h3 x]; omega, fun x _ h => by omega⟩
  · exact ⟨by omega, fun h => by omega, by omega, fun x => (h3 x).1, fun x k _ => (h3 x).2 k⟩
def con3 : Con := { ps := [.d false (.sl (.pair (.pair .str (.pair (.int .i64) (.pair .str (.int .i64)))) (.pair .str (.pair (.int .i64) (.pair (.int .i64) (.pair (.int .i64) (.pair (.int .i64) (.int .i64)))))))), .d false (.sl (.int .i64)), .d false (.int .i64)], rs := [.d false .bool], pre := fun _ => True, out := fun _ => (true, ()), nw := id }
theorem c3 : CtrOk Try.prog 3 con3.ctr :=
  con_sound (G := ⟨[(9, con9.ctr), (10, con10.ctr), (11, con11.ctr), (12, con12.ctr), (13, con13.ctr), (14, con14.ctr), (15, con15.ctr)], [], []⟩) tab_ok (EnvOk.cons c9 has9 (EnvOk.cons c10 has10 (EnvOk.cons c11 has11 (EnvOk.cons c12 has12 (EnvOk.cons c13 has13 (EnvOk.cons c14 has14 (EnvOk.cons c15 has15 EnvOk.nil))))))) rfl Try.func3 rfl con3 81134590174772181897797064261319 (by kernel_rfl) (by decide) (by decide) rfl (by decide) rfl (by
    rintro ⟨(l : List Dep), (ns : List Int), (x : Int), _⟩ hpre hwf X hT hG hk hK
    have hs := schedV_len (ns.take 2000, 0) 14 (by omega)
    have h30 : (l.take 30).length ≤ 30 := by rw [List.length_take]; omega
    (simp only [go_sem, Prod.eta, Option.isSome_none, Option.isSome_some, Int.toNat_zero, Nat.reduceAdd, Nat.reduceMul, Nat.reduceSub, Nat.reduceEqDiff, Nat.reduceLT, Nat.reduceLeDiff, Nat.reduceShiftRight, Nat.reduceMod, Nat.reduceBEq, reduceCtorEq, reduceIte, reduceDIte, Int.reduceNeg, Bool.not_eq_true', Bool.not_eq_false', Bool.or_eq_true, Bool.or_eq_false_iff, Bool.and_eq_true, Bool.and_eq_false_iff, decide_eq_true_eq, decide_eq_false_iff_not, Classical.not_not, not_or, maxLen, con3, con9, con10, con11, con12, con13, con14, con15, hT, hG, hk, hK, Try.results3] at hwf ⊢); (try simp (disch := decide +kernel) only [drawn, true_and, and_true])
    (repeat' (with_reducible (first | refine And.intro ?_ ?_ | intro _))) <;> (try (first | with_reducible (first | done | assumption | omega | contradiction) | decide))
    generalize hxs : [l.take 30, (schedV (ns.take 2000, 0) 14).1] = xs
    have hx2 : xs.length = 2 := by rw [← hxs]; rfl
    have hxl : ∀ e ∈ xs, e.length ≤ 1000 := by
      intro e he
      rw [← hxs] at he
      simp only [List.mem_cons, List.not_mem_nil, or_false] at he
      rcases he with rfl | rfl <;> omega
    refine evk_loop ⟨{ i : Nat // i ≤ 2 }, 1000,
      fun q => [(2, .one (.int .i64 x)), (22, .one (.row 64)), (23, .one (.int .i64 2)), (24, .one (.int .i64 q.1))],
      fun q => [(64, .row 22 (.sl (.pair (.pair .str (.pair (.int .i64) (.pair .str (.int .i64)))) (.pair .str (.pair (.int .i64) (.pair (.int .i64) (.pair (.int .i64) (.pair (.int .i64) (.int .i64)))))))) xs)], fun q => 2 - q.1⟩ ⟨0, by omega⟩ ?_ ?_
    · simp only [go_sem, Prod.eta, Option.isSome_none, Option.isSome_some, Int.toNat_zero, Nat.reduceAdd, Nat.reduceMul, Nat.reduceSub, Nat.reduceEqDiff, Nat.reduceLT, Nat.reduceLeDiff, Nat.reduceShiftRight, Nat.reduceMod, Nat.reduceBEq, reduceCtorEq, reduceIte, reduceDIte, Int.reduceNeg]
      exact ⟨rfl, rfl⟩
    · rintro ⟨i, (hi : i ≤ 2)⟩
      (simp only [go_sem, Prod.eta, Option.isSome_none, Option.isSome_some, Int.toNat_zero, Nat.reduceAdd, Nat.reduceMul, Nat.reduceSub, Nat.reduceEqDiff, Nat.reduceLT, Nat.reduceLeDiff, Nat.reduceShiftRight, Nat.reduceMod, Nat.reduceBEq, reduceCtorEq, reduceIte, reduceDIte, Int.reduceNeg, Bool.not_eq_true', Bool.not_eq_false', Bool.or_eq_true, Bool.or_eq_false_iff, Bool.and_eq_true, Bool.and_eq_false_iff, decide_eq_true_eq, decide_eq_false_iff_not, Classical.not_not, not_or, maxLen, con3, con9, con10, con11, con12, con13, con14, con15, hT, hG, hk, hK, Try.results3]); (try simp (disch := decide +kernel) only [drawn, true_and, and_true])
      intro hlt
      · have hi' : i < xs.length := by omega
        have ek : ∀ z, xs.getD (i : Int).toNat z = xs[i] := fun z => by simp [hi']
        simp only [ek]
        have hel := hxl _ (List.getElem_mem hi')
        generalize xs[i] = e at hel ⊢
        obtain ⟨p1, p2, p3, p4, p5⟩ := pk_facts e
        have p6 := p4 x
        generalize ht : (peakV e).1 = t at *
        generalize hn : (peakV e).2 = n at *
        (repeat' (with_reducible (first | refine And.intro ?_ ?_ | intro _))) <;> (try (first | with_reducible (first | done | assumption | omega | contradiction) | decide))
        refine evk_loop ⟨{ j : Nat // j ≤ e.length }, 2000,
          fun q => [(2, .one (.int .i64 x)), (9, .one (.sl (.pair (.pair .str (.pair (.int .i64) (.pair .str (.int .i64)))) (.pair .str (.pair (.int .i64) (.pair (.int .i64) (.pair (.int .i64) (.pair (.int .i64) (.int .i64))))))) e false)), (10, .one (.int .i64 t)), (11, .one (.int .i64 n)), (22, .one (.row 64)), (23, .one (.int .i64 2)), (24, .one (.int .i64 i)), (60, .one (.int .i64 e.length)), (61, .one (.int .i64 q.1))],
          fun q => [(64, .row 22 (.sl (.pair (.pair .str (.pair (.int .i64) (.pair .str (.int .i64)))) (.pair .str (.pair (.int .i64) (.pair (.int .i64) (.pair (.int .i64) (.pair (.int .i64) (.int .i64)))))))) xs)], fun q => e.length - q.1⟩ ⟨0, by omega⟩ ?_ ?_
        · simp only [go_sem, Prod.eta, Option.isSome_none, Option.isSome_some, Int.toNat_zero, Nat.reduceAdd, Nat.reduceMul, Nat.reduceSub, Nat.reduceEqDiff, Nat.reduceLT, Nat.reduceLeDiff, Nat.reduceShiftRight, Nat.reduceMod, Nat.reduceBEq, reduceCtorEq, reduceIte, reduceDIte, Int.reduceNeg]
          rfl
        · rintro ⟨j, (hj : j ≤ e.length)⟩
          (simp only [go_sem, Prod.eta, Option.isSome_none, Option.isSome_some, Int.toNat_zero, Nat.reduceAdd, Nat.reduceMul, Nat.reduceSub, Nat.reduceEqDiff, Nat.reduceLT, Nat.reduceLeDiff, Nat.reduceShiftRight, Nat.reduceMod, Nat.reduceBEq, reduceCtorEq, reduceIte, reduceDIte, Int.reduceNeg, Bool.not_eq_true', Bool.not_eq_false', Bool.or_eq_true, Bool.or_eq_false_iff, Bool.and_eq_true, Bool.and_eq_false_iff, decide_eq_true_eq, decide_eq_false_iff_not, Classical.not_not, not_or, maxLen, con3, con9, con10, con11, con12, con13, con14, con15, hT, hG, hk, hK, Try.results3]); (try simp (disch := decide +kernel) only [drawn, true_and, and_true])
          refine ⟨fun hlt2 => ?_, fun hge2 => ?_⟩
          · have hj' : j < e.length := by omega
            have ek2 : ∀ z, e.getD (j : Int).toNat z = e[j] := fun z => by simp [hj']
            simp only [ek2]
            have q4 := p4 (e[j].2.2.1)
            have q5 := p5 (e[j].2.2.1)
            (repeat' (with_reducible (first | refine And.intro ?_ ?_ | intro _))) <;> (try (first | with_reducible (first | done | assumption | omega | contradiction) | decide))
            refine fin_lp ⟨j + 1, by omega⟩ (by simp only [go_sem, Prod.eta, Option.isSome_none, Option.isSome_some, Int.toNat_zero, Nat.reduceAdd, Nat.reduceMul, Nat.reduceSub, Nat.reduceEqDiff, Nat.reduceLT, Nat.reduceLeDiff, Nat.reduceShiftRight, Nat.reduceMod, Nat.reduceBEq, reduceCtorEq, reduceIte, reduceDIte, Int.reduceNeg]; first | rfl | ((repeat' apply And.intro) <;> first | rfl | assumption | omega)) (by dsimp only; omega)
          · (repeat' (with_reducible (first | refine And.intro ?_ ?_ | intro _))) <;> (try (first | with_reducible (first | done | assumption | omega | contradiction) | decide))
            refine fin_lp ⟨i + 1, by omega⟩ (by simp only [go_sem, Prod.eta, Option.isSome_none, Option.isSome_some, Int.toNat_zero, Nat.reduceAdd, Nat.reduceMul, Nat.reduceSub, Nat.reduceEqDiff, Nat.reduceLT, Nat.reduceLeDiff, Nat.reduceShiftRight, Nat.reduceMod, Nat.reduceBEq, reduceCtorEq, reduceIte, reduceDIte, Int.reduceNeg]; first | rfl | ((repeat' apply And.intro) <;> first | rfl | assumption | omega)) (by dsimp only; omega))
end Go.Proofs.Ytdmgmdppejopcaa
