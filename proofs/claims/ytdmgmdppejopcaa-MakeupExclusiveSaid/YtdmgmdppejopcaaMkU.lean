/- The law: no plan and proof at once. -/
import Derived.Test.YtdmgmdppejopcaaMkT
import Derived.Test.YtdmgmdppejopcaaMkO
set_option linter.unusedSimpArgs false
set_option linter.unusedVariables false
set_option maxRecDepth 100000
set_option maxHeartbeats 4000000
namespace Go.Proofs.Ytdmgmdppejopcaa
open Go.Ev

theorem chL_asc : ∀ (n : Nat) (s : Src) (c : Int), (chL n s c).1.length = n ∧ (∀ x ∈ (chL n s c).1, c < x ∧ x ≤ c + 3 * n) ∧ ascI (c :: (chL n s c).1) = true
  | 0, _, _ => ⟨rfl, (by intro x h; cases h), rfl⟩
  | n + 1, s, c => by
    have b3 := goMod_bd s.raw 3 (by omega)
    obtain ⟨h1, h2, h3⟩ := chL_asc n s.step (c + (1 + goMod s.raw 3))
    unfold chL
    refine ⟨by rw [List.length_cons, h1], fun x hx => ?_, ?_⟩
    · rcases List.mem_cons.1 hx with rfl | hx
      · omega
      · have := h2 x hx; omega
    · show (decide (c < _) && ascI (_ :: _)) = true
      rw [decide_eq_true (by omega), h3]
      rfl
theorem chutes_ok (s : Src) (n : Int) (h : 0 ≤ n) : ((chutesV s n).1.length : Int) ≤ n ∧ (∀ x ∈ (chutesV s n).1, 0 < x ∧ x ≤ 3 * n) ∧ ascI (chutesV s n).1 = true := by
  have hb := goMod_bd s.raw (n + 1) (by omega)
  obtain ⟨h1, h2, h3⟩ := chL_asc (goMod s.raw (n + 1)).toNat s.step 0
  unfold chutesV
  refine ⟨by omega, fun x hx => by have := h2 x hx; omega, ?_⟩
  have := ascI_tail h3
  simpa using this
theorem chL_pos : ∀ (n : Nat) (s : Src) (c : Int), 0 ≤ s.2 → 0 ≤ (chL n s c).2.2
  | 0, _, _, h => h
  | n + 1, s, c, h => chL_pos n s.step _ (Src.step_pos s h)
theorem chutesV_pos (s : Src) (n : Int) (h : 0 ≤ s.2) : 0 ≤ (chutesV s n).2.2 := chL_pos _ _ _ (Src.step_pos s h)
def con8 : Con := { ps := [.d false (.sl (.int .i64)), .d false (.sl (.int .i64)), .d false (.sl (.int .i64)), .d false (.int .i64)], rs := [.d false .bool], pre := fun _ => True, out := fun _ => (true, ()), nw := id }
theorem c8 : CtrOk Try.prog 8 con8.ctr :=
  con_sound (G := ⟨[(9, con9.ctr), (11, con11.ctr), (13, con13.ctr), (14, con14.ctr), (15, con15.ctr), (16, con16.ctr), (17, con17.ctr), (19, con19.ctr), (20, con20.ctr), (25, con25.ctr)], [], []⟩) tab_ok (EnvOk.cons c9 has9 (EnvOk.cons c11 has11 (EnvOk.cons c13 has13 (EnvOk.cons c14 has14 (EnvOk.cons c15 has15 (EnvOk.cons c16 has16 (EnvOk.cons c17 has17 (EnvOk.cons c19 has19 (EnvOk.cons c20 has20 (EnvOk.cons c25 has25 EnvOk.nil)))))))))) rfl Try.func8 rfl con8 1361131901572906896516859145956317462287 (by kernel_rfl) (by decide) (by decide) rfl (by decide) rfl (by
    rintro ⟨(ns : List Int), (x1 : List Int), (x2 : List Int), (tm : Int), _⟩ hpre hwf X hT hG hk hK
    (simp only [go_sem, Prod.eta, Option.isSome_none, Option.isSome_some, Int.toNat_zero, Nat.reduceAdd, Nat.reduceMul, Nat.reduceSub, Nat.reduceEqDiff, Nat.reduceLT, Nat.reduceLeDiff, Nat.reduceShiftRight, Nat.reduceMod, Nat.reduceBEq, reduceCtorEq, reduceIte, reduceDIte, Int.reduceNeg, Bool.not_eq_true', Bool.not_eq_false', Bool.or_eq_true, Bool.or_eq_false_iff, Bool.and_eq_true, Bool.and_eq_false_iff, decide_eq_true_eq, decide_eq_false_iff_not, Classical.not_not, not_or, maxLen, con8, con9, con11, con13, con14, con15, con16, con17, con19, con20, con25, hT, hG, hk, hK, Try.results8] at hwf ⊢); (try simp (disch := decide +kernel) only [drawn, true_and, and_true])
    have hsl := schedV_len (ns.take 2000, 0) 12 (by omega)
    have hsv := sched_validate (ns.take 2000, 0) 12 (by omega) (by omega)
    have hsp := schedV_pos (ns.take 2000, 0) 12 (Int.le_refl 0)
    generalize (schedV (ns.take 2000, 0) 12).1 = l at hsl hsv ⊢
    generalize (schedV (ns.take 2000, 0) 12).2 = s0 at hsp ⊢
    have es : (s0.1, s0.2) = s0 := rfl
    have hch := chutes_ok s0 4 (by omega)
    have hcp := chutesV_pos s0 4 hsp
    generalize (chutesV s0 4).1 = cs at hch ⊢
    generalize (chutesV s0 4).2 = s1 at hcp ⊢
    obtain ⟨hc1, hc2, hc3⟩ := hch
    have hpe := planV_len l
    (repeat' (with_reducible (first | refine And.intro ?_ ?_ | intro _))) <;> (try (first | with_reducible (first | done | assumption | omega | contradiction) | decide))
    generalize hA : planV l = A at hpe ⊢
    refine evk_loop ⟨{ q : Nat × List All × List Flt // q.1 ≤ A.length ∧ q.2.1.length = q.1 ∧ q.2.2.length ≤ q.1 }, 1000,
      fun q => [(1, .one (.sl (.int .i64) x1 false)), (2, .one (.sl (.int .i64) x2 false)), (9, .one (.loc 80 0)), (10, .one (.sl (.pair (.pair .str (.pair (.int .i64) (.pair .str (.int .i64)))) (.pair .str (.pair (.int .i64) (.pair (.int .i64) (.pair (.int .i64) (.pair (.int .i64) (.int .i64))))))) l false)), (11, .one (.sl (.int .i64) cs false)), (12, .one (.row 66)), (13, .one (.loc 81 0)), (14, .one (.loc 82 0)), (33, .one (.int .i64 A.length)), (34, .one (.int .i64 q.1.1))],
      fun q => [(80, .cells 61 [.sl (.int .i64) s1.1 false, .int .i64 s1.2]), (66, .row 36 (.pair (.pair .str (.pair (.int .i64) (.pair .str (.int .i64)))) (.pair .str (.pair (.int .i64) (.pair (.int .i64) (.pair (.int .i64) (.pair (.int .i64) (.int .i64))))))) A), (81, .cells 42 [.row 71, .int .i64 0, .row 72]), (71, .row 53 (.pair (.pair .str (.pair (.int .i64) (.pair .str (.int .i64)))) (.int .i64)) q.1.2.1), (72, .row 34 (.pair .str (.pair (.int .i64) (.pair .str (.int .i64)))) []), (82, .cells 42 [.row 73, .int .i64 tm, .row 74]), (73, .row 53 (.pair (.pair .str (.pair (.int .i64) (.pair .str (.int .i64)))) (.int .i64)) []), (74, .row 34 (.pair .str (.pair (.int .i64) (.pair .str (.int .i64)))) q.1.2.2)],
      fun q => A.length - q.1.1⟩ ⟨(0, [], []), by simp, by simp, by simp⟩ ?_ ?_
    · simp only [go_sem, Prod.eta, Option.isSome_none, Option.isSome_some, Int.toNat_zero, Nat.reduceAdd, Nat.reduceMul, Nat.reduceSub, Nat.reduceEqDiff, Nat.reduceLT, Nat.reduceLeDiff, Nat.reduceShiftRight, Nat.reduceMod, Nat.reduceBEq, reduceCtorEq, reduceIte, reduceDIte, Int.reduceNeg]
      first
        | rfl
        | exact ⟨rfl, rfl⟩
        | skip
    · rintro ⟨⟨i, P, Q⟩, (c1 : i ≤ A.length), (c2 : P.length = i), (c3 : Q.length ≤ i)⟩
      (simp only [go_sem, Prod.eta, Option.isSome_none, Option.isSome_some, Int.toNat_zero, Nat.reduceAdd, Nat.reduceMul, Nat.reduceSub, Nat.reduceEqDiff, Nat.reduceLT, Nat.reduceLeDiff, Nat.reduceShiftRight, Nat.reduceMod, Nat.reduceBEq, reduceCtorEq, reduceIte, reduceDIte, Int.reduceNeg, Bool.not_eq_true', Bool.not_eq_false', Bool.or_eq_true, Bool.or_eq_false_iff, Bool.and_eq_true, Bool.and_eq_false_iff, decide_eq_true_eq, decide_eq_false_iff_not, Classical.not_not, not_or, maxLen, con8, con9, con11, con13, con14, con15, con16, con17, con19, con20, con25, hT, hG, hk, hK, Try.results8]); (try simp (disch := decide +kernel) only [drawn, true_and, and_true])
      refine ⟨fun hlt => ?_, fun hge => ?_⟩
      · have hi' : i < A.length := by omega
        have ek : ∀ z, A.getD (i : Int).toNat z = A[i] := fun z => by simp [hi']
        simp only [ek]
        have hgm := fun h => goMod_bd (x2.getD (i : Int).toNat 0) cs.length h
        (repeat' (with_reducible (first | refine And.intro ?_ ?_ | intro _))) <;> (try (first | with_reducible (first | done | assumption | omega | contradiction) | decide))
        · refine fin_lp ⟨(i + 1, P ++ [(A[i].1, cs.getD (goMod (x2.getD (i : Int).toNat 0) cs.length).toNat 0)], Q ++ [A[i].1]), by dsimp only; omega, by dsimp only; rw [List.length_append]; simp only [List.length_singleton]; omega, by dsimp only; rw [List.length_append]; simp only [List.length_singleton]; omega⟩ (by simp only [go_sem, Prod.eta, Option.isSome_none, Option.isSome_some, Int.toNat_zero, Nat.reduceAdd, Nat.reduceMul, Nat.reduceSub, Nat.reduceEqDiff, Nat.reduceLT, Nat.reduceLeDiff, Nat.reduceShiftRight, Nat.reduceMod, Nat.reduceBEq, reduceCtorEq, reduceIte, reduceDIte, Int.reduceNeg]; first | rfl | ((repeat' apply And.intro) <;> first | rfl | assumption | omega)) (by dsimp only; omega)
        · refine fin_lp ⟨(i + 1, P ++ [(A[i].1, cs.getD (goMod (x2.getD (i : Int).toNat 0) cs.length).toNat 0)], Q), by dsimp only; omega, by dsimp only; rw [List.length_append]; simp only [List.length_singleton]; omega, by dsimp only; omega⟩ (by simp only [go_sem, Prod.eta, Option.isSome_none, Option.isSome_some, Int.toNat_zero, Nat.reduceAdd, Nat.reduceMul, Nat.reduceSub, Nat.reduceEqDiff, Nat.reduceLT, Nat.reduceLeDiff, Nat.reduceShiftRight, Nat.reduceMod, Nat.reduceBEq, reduceCtorEq, reduceIte, reduceDIte, Int.reduceNeg]; first | rfl | ((repeat' apply And.intro) <;> first | rfl | assumption | omega)) (by dsimp only; omega)
        · refine fin_lp ⟨(i + 1, P ++ [(A[i].1, 0)], Q ++ [A[i].1]), by dsimp only; omega, by dsimp only; rw [List.length_append]; simp only [List.length_singleton]; omega, by dsimp only; rw [List.length_append]; simp only [List.length_singleton]; omega⟩ (by simp only [go_sem, Prod.eta, Option.isSome_none, Option.isSome_some, Int.toNat_zero, Nat.reduceAdd, Nat.reduceMul, Nat.reduceSub, Nat.reduceEqDiff, Nat.reduceLT, Nat.reduceLeDiff, Nat.reduceShiftRight, Nat.reduceMod, Nat.reduceBEq, reduceCtorEq, reduceIte, reduceDIte, Int.reduceNeg]; first | rfl | ((repeat' apply And.intro) <;> first | rfl | assumption | omega)) (by dsimp only; omega)
        · refine fin_lp ⟨(i + 1, P ++ [(A[i].1, 0)], Q), by dsimp only; omega, by dsimp only; rw [List.length_append]; simp only [List.length_singleton]; omega, by dsimp only; omega⟩ (by simp only [go_sem, Prod.eta, Option.isSome_none, Option.isSome_some, Int.toNat_zero, Nat.reduceAdd, Nat.reduceMul, Nat.reduceSub, Nat.reduceEqDiff, Nat.reduceLT, Nat.reduceLeDiff, Nat.reduceShiftRight, Nat.reduceMod, Nat.reduceBEq, reduceCtorEq, reduceIte, reduceDIte, Int.reduceNeg]; first | rfl | ((repeat' apply And.intro) <;> first | rfl | assumption | omega)) (by dsimp only; omega)
      · have hpl := openV_len l (peakV l).1
        have hgt := goMod_bd s1.raw 50 (by omega)
        (repeat' (with_reducible (first | refine And.intro ?_ ?_ | intro _))) <;> (try (first | with_reducible (first | done | assumption | omega | contradiction) | decide))
        generalize hxs : ([([], tm, Q), ([], (peakV l).1, openV l (peakV l).1), ([], goMod s1.raw 50, Q)] : List Mk) = xs
        have hx3 : xs.length = 3 := by rw [← hxs]; rfl
        have hx1 : ∀ e ∈ xs, e.1.length ≤ 1048576 := by
          intro e he
          rw [← hxs] at he
          simp only [List.mem_cons, List.not_mem_nil, or_false] at he
          rcases he with rfl | rfl | rfl <;> simp
        refine evk_loop ⟨{ j : Nat // j ≤ 3 }, 2000,
          fun q => [(10, .one (.sl (.pair (.pair .str (.pair (.int .i64) (.pair .str (.int .i64)))) (.pair .str (.pair (.int .i64) (.pair (.int .i64) (.pair (.int .i64) (.pair (.int .i64) (.int .i64))))))) l false)), (11, .one (.sl (.int .i64) cs false)), (13, .one (.loc 81 0)), (107, .one (.row 67)), (108, .one (.int .i64 3)), (109, .one (.int .i64 q.1))],
          fun q => [(81, .cells 42 (expl (.pair (.sl (.pair (.pair .str (.pair (.int .i64) (.pair .str (.int .i64)))) (.int .i64))) (.pair (.int .i64) (.sl (.pair .str (.pair (.int .i64) (.pair .str (.int .i64))))))) (P, 0, []))), (67, .row 42 (.pair (.sl (.pair (.pair .str (.pair (.int .i64) (.pair .str (.int .i64)))) (.int .i64))) (.pair (.int .i64) (.sl (.pair .str (.pair (.int .i64) (.pair .str (.int .i64))))))) xs)], fun q => 3 - q.1⟩ ⟨0, by omega⟩ ?_ ?_
        · simp only [go_sem, Prod.eta, Option.isSome_none, Option.isSome_some, Int.toNat_zero, Nat.reduceAdd, Nat.reduceMul, Nat.reduceSub, Nat.reduceEqDiff, Nat.reduceLT, Nat.reduceLeDiff, Nat.reduceShiftRight, Nat.reduceMod, Nat.reduceBEq, reduceCtorEq, reduceIte, reduceDIte, Int.reduceNeg]
          first
            | rfl
            | exact ⟨rfl, rfl⟩
            | skip
        · rintro ⟨j, (hj : j ≤ 3)⟩
          (simp only [go_sem, Prod.eta, Option.isSome_none, Option.isSome_some, Int.toNat_zero, Nat.reduceAdd, Nat.reduceMul, Nat.reduceSub, Nat.reduceEqDiff, Nat.reduceLT, Nat.reduceLeDiff, Nat.reduceShiftRight, Nat.reduceMod, Nat.reduceBEq, reduceCtorEq, reduceIte, reduceDIte, Int.reduceNeg, Bool.not_eq_true', Bool.not_eq_false', Bool.or_eq_true, Bool.or_eq_false_iff, Bool.and_eq_true, Bool.and_eq_false_iff, decide_eq_true_eq, decide_eq_false_iff_not, Classical.not_not, not_or, maxLen, con8, con9, con11, con13, con14, con15, con16, con17, con19, con20, con25, hT, hG, hk, hK, Try.results8]); (try simp (disch := decide +kernel) only [drawn, true_and, and_true])
          intro hlt3
          have hj' : j < xs.length := by omega
          have ekx : ∀ z, xs.getD (j : Int).toNat z = xs[j] := fun z => by simp [hj']
          simp only [ekx]
          have h1 := hx1 _ (List.getElem_mem hj')
          generalize xs[j] = e at h1 ⊢
          have hex := fun h => exclusive (l := l) (cs := cs) (p := P) (p2 := e.1) (t := 0) (t2 := e.2.1) (q := []) (q2 := e.2.2) h
          (repeat' (with_reducible (first | refine And.intro ?_ ?_ | intro _))) <;> (try (first | with_reducible (first | done | assumption | omega | contradiction) | decide))
          · have h : ((e.2.2.length : Int) > 0 ∧ checkV l cs P 0 [] = 0) ∧ checkV l cs e.1 e.2.1 e.2.2 = 0 := by assumption
            exact hex (by omega) h.1.2 h.2
          · refine fin_lp ⟨j + 1, by omega⟩ (by simp only [go_sem, Prod.eta, Option.isSome_none, Option.isSome_some, Int.toNat_zero, Nat.reduceAdd, Nat.reduceMul, Nat.reduceSub, Nat.reduceEqDiff, Nat.reduceLT, Nat.reduceLeDiff, Nat.reduceShiftRight, Nat.reduceMod, Nat.reduceBEq, reduceCtorEq, reduceIte, reduceDIte, Int.reduceNeg]; first | rfl | ((repeat' apply And.intro) <;> first | rfl | assumption | omega)) (by dsimp only; omega))
end Go.Proofs.Ytdmgmdppejopcaa
