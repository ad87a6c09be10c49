/- The laws: a flight is found; the fewest chutes. -/
import Derived.Test.YtdmgmdppejopcaaMkM
set_option linter.unusedSimpArgs false
set_option linter.unusedVariables false
set_option maxRecDepth 100000
set_option maxHeartbeats 4000000
namespace Go.Proofs.Ytdmgmdppejopcaa
open Go.Ev

theorem finds {l : List Dep} (hv : validateV l = 0) {p : Mk} (hp : ((peakV l).2 > 6 ∧ p.1 = [] ∧ p.2.2.length ≠ 0) ∨ (p.2.2.length = 0 ∧ (keysOf p.1).Perm ((planV l).map (fun d => d.1)))) (d : Dep) (hd : d ∈ l) :
    (chV p.1 d.1).2 = (decide (d.state = 0) && decide (p.2.2.length = 0)) := by
  rcases hp with ⟨h1, h2, h3⟩ | ⟨h1, h2⟩
  · rw [h2, decide_eq_false h3, Bool.and_false]
    rfl
  · rw [h1, decide_eq_true rfl, Bool.and_true]
    obtain ⟨g1, g2, g3⟩ := valid_ok hv
    have hnd := nodup_flts g3
    have hsub : (planV l).Sublist l := List.filter_sublist
    have hk : (keysOf p.1).Nodup := h2.nodup_iff.2 (nodup_flts (g3.sublist hsub))
    by_cases hs : d.state = 0
    · rw [decide_eq_true hs]
      have hm : d ∈ planV l := List.mem_filter.2 ⟨hd, by simpa using hs⟩
      have : d.1 ∈ keysOf p.1 := h2.mem_iff.2 (List.mem_map.2 ⟨d, hm, rfl⟩)
      obtain ⟨a, ha, e⟩ := List.mem_map.1 this
      rw [← e, chV_mem hk ha]
    · rw [decide_eq_false hs, chV_not]
      intro a ha e
      have : a.1 ∈ (planV l).map (fun d => d.1) := h2.mem_iff.1 (List.mem_map.2 ⟨a, ha, rfl⟩)
      obtain ⟨d', hd', e'⟩ := List.mem_map.1 this
      have hd'l := hsub.mem hd'
      have e2 : d'.1 = d.1 := e'.trans e
      have hdd : d' = d := by
        clear h2 this hd' ha hk hsub hv g1 g2 g3 e' e
        induction l with
        | nil => cases hd
        | cons c l ih =>
          rw [List.map_cons, List.nodup_cons] at hnd
          rcases List.mem_cons.1 hd with h1 | h1 <;> rcases List.mem_cons.1 hd'l with h2 | h2
          · rw [h1, h2]
          · exact absurd (List.mem_map.2 ⟨d', h2, by rw [e2, h1]⟩) hnd.1
          · exact absurd (List.mem_map.2 ⟨d, h1, by rw [← e2, h2]⟩) hnd.1
          · exact ih h1 hnd.2 h2
      rw [hdd] at hd'
      have := (List.mem_filter.1 hd').2
      exact hs (by simpa using this)
def con6 : Con := { ps := [.d false (.sl (.pair (.pair .str (.pair (.int .i64) (.pair .str (.int .i64)))) (.int .i64))), .d false (.sl (.int .i64)), .d true (.pair .str (.pair (.int .i64) (.pair .str (.int .i64))))], rs := [.d false .bool], pre := fun _ => True, out := fun _ => (true, ()), nw := id }
theorem c6 : CtrOk Try.prog 6 con6.ctr :=
  con_sound (G := ⟨[(9, con9.ctr), (11, con11.ctr), (15, con15.ctr), (18, con18.ctr), (22, con22.ctr), (23, con23.ctr), (24, con24.ctr)], [], []⟩) tab_ok (EnvOk.cons c9 has9 (EnvOk.cons c11 has11 (EnvOk.cons c15 has15 (EnvOk.cons c18 has18 (EnvOk.cons c22 has22 (EnvOk.cons c23 has23 (EnvOk.cons c24 has24 EnvOk.nil))))))) rfl Try.func6 rfl con6 10384593997545167776249013423045607 (by kernel_rfl) (by decide) (by decide) rfl (by decide) rfl (by
    rintro ⟨(p : List All), (ns : List Int), (f : Flt), _⟩ hpre hwf X hT hG hk hK
    (simp only [go_sem, Prod.eta, Option.isSome_none, Option.isSome_some, Int.toNat_zero, Nat.reduceAdd, Nat.reduceMul, Nat.reduceSub, Nat.reduceEqDiff, Nat.reduceLT, Nat.reduceLeDiff, Nat.reduceShiftRight, Nat.reduceMod, Nat.reduceBEq, reduceCtorEq, reduceIte, reduceDIte, Int.reduceNeg, Bool.not_eq_true', Bool.not_eq_false', Bool.or_eq_true, Bool.or_eq_false_iff, Bool.and_eq_true, Bool.and_eq_false_iff, decide_eq_true_eq, decide_eq_false_iff_not, Classical.not_not, not_or, maxLen, con6, con9, con11, con15, con18, con22, con23, con24, hT, hG, hk, hK, Try.results6] at hwf ⊢); (try simp (disch := decide +kernel) only [drawn, true_and, and_true])
    have hs1 := Src.step_pos (ns.take 2000, 0) (Int.le_refl 0)
    have hs2 := Src.step_pos _ hs1
    have hs3 := Src.step_pos _ hs2
    have hpl : ∀ n, (p.take n).length ≤ p.length := fun n => by rw [List.length_take]; exact Nat.min_le_right _ _
    have hp30 : (p.take (if 30 < (p.length : Int) then 30 else (p.length : Int)).toNat).length ≤ 30 := by
      rw [List.length_take]
      split <;> omega
    generalize p.take (if 30 < (p.length : Int) then 30 else (p.length : Int)).toNat = pv at hp30 ⊢
    generalize Src.step (Src.step (Src.step (ns.take 2000, 0))) = s3 at hs3 ⊢
    (repeat' (with_reducible (first | refine And.intro ?_ ?_ | intro _))) <;> (try (first | with_reducible (first | done | assumption | omega | contradiction) | decide))
    refine evk_loop ⟨{ q : Nat × List Flt // q.1 ≤ pv.length ∧ q.2.length = q.1 + 2 }, 1000,
      fun q => [(0, .one (.sl (.pair (.pair .str (.pair (.int .i64) (.pair .str (.int .i64)))) (.int .i64)) pv false)), (7, .one (.loc 80 0)), (8, .one (.row 64)), (34, .one (.int .i64 pv.length)), (35, .one (.int .i64 q.1.1))],
      fun q => [(80, .cells 61 [.sl (.int .i64) s3.1 false, .int .i64 s3.2]), (64, .row 34 (.pair .str (.pair (.int .i64) (.pair .str (.int .i64)))) q.1.2)], fun q => pv.length - q.1.1⟩ ⟨(0, [f, flightV (ns.take 2000, 0)]), by simp, by simp⟩ ?_ ?_
    · simp only [go_sem, Prod.eta, Option.isSome_none, Option.isSome_some, Int.toNat_zero, Nat.reduceAdd, Nat.reduceMul, Nat.reduceSub, Nat.reduceEqDiff, Nat.reduceLT, Nat.reduceLeDiff, Nat.reduceShiftRight, Nat.reduceMod, Nat.reduceBEq, reduceCtorEq, reduceIte, reduceDIte, Int.reduceNeg]
      rfl
    · rintro ⟨⟨i, fs⟩, (c1 : i ≤ pv.length), (c2 : fs.length = i + 2)⟩
      (simp only [go_sem, Prod.eta, Option.isSome_none, Option.isSome_some, Int.toNat_zero, Nat.reduceAdd, Nat.reduceMul, Nat.reduceSub, Nat.reduceEqDiff, Nat.reduceLT, Nat.reduceLeDiff, Nat.reduceShiftRight, Nat.reduceMod, Nat.reduceBEq, reduceCtorEq, reduceIte, reduceDIte, Int.reduceNeg, Bool.not_eq_true', Bool.not_eq_false', Bool.or_eq_true, Bool.or_eq_false_iff, Bool.and_eq_true, Bool.and_eq_false_iff, decide_eq_true_eq, decide_eq_false_iff_not, Classical.not_not, not_or, maxLen, con6, con9, con11, con15, con18, con22, con23, con24, hT, hG, hk, hK, Try.results6]); (try simp (disch := decide +kernel) only [drawn, true_and, and_true])
      refine ⟨fun hlt => ?_, fun hge => ?_⟩
      · have hi' : i < pv.length := by omega
        have ek : ∀ z, pv.getD (i : Int).toNat z = pv[i] := fun z => by simp [hi']
        simp only [ek]
        (repeat' (with_reducible (first | refine And.intro ?_ ?_ | intro _))) <;> (try (first | with_reducible (first | done | assumption | omega | contradiction) | decide))
        refine fin_lp ⟨(i + 1, fs ++ [pv[i].1]), by dsimp only; omega, by dsimp only; rw [List.length_append]; simp only [List.length_singleton]; omega⟩ (by simp only [go_sem, Prod.eta, Option.isSome_none, Option.isSome_some, Int.toNat_zero, Nat.reduceAdd, Nat.reduceMul, Nat.reduceSub, Nat.reduceEqDiff, Nat.reduceLT, Nat.reduceLeDiff, Nat.reduceShiftRight, Nat.reduceMod, Nat.reduceBEq, reduceCtorEq, reduceIte, reduceDIte, Int.reduceNeg]; first | rfl | ((repeat' apply And.intro) <;> first | rfl | assumption | omega)) (by dsimp only; omega)
      · (repeat' (with_reducible (first | refine And.intro ?_ ?_ | intro _))) <;> (try (first | with_reducible (first | done | assumption | omega | contradiction) | decide))
        refine evk_loop ⟨{ j : Nat // j ≤ fs.length }, 2000,
          fun q => [(0, .one (.sl (.pair (.pair .str (.pair (.int .i64) (.pair .str (.int .i64)))) (.int .i64)) pv false)), (7, .one (.loc 80 0)), (47, .one (.row 64)), (48, .one (.int .i64 fs.length)), (49, .one (.int .i64 q.1))],
          fun q => [(80, .cells 61 [.sl (.int .i64) s3.1 false, .int .i64 s3.2]), (64, .row 34 (.pair .str (.pair (.int .i64) (.pair .str (.int .i64)))) fs)], fun q => fs.length - q.1⟩ ⟨0, by omega⟩ ?_ ?_
        · simp only [go_sem, Prod.eta, Option.isSome_none, Option.isSome_some, Int.toNat_zero, Nat.reduceAdd, Nat.reduceMul, Nat.reduceSub, Nat.reduceEqDiff, Nat.reduceLT, Nat.reduceLeDiff, Nat.reduceShiftRight, Nat.reduceMod, Nat.reduceBEq, reduceCtorEq, reduceIte, reduceDIte, Int.reduceNeg]
          rfl
        · rintro ⟨j, (hj : j ≤ fs.length)⟩
          (simp only [go_sem, Prod.eta, Option.isSome_none, Option.isSome_some, Int.toNat_zero, Nat.reduceAdd, Nat.reduceMul, Nat.reduceSub, Nat.reduceEqDiff, Nat.reduceLT, Nat.reduceLeDiff, Nat.reduceShiftRight, Nat.reduceMod, Nat.reduceBEq, reduceCtorEq, reduceIte, reduceDIte, Int.reduceNeg, Bool.not_eq_true', Bool.not_eq_false', Bool.or_eq_true, Bool.or_eq_false_iff, Bool.and_eq_true, Bool.and_eq_false_iff, decide_eq_true_eq, decide_eq_false_iff_not, Classical.not_not, not_or, maxLen, con6, con9, con11, con15, con18, con22, con23, con24, hT, hG, hk, hK, Try.results6]); (try simp (disch := decide +kernel) only [drawn, true_and, and_true])
          refine ⟨fun hlt2 => ?_, fun hge2 => ?_⟩
          · have hj' : j < fs.length := by omega
            have ek : ∀ z, fs.getD (j : Int).toNat z = fs[j] := fun z => by simp [hj']
            simp only [ek]
            (repeat' (with_reducible (first | refine And.intro ?_ ?_ | intro _))) <;> (try (first | with_reducible (first | done | assumption | omega | contradiction) | decide))
            refine fin_lp ⟨j + 1, by omega⟩ (by simp only [go_sem, Prod.eta, Option.isSome_none, Option.isSome_some, Int.toNat_zero, Nat.reduceAdd, Nat.reduceMul, Nat.reduceSub, Nat.reduceEqDiff, Nat.reduceLT, Nat.reduceLeDiff, Nat.reduceShiftRight, Nat.reduceMod, Nat.reduceBEq, reduceCtorEq, reduceIte, reduceDIte, Int.reduceNeg]; first | rfl | ((repeat' apply And.intro) <;> first | rfl | assumption | omega)) (by dsimp only; omega)
          · have hsl := schedV_len s3 10 (by omega)
            have hsv := sched_validate s3 10 (by omega) (by omega)
            have es : (s3.1, s3.2) = s3 := rfl
            generalize (schedV s3 10).1 = e at hsl hsv ⊢
            have hpe := planV_len e
            have hargs := args_of (cs := [1, 2, 3, 4, 5, 6]) hsv (by omega) (by decide) (by decide) (by decide)
            obtain ⟨o1, o2⟩ := planO_ok hargs
            have hq : ((peakV e).2 > 6 ∧ (planO e [1, 2, 3, 4, 5, 6]).1.1 = [] ∧ (planO e [1, 2, 3, 4, 5, 6]).1.2.2.length ≠ 0) ∨ ((planO e [1, 2, 3, 4, 5, 6]).1.2.2.length = 0 ∧ (keysOf (planO e [1, 2, 3, 4, 5, 6]).1.1).Perm ((planV e).map (fun d => d.1))) := by
              have hl6 : (([1, 2, 3, 4, 5, 6] : List Int).length : Int) = 6 := rfl
              rw [hl6] at o2
              rcases o2 with ⟨a, b, c, _⟩ | ⟨a, b, _, c, _⟩
              · exact .inl ⟨a, b, by omega⟩
              · exact .inr ⟨by rw [b]; rfl, c⟩
            have hf := finds hsv hq
            rw [o1]
            generalize (planO e [1, 2, 3, 4, 5, 6]).1 = mk at hf ⊢
            (repeat' (with_reducible (first | refine And.intro ?_ ?_ | intro _))) <;> (try (first | with_reducible (first | done | assumption | omega | contradiction) | decide))
            refine evk_loop ⟨{ j : Nat // j ≤ e.length }, 3000,
              fun q => [(16, .one (.sl (.pair (.pair .str (.pair (.int .i64) (.pair .str (.int .i64)))) (.pair .str (.pair (.int .i64) (.pair (.int .i64) (.pair (.int .i64) (.pair (.int .i64) (.int .i64))))))) e false)), (17, .one (.loc 81 0)), (85, .one (.int .i64 e.length)), (86, .one (.int .i64 q.1))],
              fun q => [(81, .cells 42 (expl (.pair (.sl (.pair (.pair .str (.pair (.int .i64) (.pair .str (.int .i64)))) (.int .i64))) (.pair (.int .i64) (.sl (.pair .str (.pair (.int .i64) (.pair .str (.int .i64))))))) mk))], fun q => e.length - q.1⟩ ⟨0, by omega⟩ ?_ ?_
            · simp only [go_sem, Prod.eta, Option.isSome_none, Option.isSome_some, Int.toNat_zero, Nat.reduceAdd, Nat.reduceMul, Nat.reduceSub, Nat.reduceEqDiff, Nat.reduceLT, Nat.reduceLeDiff, Nat.reduceShiftRight, Nat.reduceMod, Nat.reduceBEq, reduceCtorEq, reduceIte, reduceDIte, Int.reduceNeg]
              first
                | rfl
                | skip
            · rintro ⟨j, (hj : j ≤ e.length)⟩
              (simp only [go_sem, Prod.eta, Option.isSome_none, Option.isSome_some, Int.toNat_zero, Nat.reduceAdd, Nat.reduceMul, Nat.reduceSub, Nat.reduceEqDiff, Nat.reduceLT, Nat.reduceLeDiff, Nat.reduceShiftRight, Nat.reduceMod, Nat.reduceBEq, reduceCtorEq, reduceIte, reduceDIte, Int.reduceNeg, Bool.not_eq_true', Bool.not_eq_false', Bool.or_eq_true, Bool.or_eq_false_iff, Bool.and_eq_true, Bool.and_eq_false_iff, decide_eq_true_eq, decide_eq_false_iff_not, Classical.not_not, not_or, maxLen, con6, con9, con11, con15, con18, con22, con23, con24, hT, hG, hk, hK, Try.results6]); (try simp (disch := decide +kernel) only [drawn, true_and, and_true])
              intro hlt3
              have hj' : j < e.length := by omega
              have ek : ∀ z, e.getD (j : Int).toNat z = e[j] := fun z => by simp [hj']
              simp only [ek]
              have hfj := hf _ (List.getElem_mem hj')
              have e0 : decide ((mk.2.2.length : Int) = 0) = decide (mk.2.2.length = 0) := by rw [decide_eq_decide]; omega
              rw [← e0] at hfj
              (repeat' (with_reducible (first | refine And.intro ?_ ?_ | intro _))) <;> (try (first | with_reducible (first | done | assumption | omega | contradiction) | decide))
              · rename_i h
                exact h hfj
              · refine fin_lp ⟨j + 1, by omega⟩ (by simp only [go_sem, Prod.eta, Option.isSome_none, Option.isSome_some, Int.toNat_zero, Nat.reduceAdd, Nat.reduceMul, Nat.reduceSub, Nat.reduceEqDiff, Nat.reduceLT, Nat.reduceLeDiff, Nat.reduceShiftRight, Nat.reduceMod, Nat.reduceBEq, reduceCtorEq, reduceIte, reduceDIte, Int.reduceNeg]; first | rfl | ((repeat' apply And.intro) <;> first | rfl | assumption | omega)) (by dsimp only; omega))
end Go.Proofs.Ytdmgmdppejopcaa
