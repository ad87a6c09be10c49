/- The laws: the fewest chutes. -/
import Derived.Test.YtdmgmdppejopcaaMkM
set_option linter.unusedSimpArgs false
set_option linter.unusedVariables false
set_option maxRecDepth 100000
set_option maxHeartbeats 4000000
namespace Go.Proofs.Ytdmgmdppejopcaa
open Go.Ev

theorem schedL_pos : ∀ (n : Nat) (s : Src) (k : Int), 0 ≤ s.2 → 0 ≤ (schedL n s k).2.2
  | 0, _, _, h => h
  | n + 1, s, k, h => by
    have h1 := Src.step_pos s h
    unfold schedL
    split
    · split
      · exact h1
      · exact schedL_pos n _ _ (Src.step_pos _ (Src.step_pos _ (Src.step_pos _ (Src.step_pos _ (Src.step_pos _ (Src.step_pos _ h1))))))
    · exact h
theorem schedV_pos (s : Src) (n : Int) (h : 0 ≤ s.2) : 0 ≤ (schedV s n).2.2 := schedL_pos _ _ _ (Src.step_pos s h)
theorem ascI_snoc {cs : List Int} {x : Int} (h : ascI cs = true) (hx : ∀ c ∈ cs, c < x) : ascI (cs ++ [x]) = true := by
  induction cs with
  | nil => rfl
  | cons a cs ih =>
    cases cs with
    | nil =>
      have := hx a (by simp)
      show (decide (a < x) && ascI [x]) = true
      rw [decide_eq_true this]; rfl
    | cons b cs =>
      unfold ascI at h
      simp only [Bool.and_eq_true] at h
      show (decide (a < b) && ascI ((b :: cs) ++ [x])) = true
      rw [h.1, ih h.2 (fun c hc => hx c (List.mem_cons_of_mem _ hc))]
      rfl
theorem ascI_tail {cs : List Int} (h : ascI cs = true) : ascI (cs.drop 1) = true := by
  match cs, h with
  | [], _ => rfl
  | [_], _ => rfl
  | a :: b :: l, h =>
    unfold ascI at h
    simp only [Bool.and_eq_true] at h
    exact h.2
def con4 : Con := { ps := [.d false (.sl (.int .i64))], rs := [.d false .bool], pre := fun _ => True, out := fun _ => (true, ()), nw := id }
theorem c4 : CtrOk Try.prog 4 con4.ctr :=
  con_sound (G := ⟨[(9, con9.ctr), (11, con11.ctr), (12, con12.ctr), (15, con15.ctr), (16, con16.ctr), (17, con17.ctr), (18, con18.ctr)], [], []⟩) tab_ok (EnvOk.cons c9 has9 (EnvOk.cons c11 has11 (EnvOk.cons c12 has12 (EnvOk.cons c15 has15 (EnvOk.cons c16 has16 (EnvOk.cons c17 has17 (EnvOk.cons c18 has18 EnvOk.nil))))))) rfl Try.func4 rfl con4 5902958103725032605661 (by kernel_rfl) (by decide) (by decide) rfl (by decide) rfl (by
    rintro ⟨(ns : List Int), _⟩ hpre hwf X hT hG hk hK
    (simp only [go_sem, Prod.eta, Option.isSome_none, Option.isSome_some, Int.toNat_zero, Nat.reduceAdd, Nat.reduceMul, Nat.reduceSub, Nat.reduceEqDiff, Nat.reduceLT, Nat.reduceLeDiff, Nat.reduceShiftRight, Nat.reduceMod, Nat.reduceBEq, reduceCtorEq, reduceIte, reduceDIte, Int.reduceNeg, Bool.not_eq_true', Bool.not_eq_false', Bool.or_eq_true, Bool.or_eq_false_iff, Bool.and_eq_true, Bool.and_eq_false_iff, decide_eq_true_eq, decide_eq_false_iff_not, Classical.not_not, not_or, maxLen, con4, con9, con11, con12, con15, con16, con17, con18, hT, hG, hk, hK, Try.results4] at hwf ⊢); (try simp (disch := decide +kernel) only [drawn, true_and, and_true])
    have hsl := schedV_len (ns.take 2000, 0) 16 (by omega)
    have hsv := sched_validate (ns.take 2000, 0) 16 (by omega) (by omega)
    have hsp := schedV_pos (ns.take 2000, 0) 16 (Int.le_refl 0)
    generalize (schedV (ns.take 2000, 0) 16).1 = l at hsl hsv ⊢
    generalize (schedV (ns.take 2000, 0) 16).2 = s0 at hsp ⊢
    have hpe := planV_len l
    have hpk := (pk_facts l).1
    have hargs := fun cs h1 h2 h3 => args_of (l := l) (cs := cs) hsv (by omega) h1 h2 h3
    have hplan := fun cs h => planO_ok (l := l) (cs := cs) h
    generalize hn : (peakV l).2 = n at hpk hplan ⊢
    (repeat' (with_reducible (first | refine And.intro ?_ ?_ | intro _))) <;> (try (first | with_reducible (first | done | assumption | omega | contradiction) | decide))
    refine evk_loop ⟨{ q : Src × Nat × List Int // 0 ≤ q.1.2 ∧ (q.2.1 : Int) ≤ n ∧ q.2.2.length = q.2.1 ∧ ascI q.2.2 = true ∧ ∀ c ∈ q.2.2, 0 ≤ c ∧ c < 2 * q.2.1 }, 1000,
      fun q => [(3, .one (.loc 80 0)), (4, .one (.sl (.pair (.pair .str (.pair (.int .i64) (.pair .str (.int .i64)))) (.pair .str (.pair (.int .i64) (.pair (.int .i64) (.pair (.int .i64) (.pair (.int .i64) (.int .i64))))))) l false)), (6, .one (.int .i64 n)), (7, .one (.row 64)), (8, .one (.int .i64 q.1.2.1))],
      fun q => [(80, .cells 61 [.sl (.int .i64) q.1.1.1 false, .int .i64 q.1.1.2]), (64, .row 3 (.int .i64) q.1.2.2)], fun q => (n - q.1.2.1).toNat⟩ ⟨(s0, 0, []), hsp, by simpa using hpk, rfl, rfl, by simp⟩ ?_ ?_
    · simp only [go_sem, Prod.eta, Option.isSome_none, Option.isSome_some, Int.toNat_zero, Nat.reduceAdd, Nat.reduceMul, Nat.reduceSub, Nat.reduceEqDiff, Nat.reduceLT, Nat.reduceLeDiff, Nat.reduceShiftRight, Nat.reduceMod, Nat.reduceBEq, reduceCtorEq, reduceIte, reduceDIte, Int.reduceNeg]
      rfl
    · rintro ⟨⟨⟨ql, qa⟩, k, cs⟩, (c1 : 0 ≤ qa), (c2 : (k : Int) ≤ n), (c3 : cs.length = k), (c4 : ascI cs = true), (c5 : ∀ c ∈ cs, 0 ≤ c ∧ c < 2 * (k : Int))⟩
      (simp only [go_sem, Prod.eta, Option.isSome_none, Option.isSome_some, Int.toNat_zero, Nat.reduceAdd, Nat.reduceMul, Nat.reduceSub, Nat.reduceEqDiff, Nat.reduceLT, Nat.reduceLeDiff, Nat.reduceShiftRight, Nat.reduceMod, Nat.reduceBEq, reduceCtorEq, reduceIte, reduceDIte, Int.reduceNeg, Bool.not_eq_true', Bool.not_eq_false', Bool.or_eq_true, Bool.or_eq_false_iff, Bool.and_eq_true, Bool.and_eq_false_iff, decide_eq_true_eq, decide_eq_false_iff_not, Classical.not_not, not_or, maxLen, con4, con9, con11, con12, con15, con16, con17, con18, hT, hG, hk, hK, Try.results4]); (try simp (disch := decide +kernel) only [drawn, true_and, and_true])
      have b2 := goMod_bd (Src.raw (ql, qa)) 2 (by omega)
      have p1 := Src.step_pos (ql, qa) c1
      refine ⟨fun hlt => ?_, fun hge => ?_⟩
      · (repeat' (with_reducible (first | refine And.intro ?_ ?_ | intro _))) <;> (try (first | with_reducible (first | done | assumption | omega | contradiction) | decide))
        refine fin_lp ⟨(Src.step (ql, qa), k + 1, cs ++ [2 * (k : Int) + goMod (Src.raw (ql, qa)) 2]), p1, by dsimp only; omega, by dsimp only; rw [List.length_append]; simp only [List.length_singleton]; omega, ascI_snoc c4 (fun c hc => by have := c5 c hc; omega), ?_⟩ ?_ ?_
        · intro c hc
          dsimp only at hc ⊢
          rcases List.mem_append.1 hc with hc | hc
          · have := c5 c hc; omega
          · rw [List.mem_singleton.1 hc]; omega
        · simp only [go_sem, Prod.eta, Option.isSome_none, Option.isSome_some, Int.toNat_zero, Nat.reduceAdd, Nat.reduceMul, Nat.reduceSub, Nat.reduceEqDiff, Nat.reduceLT, Nat.reduceLeDiff, Nat.reduceShiftRight, Nat.reduceMod, Nat.reduceBEq, reduceCtorEq, reduceIte, reduceDIte, Int.reduceNeg]
          first
            | rfl
            | skip
        · dsimp only; omega
      · have hall : cs.all (fun c => decide (0 ≤ c)) = true := by
          rw [List.all_eq_true]
          intro c hc
          exact decide_eq_true (c5 c hc).1
        have hall2 : (cs.drop 1).all (fun c => decide (0 ≤ c)) = true := by
          rw [List.all_eq_true]
          intro c hc
          exact decide_eq_true (c5 c (List.mem_of_mem_drop hc)).1
        have h6 : n ≤ 6 := by omega
        have hlen : (cs.length : Int) = n := by omega
        obtain ⟨A1, A2⟩ := hplan cs (hargs cs (by omega) hall c4)
        have A3 : (planO l cs).1.1.length = (planV l).length ∧ (planO l cs).1.2.2.length = 0 := by
          rcases A2 with ⟨h, _⟩ | ⟨_, h1, _, _, h2⟩
          · omega
          · exact ⟨h2, by rw [h1]; rfl⟩
        have hdl : (cs.drop 1).length = cs.length - 1 := List.length_drop
        obtain ⟨B1, B2⟩ := hplan (cs.drop 1) (hargs (cs.drop 1) (by omega) hall2 (ascI_tail c4))
        have B3 : n ≠ 0 → ((planO l (cs.drop 1)).1.2.2.length : Int) = n ∧ (planO l (cs.drop 1)).1.1.length = 0 := fun h0 => by
          rcases B2 with ⟨_, h1, h2, _⟩ | ⟨h, _⟩
          · exact ⟨h2, by rw [h1]; rfl⟩
          · omega
        have et : List.drop (Int.toNat 1) (List.take (cs.length : Int).toNat cs) = cs.drop 1 := by
          rw [show ((cs.length : Int)).toNat = cs.length by omega, List.take_length]; rfl
        simp only [et]
        clear hplan hargs A2 B2
        have e0 : n = 0 ∨ n ≠ 0 := by omega
        obtain ⟨A4, A5⟩ := A3
        rcases e0 with e0 | e0
        · (repeat' (with_reducible (first | refine And.intro ?_ ?_ | intro _))) <;> (try (first | with_reducible (first | done | assumption | omega | contradiction) | decide))
        · obtain ⟨B4, B5⟩ := B3 e0
          (repeat' (with_reducible (first | refine And.intro ?_ ?_ | intro _))) <;> (try (first | with_reducible (first | done | assumption | omega | contradiction) | decide)))
end Go.Proofs.Ytdmgmdppejopcaa
