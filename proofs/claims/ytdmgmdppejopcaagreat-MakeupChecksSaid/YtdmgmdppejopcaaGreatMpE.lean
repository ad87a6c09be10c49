/- The contracts of the functions that the statements about the makeup reach: rows. -/
import Derived.Test.YtdmgmdppejopcaaGreatMpCToD
set_option linter.unusedSimpArgs false
set_option linter.unusedVariables false
set_option maxRecDepth 100000
set_option maxHeartbeats 4000000
namespace Go.Proofs.YtdmgmdppejopcaaGreat
open Go.Ev

/-- The flights that are open at a time. -/
def openV (l : List Dep) (t : Int) : List Flt := (l.filter (fun d => isOpenV d t)).map (·.1)
theorem openV_snoc (l : List Dep) (t : Int) (d : Dep) : openV (l ++ [d]) t = if isOpenV d t = true then openV l t ++ [d.1] else openV l t := by
  unfold openV
  rw [List.filter_append]
  by_cases h : isOpenV d t = true
  · rw [if_pos h]; simp [h]
  · rw [if_neg h]; simp [h]
theorem openV_len (l : List Dep) (t : Int) : (openV l t).length ≤ l.length := by
  unfold openV
  rw [List.length_map]
  exact List.length_filter_le _ _
def con16 : Con := { ps := [.d false (.sl (.pair (.pair .str (.pair (.int .i64) (.pair .str (.int .i64)))) (.pair .str (.pair (.int .i64) (.pair (.int .i64) (.pair (.int .i64) (.pair (.int .i64) (.int .i64)))))))), .d false (.int .i64)], rs := [.o 50 (.pair .str (.pair (.int .i64) (.pair .str (.int .i64))))], pre := fun (x : List Dep × Int × Unit) => x.1.length ≤ 1048576, out := fun x => (openV x.1 x.2.1, ()), nw := id }
theorem c16 : CtrOk Tryz.prog 16 con16.ctr :=
  con_sound (G := ⟨[(42, con42.ctr)], [], []⟩) tab_ok (EnvOk.cons c42 has42 EnvOk.nil) rfl Tryz.func16 rfl con16 263283 (by kernel_rfl) (by decide) (by decide) rfl (by decide) rfl (by
    rintro ⟨(l : List Dep), (t : Int), _⟩ hpre hwf X hT hG hk hK
    have hl : l.length ≤ 1048576 := hpre
    (simp only [go_sem, Prod.eta, Option.isSome_none, Option.isSome_some, Int.toNat_zero, Nat.reduceAdd, Nat.reduceMul, Nat.reduceSub, Nat.reduceEqDiff, Nat.reduceLT, Nat.reduceLeDiff, Nat.reduceShiftRight, Nat.reduceMod, Nat.reduceBEq, reduceCtorEq, reduceIte, reduceDIte, Int.reduceNeg, Bool.not_eq_true', Bool.not_eq_false', Bool.or_eq_true, Bool.or_eq_false_iff, Bool.and_eq_true, Bool.and_eq_false_iff, decide_eq_true_eq, decide_eq_false_iff_not, Classical.not_not, not_or, maxLen, con16, con42, hT, hG, hk, hK, Tryz.results16] at hwf ⊢); (try simp (disch := decide +kernel) only [drawn, true_and, and_true])
    refine evk_loop ⟨{ i : Nat // i ≤ l.length }, 1000, fun i => [(0, .one (.sl (.pair (.pair .str (.pair (.int .i64) (.pair .str (.int .i64)))) (.pair .str (.pair (.int .i64) (.pair (.int .i64) (.pair (.int .i64) (.pair (.int .i64) (.int .i64))))))) l false)), (1, .one (.int .i64 t)), (5, .one (.row 64)), (6, .one (.int .i64 i.1))], fun i => [(64, .row 50 (.pair .str (.pair (.int .i64) (.pair .str (.int .i64)))) (openV (l.take i.1) t))], fun i => l.length - i.1⟩ ⟨0, by simp⟩ ?_ ?_
    · simp only [go_sem, Prod.eta, Option.isSome_none, Option.isSome_some, Int.toNat_zero, Nat.reduceAdd, Nat.reduceMul, Nat.reduceSub, Nat.reduceEqDiff, Nat.reduceLT, Nat.reduceLeDiff, Nat.reduceShiftRight, Nat.reduceMod, Nat.reduceBEq, reduceCtorEq, reduceIte, reduceDIte, Int.reduceNeg]
      exact ⟨rfl, rfl⟩
    · rintro ⟨i, (hi : i ≤ l.length)⟩
      (simp only [go_sem, Prod.eta, Option.isSome_none, Option.isSome_some, Int.toNat_zero, Nat.reduceAdd, Nat.reduceMul, Nat.reduceSub, Nat.reduceEqDiff, Nat.reduceLT, Nat.reduceLeDiff, Nat.reduceShiftRight, Nat.reduceMod, Nat.reduceBEq, reduceCtorEq, reduceIte, reduceDIte, Int.reduceNeg, Bool.not_eq_true', Bool.not_eq_false', Bool.or_eq_true, Bool.or_eq_false_iff, Bool.and_eq_true, Bool.and_eq_false_iff, decide_eq_true_eq, decide_eq_false_iff_not, Classical.not_not, not_or, maxLen, con16, con42, hT, hG, hk, hK, Tryz.results16]); (try simp (disch := decide +kernel) only [drawn, true_and, and_true])
      refine fun _ => ⟨fun hlt => ?_, fun hge => ?_⟩
      · have hi' : i < l.length := by omega
        have ek : ∀ z, l.getD (i : Int).toNat z = l[i] := fun z => by simp [hi']
        simp only [ek]
        have hst : openV (l.take (i + 1)) t = if isOpenV l[i] t = true then openV (l.take i) t ++ [l[i].1] else openV (l.take i) t := by
          rw [List.take_succ_eq_append_getElem hi', openV_snoc]
        have hlen := openV_len (l.take i) t
        rw [List.length_take] at hlen
        (repeat' (with_reducible (first | refine And.intro ?_ ?_ | intro _))) <;> (try (first | with_reducible (first | done | assumption | omega | contradiction) | decide))
        · have h : isOpenV l[i] t = true := by assumption
          refine fin_lp ⟨i + 1, by omega⟩ ?_ ?_
          · simp only [go_sem, Prod.eta, Option.isSome_none, Option.isSome_some, Int.toNat_zero, Nat.reduceAdd, Nat.reduceMul, Nat.reduceSub, Nat.reduceEqDiff, Nat.reduceLT, Nat.reduceLeDiff, Nat.reduceShiftRight, Nat.reduceMod, Nat.reduceBEq, reduceCtorEq, reduceIte, reduceDIte, Int.reduceNeg]
            rw [hst, if_pos h]
            exact ⟨rfl, rfl⟩
          · dsimp only; omega
        · have h : isOpenV l[i] t = false := by assumption
          refine fin_lp ⟨i + 1, by omega⟩ ?_ ?_
          · simp only [go_sem, Prod.eta, Option.isSome_none, Option.isSome_some, Int.toNat_zero, Nat.reduceAdd, Nat.reduceMul, Nat.reduceSub, Nat.reduceEqDiff, Nat.reduceLT, Nat.reduceLeDiff, Nat.reduceShiftRight, Nat.reduceMod, Nat.reduceBEq, reduceCtorEq, reduceIte, reduceDIte, Int.reduceNeg]
            rw [hst, if_neg (by rw [h]; simp)]
            exact ⟨rfl, rfl⟩
          · dsimp only; omega
      · rw [List.take_of_length_le (by omega)])
def con24 : Con := { ps := [.d false (.sl (.pair (.pair .str (.pair (.int .i64) (.pair .str (.int .i64)))) (.pair .str (.pair (.int .i64) (.pair (.int .i64) (.pair (.int .i64) (.pair (.int .i64) (.int .i64)))))))), .d false (.int .i64)], rs := [.o 50 (.pair .str (.pair (.int .i64) (.pair .str (.int .i64))))], pre := fun (x : List Dep × Int × Unit) => x.1.length ≤ 1048576, out := fun x => (openV x.1 x.2.1, ()), nw := id }
theorem c24 : CtrOk Tryz.prog 24 con24.ctr :=
  con_sound (G := ⟨[(53, con53.ctr)], [], []⟩) tab_ok (EnvOk.cons c53 has53 EnvOk.nil) rfl Tryz.func24 rfl con24 69555 (by kernel_rfl) (by decide) (by decide) rfl (by decide) rfl (by
    rintro ⟨(l : List Dep), (t : Int), _⟩ hpre hwf X hT hG hk hK
    have hl : l.length ≤ 1048576 := hpre
    (simp only [go_sem, Prod.eta, Option.isSome_none, Option.isSome_some, Int.toNat_zero, Nat.reduceAdd, Nat.reduceMul, Nat.reduceSub, Nat.reduceEqDiff, Nat.reduceLT, Nat.reduceLeDiff, Nat.reduceShiftRight, Nat.reduceMod, Nat.reduceBEq, reduceCtorEq, reduceIte, reduceDIte, Int.reduceNeg, Bool.not_eq_true', Bool.not_eq_false', Bool.or_eq_true, Bool.or_eq_false_iff, Bool.and_eq_true, Bool.and_eq_false_iff, decide_eq_true_eq, decide_eq_false_iff_not, Classical.not_not, not_or, maxLen, con24, con53, hT, hG, hk, hK, Tryz.results24] at hwf ⊢); (try simp (disch := decide +kernel) only [drawn, true_and, and_true])
    refine fun _ => evk_loop ⟨{ i : Nat // i ≤ l.length }, 1000, fun i => [(1, .one (.int .i64 t)), (5, .one (.row 64)), (8, .one (.sl (.pair (.pair .str (.pair (.int .i64) (.pair .str (.int .i64)))) (.pair .str (.pair (.int .i64) (.pair (.int .i64) (.pair (.int .i64) (.pair (.int .i64) (.int .i64))))))) l false)), (9, .one (.int .i64 l.length)), (10, .one (.int .i64 i.1))], fun i => [(64, .row 50 (.pair .str (.pair (.int .i64) (.pair .str (.int .i64)))) (openV (l.take i.1) t))], fun i => l.length - i.1⟩ ⟨0, by simp⟩ ?_ ?_
    · simp only [go_sem, Prod.eta, Option.isSome_none, Option.isSome_some, Int.toNat_zero, Nat.reduceAdd, Nat.reduceMul, Nat.reduceSub, Nat.reduceEqDiff, Nat.reduceLT, Nat.reduceLeDiff, Nat.reduceShiftRight, Nat.reduceMod, Nat.reduceBEq, reduceCtorEq, reduceIte, reduceDIte, Int.reduceNeg]
      exact ⟨rfl, rfl⟩
    · rintro ⟨i, (hi : i ≤ l.length)⟩
      (simp only [go_sem, Prod.eta, Option.isSome_none, Option.isSome_some, Int.toNat_zero, Nat.reduceAdd, Nat.reduceMul, Nat.reduceSub, Nat.reduceEqDiff, Nat.reduceLT, Nat.reduceLeDiff, Nat.reduceShiftRight, Nat.reduceMod, Nat.reduceBEq, reduceCtorEq, reduceIte, reduceDIte, Int.reduceNeg, Bool.not_eq_true', Bool.not_eq_false', Bool.or_eq_true, Bool.or_eq_false_iff, Bool.and_eq_true, Bool.and_eq_false_iff, decide_eq_true_eq, decide_eq_false_iff_not, Classical.not_not, not_or, maxLen, con24, con53, hT, hG, hk, hK, Tryz.results24]); (try simp (disch := decide +kernel) only [drawn, true_and, and_true])
      refine ⟨fun hlt => ?_, fun hge => ?_⟩
      · have hi' : i < l.length := by omega
        have ek : ∀ z, l.getD (i : Int).toNat z = l[i] := fun z => by simp [hi']
        simp only [ek]
        have hst : openV (l.take (i + 1)) t = if isOpenV l[i] t = true then openV (l.take i) t ++ [l[i].1] else openV (l.take i) t := by
          rw [List.take_succ_eq_append_getElem hi', openV_snoc]
        have hlen := openV_len (l.take i) t
        rw [List.length_take] at hlen
        (repeat' (with_reducible (first | refine And.intro ?_ ?_ | intro _))) <;> (try (first | with_reducible (first | done | assumption | omega | contradiction) | decide))
        · have h : isOpenV l[i] t = true := by assumption
          refine fin_lp ⟨i + 1, by omega⟩ ?_ ?_
          · simp only [go_sem, Prod.eta, Option.isSome_none, Option.isSome_some, Int.toNat_zero, Nat.reduceAdd, Nat.reduceMul, Nat.reduceSub, Nat.reduceEqDiff, Nat.reduceLT, Nat.reduceLeDiff, Nat.reduceShiftRight, Nat.reduceMod, Nat.reduceBEq, reduceCtorEq, reduceIte, reduceDIte, Int.reduceNeg]
            rw [hst, if_pos h]
            exact ⟨rfl, rfl⟩
          · dsimp only; omega
        · have h : isOpenV l[i] t = false := by assumption
          refine fin_lp ⟨i + 1, by omega⟩ ?_ ?_
          · simp only [go_sem, Prod.eta, Option.isSome_none, Option.isSome_some, Int.toNat_zero, Nat.reduceAdd, Nat.reduceMul, Nat.reduceSub, Nat.reduceEqDiff, Nat.reduceLT, Nat.reduceLeDiff, Nat.reduceShiftRight, Nat.reduceMod, Nat.reduceBEq, reduceCtorEq, reduceIte, reduceDIte, Int.reduceNeg]
            rw [hst, if_neg (by rw [h]; simp)]
            exact ⟨rfl, rfl⟩
          · dsimp only; omega
      · rw [List.take_of_length_le (by omega)])
def planV (l : List Dep) : List Dep := l.filter (fun d => decide (d.state = 0))
theorem planV_snoc (l : List Dep) (d : Dep) : planV (l ++ [d]) = if d.state = 0 then planV l ++ [d] else planV l := by
  unfold planV
  rw [List.filter_append]
  by_cases h : d.state = 0
  · rw [if_pos h]; simp [h]
  · rw [if_neg h]; simp [h]
theorem planV_len (l : List Dep) : (planV l).length ≤ l.length := List.length_filter_le _ _
def con32 : Con := { ps := [.d false (.sl (.pair (.pair .str (.pair (.int .i64) (.pair .str (.int .i64)))) (.pair .str (.pair (.int .i64) (.pair (.int .i64) (.pair (.int .i64) (.pair (.int .i64) (.int .i64))))))))], rs := [.o 54 (.pair (.pair .str (.pair (.int .i64) (.pair .str (.int .i64)))) (.pair .str (.pair (.int .i64) (.pair (.int .i64) (.pair (.int .i64) (.pair (.int .i64) (.int .i64)))))))], pre := fun (x : List Dep × Unit) => x.1.length ≤ 1048576, out := fun x => (planV x.1, ()), nw := id }
theorem c32 : CtrOk Tryz.prog 32 con32.ctr :=
  con_sound (G := ⟨[], [], []⟩) tab_ok EnvOk.nil rfl Tryz.func32 rfl con32 65821 (by kernel_rfl) (by decide) (by decide) rfl (by decide) rfl (by
    rintro ⟨(l : List Dep), _⟩ hpre hwf X hT hG hk hK
    have hl : l.length ≤ 1048576 := hpre
    (simp only [go_sem, Prod.eta, Option.isSome_none, Option.isSome_some, Int.toNat_zero, Nat.reduceAdd, Nat.reduceMul, Nat.reduceSub, Nat.reduceEqDiff, Nat.reduceLT, Nat.reduceLeDiff, Nat.reduceShiftRight, Nat.reduceMod, Nat.reduceBEq, reduceCtorEq, reduceIte, reduceDIte, Int.reduceNeg, Bool.not_eq_true', Bool.not_eq_false', Bool.or_eq_true, Bool.or_eq_false_iff, Bool.and_eq_true, Bool.and_eq_false_iff, decide_eq_true_eq, decide_eq_false_iff_not, Classical.not_not, not_or, maxLen, con32, hT, hG, hk, hK, Tryz.results32] at hwf ⊢); (try simp (disch := decide +kernel) only [drawn, true_and, and_true])
    refine evk_loop ⟨{ i : Nat // i ≤ l.length }, 1000, fun i => [(0, .one (.sl (.pair (.pair .str (.pair (.int .i64) (.pair .str (.int .i64)))) (.pair .str (.pair (.int .i64) (.pair (.int .i64) (.pair (.int .i64) (.pair (.int .i64) (.int .i64))))))) l false)), (3, .one (.row 64)), (4, .one (.int .i64 i.1))], fun i => [(64, .row 54 (.pair (.pair .str (.pair (.int .i64) (.pair .str (.int .i64)))) (.pair .str (.pair (.int .i64) (.pair (.int .i64) (.pair (.int .i64) (.pair (.int .i64) (.int .i64))))))) (planV (l.take i.1)))], fun i => l.length - i.1⟩ ⟨0, by simp⟩ ?_ ?_
    · simp only [go_sem, Prod.eta, Option.isSome_none, Option.isSome_some, Int.toNat_zero, Nat.reduceAdd, Nat.reduceMul, Nat.reduceSub, Nat.reduceEqDiff, Nat.reduceLT, Nat.reduceLeDiff, Nat.reduceShiftRight, Nat.reduceMod, Nat.reduceBEq, reduceCtorEq, reduceIte, reduceDIte, Int.reduceNeg]
      exact ⟨rfl, rfl⟩
    · rintro ⟨i, (hi : i ≤ l.length)⟩
      (simp only [go_sem, Prod.eta, Option.isSome_none, Option.isSome_some, Int.toNat_zero, Nat.reduceAdd, Nat.reduceMul, Nat.reduceSub, Nat.reduceEqDiff, Nat.reduceLT, Nat.reduceLeDiff, Nat.reduceShiftRight, Nat.reduceMod, Nat.reduceBEq, reduceCtorEq, reduceIte, reduceDIte, Int.reduceNeg, Bool.not_eq_true', Bool.not_eq_false', Bool.or_eq_true, Bool.or_eq_false_iff, Bool.and_eq_true, Bool.and_eq_false_iff, decide_eq_true_eq, decide_eq_false_iff_not, Classical.not_not, not_or, maxLen, con32, hT, hG, hk, hK, Tryz.results32]); (try simp (disch := decide +kernel) only [drawn, true_and, and_true])
      refine fun _ => ⟨fun hlt => ?_, fun hge => ?_⟩
      · have hi' : i < l.length := by omega
        have ek : ∀ z, l.getD (i : Int).toNat z = l[i] := fun z => by simp [hi']
        simp only [ek]
        have hst : planV (l.take (i + 1)) = if l[i].state = 0 then planV (l.take i) ++ [l[i]] else planV (l.take i) := by
          rw [List.take_succ_eq_append_getElem hi', planV_snoc]
        have hlen := planV_len (l.take i)
        rw [List.length_take] at hlen
        (repeat' (with_reducible (first | refine And.intro ?_ ?_ | intro _))) <;> (try (first | with_reducible (first | done | assumption | omega | contradiction) | decide))
        · have h : l[i].state = 0 := by assumption
          refine fin_lp ⟨i + 1, by omega⟩ ?_ ?_
          · simp only [go_sem, Prod.eta, Option.isSome_none, Option.isSome_some, Int.toNat_zero, Nat.reduceAdd, Nat.reduceMul, Nat.reduceSub, Nat.reduceEqDiff, Nat.reduceLT, Nat.reduceLeDiff, Nat.reduceShiftRight, Nat.reduceMod, Nat.reduceBEq, reduceCtorEq, reduceIte, reduceDIte, Int.reduceNeg]
            rw [hst, if_pos h]
            exact ⟨rfl, rfl⟩
          · dsimp only; omega
        · have h : ¬ l[i].state = 0 := by assumption
          refine fin_lp ⟨i + 1, by omega⟩ ?_ ?_
          · simp only [go_sem, Prod.eta, Option.isSome_none, Option.isSome_some, Int.toNat_zero, Nat.reduceAdd, Nat.reduceMul, Nat.reduceSub, Nat.reduceEqDiff, Nat.reduceLT, Nat.reduceLeDiff, Nat.reduceShiftRight, Nat.reduceMod, Nat.reduceBEq, reduceCtorEq, reduceIte, reduceDIte, Int.reduceNeg]
            rw [hst, if_neg h]
            exact ⟨rfl, rfl⟩
          · dsimp only; omega
      · rw [List.take_of_length_le (by omega)])
theorem idxF_spec {α : Type} (p : α → Bool) : ∀ (l : List α) (k : Int), 0 ≤ k → (idxF p l k = -1 ∧ ∀ x ∈ l, p x = false) ∨ ∃ (i : Nat) (h : i < l.length), idxF p l k = k + i ∧ p l[i] = true ∧ ∀ x ∈ l.take i, p x = false
  | [], k, _ => .inl ⟨rfl, by simp⟩
  | x :: l, k, hk => by
    unfold idxF
    by_cases h : p x = true
    · rw [if_pos h]
      exact .inr ⟨0, by simp, by simp, by simpa using h, by simp⟩
    · rw [if_neg h]
      have hx : p x = false := by simpa using h
      rcases idxF_spec p l (k + 1) (by omega) with ⟨h1, h2⟩ | ⟨i, hi, h1, h2, h3⟩
      · exact .inl ⟨h1, fun y hy => by rcases List.mem_cons.1 hy with rfl | hy; exact hx; exact h2 y hy⟩
      · refine .inr ⟨i + 1, by simpa using hi, by rw [h1]; omega, by simpa using h2, fun y hy => ?_⟩
        rw [List.take_succ_cons] at hy
        rcases List.mem_cons.1 hy with rfl | hy
        · exact hx
        · exact h3 y hy
theorem planV_all {l : List Dep} (h : ∀ x ∈ l, (!decide (Dep.state x = 0)) = false) : planV l = l := by
  unfold planV
  rw [List.filter_eq_self]
  intro x hx
  have := h x hx
  simpa using this
theorem row_at {l R : List Dep} {r : Nat} (h : R.drop r = l.drop r) (h1 : r < R.length) (h2 : r < l.length) : R[r] = l[r] := by
  have e1 := List.drop_eq_getElem_cons h1
  have e2 := List.drop_eq_getElem_cons h2
  rw [h, e2] at e1
  exact (List.cons.inj e1).1.symm
def con54 : Con := { ps := [.oc 54 (.pair (.pair .str (.pair (.int .i64) (.pair .str (.int .i64)))) (.pair .str (.pair (.int .i64) (.pair (.int .i64) (.pair (.int .i64) (.pair (.int .i64) (.int .i64))))))), .cl 55 []], rs := [.o 54 (.pair (.pair .str (.pair (.int .i64) (.pair .str (.int .i64)))) (.pair .str (.pair (.int .i64) (.pair (.int .i64) (.pair (.int .i64) (.pair (.int .i64) (.int .i64)))))))], pre := fun x => x.1.length ≤ 1048576, out := fun x => (planV x.1, ()), nw := id }
theorem c54 : CtrOk Tryz.prog 54 con54.ctr :=
  con_sound (G := ⟨[(67, con67.ctr), (55, con55.ctr)], [], [(13, 2), (38, 1), (41, 2)]⟩) tab_ok (EnvOk.cons c67 has67 (EnvOk.cons c55 has55 EnvOk.nil)) rfl Tryz.func54 rfl con54 537399539 (by kernel_rfl) (by decide) (by decide) rfl (by decide) rfl (by
    rintro ⟨(l : List Dep), _⟩ hpre hwf X hT hG hk hK
    have hl : l.length ≤ 1048576 := hpre
    (simp only [go_sem, Prod.eta, Option.isSome_none, Option.isSome_some, Int.toNat_zero, Nat.reduceAdd, Nat.reduceMul, Nat.reduceSub, Nat.reduceEqDiff, Nat.reduceLT, Nat.reduceLeDiff, Nat.reduceShiftRight, Nat.reduceMod, Nat.reduceBEq, reduceCtorEq, reduceIte, reduceDIte, Int.reduceNeg, Bool.not_eq_true', Bool.not_eq_false', Bool.or_eq_true, Bool.or_eq_false_iff, Bool.and_eq_true, Bool.and_eq_false_iff, decide_eq_true_eq, decide_eq_false_iff_not, Classical.not_not, not_or, maxLen, con54, con67, con55, hT, hG, hk, hK, Tryz.results54] at hwf ⊢); (try simp (disch := decide +kernel) only [drawn, true_and, and_true])
    have hs := idxF_spec (fun d : Dep => !decide (d.state = 0)) l 0 (Int.le_refl _)
    generalize idxF (fun d : Dep => !decide (d.state = 0)) l 0 = q at hs ⊢
    refine fun _ => ⟨fun h => ?_, fun h => ?_⟩
    · rcases hs with ⟨_, h2⟩ | ⟨i, hi, h1, _⟩
      · exact (planV_all h2).symm
      · omega
    · rcases hs with ⟨h1, _⟩ | ⟨i, hi, h1, h2, h3⟩
      · exact absurd h1 h
      · refine ⟨⟨by omega, by omega⟩, ?_⟩
        have hq : q = i := by omega
        subst hq
        have b1 : l.take i = planV (l.take (i + 1)) := by
          rw [List.take_succ_eq_append_getElem hi, planV_snoc, planV_all h3, if_neg (by simpa using h2)]
        refine evk_loop ⟨{ q : Nat × Nat × List Dep // q.1 ≤ q.2.1 ∧ q.2.1 ≤ l.length ∧ q.2.2.length = l.length ∧ q.2.2.take q.1 = planV (l.take q.2.1) ∧ q.2.2.drop q.2.1 = l.drop q.2.1 }, 1000, fun q => [(0, .one (.row 0)), (1, .one (.fn 55 [])), (5, .one (.int .i64 q.1.1)), (6, .one (.int .i64 q.1.2.1))], fun q => [(0, .row 54 (.pair (.pair .str (.pair (.int .i64) (.pair .str (.int .i64)))) (.pair .str (.pair (.int .i64) (.pair (.int .i64) (.pair (.int .i64) (.pair (.int .i64) (.int .i64))))))) q.1.2.2)], fun q => l.length - q.1.2.1⟩ ⟨(i, i + 1, l), by simp, by simp; omega, rfl, b1, rfl⟩ ?_ ?_
        · simp only [go_sem, Prod.eta, Option.isSome_none, Option.isSome_some, Int.toNat_zero, Nat.reduceAdd, Nat.reduceMul, Nat.reduceSub, Nat.reduceEqDiff, Nat.reduceLT, Nat.reduceLeDiff, Nat.reduceShiftRight, Nat.reduceMod, Nat.reduceBEq, reduceCtorEq, reduceIte, reduceDIte, Int.reduceNeg]
          rfl
        · rintro ⟨⟨a, r, R⟩, (c1 : a ≤ r), (c2 : r ≤ l.length), (c3 : R.length = l.length), (c4 : R.take a = planV (l.take r)), (c5 : R.drop r = l.drop r)⟩
          (simp only [go_sem, Prod.eta, Option.isSome_none, Option.isSome_some, Int.toNat_zero, Nat.reduceAdd, Nat.reduceMul, Nat.reduceSub, Nat.reduceEqDiff, Nat.reduceLT, Nat.reduceLeDiff, Nat.reduceShiftRight, Nat.reduceMod, Nat.reduceBEq, reduceCtorEq, reduceIte, reduceDIte, Int.reduceNeg, Bool.not_eq_true', Bool.not_eq_false', Bool.or_eq_true, Bool.or_eq_false_iff, Bool.and_eq_true, Bool.and_eq_false_iff, decide_eq_true_eq, decide_eq_false_iff_not, Classical.not_not, not_or, maxLen, con54, con67, con55, hT, hG, hk, hK, Tryz.results54]); (try simp (disch := decide +kernel) only [drawn, true_and, and_true])
          refine fun _ => ⟨fun hlt => ?_, fun hge => ?_⟩
          · have hr : r < R.length := by omega
            have hr2 : r < l.length := by omega
            have ek : ∀ z, R.getD (r : Int).toNat z = l[r] := fun z => by rw [← row_at c5 hr hr2]; simp [hr]
            simp only [ek]
            have hd : R.drop (r + 1) = l.drop (r + 1) := by rw [← List.drop_drop, c5, List.drop_drop]
            have hst : planV (l.take (r + 1)) = if l[r].state = 0 then planV (l.take r) ++ [l[r]] else planV (l.take r) := by
              rw [List.take_succ_eq_append_getElem hr2, planV_snoc]
            (repeat' (with_reducible (first | refine And.intro ?_ ?_ | intro _))) <;> (try (first | with_reducible (first | done | assumption | omega | contradiction) | decide))
            · have h0 : l[r].state = 0 := by assumption
              have har : a < R.length := by omega
              refine fin_lp ⟨(a + 1, r + 1, R.set a l[r]), by dsimp only; omega, by dsimp only; omega, by dsimp only; rw [List.length_set]; exact c3, ?_, ?_⟩ (by simp only [go_sem, Prod.eta, Option.isSome_none, Option.isSome_some, Int.toNat_zero, Nat.reduceAdd, Nat.reduceMul, Nat.reduceSub, Nat.reduceEqDiff, Nat.reduceLT, Nat.reduceLeDiff, Nat.reduceShiftRight, Nat.reduceMod, Nat.reduceBEq, reduceCtorEq, reduceIte, reduceDIte, Int.reduceNeg]; first | rfl | ((repeat' apply And.intro) <;> first | rfl | assumption | omega)) (by dsimp only; omega)
              · dsimp only
                rw [hst, if_pos h0, ← c4, List.take_succ_eq_append_getElem (by rw [List.length_set]; omega), List.take_set_of_le (Nat.le_refl _), List.getElem_set_self]
              · dsimp only
                rw [List.drop_set_of_lt (by omega), hd]
            · have h0 : ¬ l[r].state = 0 := by assumption
              refine fin_lp ⟨(a, r + 1, R), by dsimp only; omega, by dsimp only; omega, c3, by dsimp only; rw [hst, if_neg h0]; exact c4, hd⟩ (by simp only [go_sem, Prod.eta, Option.isSome_none, Option.isSome_some, Int.toNat_zero, Nat.reduceAdd, Nat.reduceMul, Nat.reduceSub, Nat.reduceEqDiff, Nat.reduceLT, Nat.reduceLeDiff, Nat.reduceShiftRight, Nat.reduceMod, Nat.reduceBEq, reduceCtorEq, reduceIte, reduceDIte, Int.reduceNeg]; first | rfl | ((repeat' apply And.intro) <;> first | rfl | assumption | omega)) (by dsimp only; omega)
          · refine ⟨by omega, ?_⟩
            have hr : r = l.length := by omega
            have e1 : (a : Int).toNat = a := by omega
            have e2 : ((R.length : Int) - (a : Int)).toNat = R.length - a := by omega
            have e3 : (a + (R.length - a) ≤ R.length) = True := by rw [eq_iff_iff, iff_true]; omega
            (simp only [go_sem, Prod.eta, Option.isSome_none, Option.isSome_some, Int.toNat_zero, Nat.reduceAdd, Nat.reduceMul, Nat.reduceSub, Nat.reduceEqDiff, Nat.reduceLT, Nat.reduceLeDiff, Nat.reduceShiftRight, Nat.reduceMod, Nat.reduceBEq, reduceCtorEq, reduceIte, reduceDIte, Int.reduceNeg, Bool.not_eq_true', Bool.not_eq_false', Bool.or_eq_true, Bool.or_eq_false_iff, Bool.and_eq_true, Bool.and_eq_false_iff, decide_eq_true_eq, decide_eq_false_iff_not, Classical.not_not, not_or, maxLen, con54, con67, con55, hT, hG, hk, hK, Tryz.results54, e1, e2, e3]); (try simp (disch := decide +kernel) only [drawn, true_and, and_true])
            have e5 : (R.take a).length = a := by rw [List.length_take]; omega
            have e4 : List.take a (List.take a R ++ (List.replicate (R.length - a) ((ByteArray.empty, 0, ByteArray.empty, 0), ByteArray.empty, 0, 0, 0, 0, 0) ++ List.drop (a + (R.length - a)) R)) = planV l := by
              rw [List.take_append_of_le_length (by omega), List.take_of_length_le (by omega), c4, hr, List.take_of_length_le (Nat.le_refl _)]
            refine ⟨⟨by omega, ?_⟩, e4⟩
            rw [List.length_append, e5]
            omega)
end Go.Proofs.YtdmgmdppejopcaaGreat
