/- The contracts of the functions that the statements about the makeup reach: Check. -/
import Derived.Test.YtdmgmdppejopcaaMkM
set_option linter.unusedSimpArgs false
set_option linter.unusedVariables false
set_option maxRecDepth 100000
set_option maxHeartbeats 4000000
namespace Go.Proofs.Ytdmgmdppejopcaa
open Go.Ev

def depAt (l : List Dep) (i : Int) : Dep := l.getD i.toNat ((ByteArray.empty, 0, ByteArray.empty, 0), ByteArray.empty, 0, 0, 0, 0, 0)
def isPlanned (l : List Dep) (f : Flt) : Bool := decide (0 ≤ findV l f) && decide ((depAt l (findV l f)).state = 0)
def proofV (l : List Dep) (cs : List Int) (p : List All) (t : Int) (q : List Flt) : Int :=
  if (p.length : Int) > 0 then 4 else if ascF q = false then 9 else if q.all (isPlanned l) = false then 6 else if q.all (fun f => isOpenV (depAt l (findV l f)) t) = false then 7 else if (q.length : Int) ≤ cs.length then 8 else 0
theorem find_bd (l : List Dep) (f : Flt) : -1 ≤ findV l f ∧ findV l f < l.length := by
  unfold findV
  rcases idxF_spec (fun d : Dep => decide (d.1 = f)) l 0 (Int.le_refl _) with ⟨h, _⟩ | ⟨i, hi, h, _⟩ <;> omega
def con39 : Con := { ps := [.d false (.sl (.pair (.pair .str (.pair (.int .i64) (.pair .str (.int .i64)))) (.pair .str (.pair (.int .i64) (.pair (.int .i64) (.pair (.int .i64) (.pair (.int .i64) (.int .i64)))))))), .d false (.sl (.int .i64)), .d true (.pair (.sl (.pair (.pair .str (.pair (.int .i64) (.pair .str (.int .i64)))) (.int .i64))) (.pair (.int .i64) (.sl (.pair .str (.pair (.int .i64) (.pair .str (.int .i64)))))))], rs := [.d false (.int .i64)], pre := fun _ => True, out := fun (x : List Dep × List Int × Mk × Unit) => (proofV x.1 x.2.1 x.2.2.1.1 x.2.2.1.2.1 x.2.2.1.2.2, ()), nw := id }
theorem c39 : CtrOk Try.prog 39 con39.ctr :=
  con_sound (G := ⟨[(40, con40.ctr), (47, con47.ctr), (54, con54.ctr)], [], []⟩) tab_ok (EnvOk.cons c40 has40 (EnvOk.cons c47 has47 (EnvOk.cons c54 has54 EnvOk.nil))) rfl Try.func39 rfl con39 18590925782270905191 (by kernel_rfl) (by decide) (by decide) rfl (by decide) rfl (by
    rintro ⟨(l : List Dep), (cs : List Int), ⟨(p : List All), (t : Int), (q : List Flt)⟩, _⟩ hpre hwf X hT hG hk hK
    (simp only [go_sem, Prod.eta, Option.isSome_none, Option.isSome_some, Int.toNat_zero, Nat.reduceAdd, Nat.reduceMul, Nat.reduceSub, Nat.reduceEqDiff, Nat.reduceLT, Nat.reduceLeDiff, Nat.reduceShiftRight, Nat.reduceMod, Nat.reduceBEq, reduceCtorEq, reduceIte, reduceDIte, Int.reduceNeg, Bool.not_eq_true', Bool.not_eq_false', Bool.or_eq_true, Bool.or_eq_false_iff, Bool.and_eq_true, Bool.and_eq_false_iff, decide_eq_true_eq, decide_eq_false_iff_not, Classical.not_not, not_or, maxLen, con39, con40, con47, con54, hT, hG, hk, hK, Try.results39] at hwf ⊢); (try simp (disch := decide +kernel) only [drawn, true_and, and_true])
    (repeat' (with_reducible (first | refine And.intro ?_ ?_ | intro _))) <;> (try (first | with_reducible (first | done | assumption | omega | contradiction) | decide))
    · have h : (p.length : Int) > 0 := by assumption
      unfold proofV; rw [if_pos h]
    · have h0 : ¬ (p.length : Int) > 0 := by assumption
      have h : ascF q = false := by assumption
      unfold proofV; rw [if_neg h0, if_pos h]
    · have h0 : ¬ (p.length : Int) > 0 := by assumption
      have h1 : ascF q = true := by assumption
      have e0 : proofV l cs p t q = if q.all (isPlanned l) = false then 6 else if q.all (fun f => isOpenV (depAt l (findV l f)) t) = false then 7 else if (q.length : Int) ≤ cs.length then 8 else 0 := by
        unfold proofV; rw [if_neg h0, if_neg (by rw [h1]; simp)]
      refine evk_loop ⟨{ i : Nat // i ≤ q.length ∧ (q.take i).all (isPlanned l) = true }, 1000,
        fun i => [(0, .one (.sl (.pair (.pair .str (.pair (.int .i64) (.pair .str (.int .i64)))) (.pair .str (.pair (.int .i64) (.pair (.int .i64) (.pair (.int .i64) (.pair (.int .i64) (.int .i64))))))) l false)), (1, .one (.sl (.int .i64) cs false)), (5, .one (.loc 70 0)), (21, .one (.sl (.pair .str (.pair (.int .i64) (.pair .str (.int .i64)))) q false)), (22, .one (.int .i64 q.length)), (23, .one (.int .i64 i.1))],
        fun _ => [(70, .cells 42 (expl (.pair (.sl (.pair (.pair .str (.pair (.int .i64) (.pair .str (.int .i64)))) (.int .i64))) (.pair (.int .i64) (.sl (.pair .str (.pair (.int .i64) (.pair .str (.int .i64))))))) (p, t, q)))], fun i => q.length - i.1⟩ ⟨0, by simp, by simp⟩ ?_ ?_
      · simp only [go_sem, Prod.eta, Option.isSome_none, Option.isSome_some, Int.toNat_zero, Nat.reduceAdd, Nat.reduceMul, Nat.reduceSub, Nat.reduceEqDiff, Nat.reduceLT, Nat.reduceLeDiff, Nat.reduceShiftRight, Nat.reduceMod, Nat.reduceBEq, reduceCtorEq, reduceIte, reduceDIte, Int.reduceNeg]
        first
          | rfl
          | skip
      · rintro ⟨i, (hi : i ≤ q.length), (hx : (q.take i).all (isPlanned l) = true)⟩
        (simp only [go_sem, Prod.eta, Option.isSome_none, Option.isSome_some, Int.toNat_zero, Nat.reduceAdd, Nat.reduceMul, Nat.reduceSub, Nat.reduceEqDiff, Nat.reduceLT, Nat.reduceLeDiff, Nat.reduceShiftRight, Nat.reduceMod, Nat.reduceBEq, reduceCtorEq, reduceIte, reduceDIte, Int.reduceNeg, Bool.not_eq_true', Bool.not_eq_false', Bool.or_eq_true, Bool.or_eq_false_iff, Bool.and_eq_true, Bool.and_eq_false_iff, decide_eq_true_eq, decide_eq_false_iff_not, Classical.not_not, not_or, maxLen, con39, con40, con47, con54, hT, hG, hk, hK, Try.results39]); (try simp (disch := decide +kernel) only [drawn, true_and, and_true])
        refine ⟨fun hlt => ?_, fun hge => ?_⟩
        · have hi' : i < q.length := by omega
          have ek : ∀ z, q.getD (i : Int).toNat z = q[i] := fun z => by simp [hi']
          simp only [ek]
          have hb := find_bd l q[i]
          have hpl : isPlanned l q[i] = (decide (0 ≤ findV l q[i]) && decide ((depAt l (findV l q[i])).state = 0)) := rfl
          have hst : isPlanned l q[i] = true → (q.take (i + 1)).all (isPlanned l) = true := fun h => by
            rw [List.take_succ_eq_append_getElem hi', List.all_append, hx, List.all_cons, h]; rfl
          (repeat' (with_reducible (first | refine And.intro ?_ ?_ | intro _))) <;> (try (first | with_reducible (first | done | assumption | omega | contradiction) | decide))
          · have h : findV l q[i] < 0 ∨ ¬ (depAt l (findV l q[i])).state = 0 := by assumption
            have hf : isPlanned l q[i] = false := by
              rw [hpl]
              rcases h with h | h
              · rw [decide_eq_false (by omega)]; rfl
              · rw [decide_eq_false h, Bool.and_false]
            rw [e0, if_pos]
            rw [List.all_eq_false]
            exact ⟨q[i], List.getElem_mem hi', by rw [hf]; simp⟩
          · have h : ¬ findV l q[i] < 0 ∧ (depAt l (findV l q[i])).state = 0 := by assumption
            refine fin_lp ⟨i + 1, by omega, hst (by rw [hpl, decide_eq_true (by omega), decide_eq_true h.2]; rfl)⟩ (by simp only [go_sem, Prod.eta, Option.isSome_none, Option.isSome_some, Int.toNat_zero, Nat.reduceAdd, Nat.reduceMul, Nat.reduceSub, Nat.reduceEqDiff, Nat.reduceLT, Nat.reduceLeDiff, Nat.reduceShiftRight, Nat.reduceMod, Nat.reduceBEq, reduceCtorEq, reduceIte, reduceDIte, Int.reduceNeg]; first | rfl | ((repeat' apply And.intro) <;> first | rfl | assumption | omega)) (by dsimp only; omega)
        · rw [List.take_of_length_le (by omega)] at hx
          have e1 : proofV l cs p t q = if q.all (fun f => isOpenV (depAt l (findV l f)) t) = false then 7 else if (q.length : Int) ≤ cs.length then 8 else 0 := by
            rw [e0, if_neg (by rw [hx]; simp)]
          (repeat' (with_reducible (first | refine And.intro ?_ ?_ | intro _))) <;> (try (first | with_reducible (first | done | assumption | omega | contradiction) | decide))
          refine evk_loop ⟨{ i : Nat // i ≤ q.length ∧ (q.take i).all (fun f => isOpenV (depAt l (findV l f)) t) = true }, 2000,
            fun i => [(0, .one (.sl (.pair (.pair .str (.pair (.int .i64) (.pair .str (.int .i64)))) (.pair .str (.pair (.int .i64) (.pair (.int .i64) (.pair (.int .i64) (.pair (.int .i64) (.int .i64))))))) l false)), (1, .one (.sl (.int .i64) cs false)), (5, .one (.loc 70 0)), (42, .one (.sl (.pair .str (.pair (.int .i64) (.pair .str (.int .i64)))) q false)), (43, .one (.int .i64 q.length)), (44, .one (.int .i64 i.1))],
            fun _ => [(70, .cells 42 (expl (.pair (.sl (.pair (.pair .str (.pair (.int .i64) (.pair .str (.int .i64)))) (.int .i64))) (.pair (.int .i64) (.sl (.pair .str (.pair (.int .i64) (.pair .str (.int .i64))))))) (p, t, q)))], fun i => q.length - i.1⟩ ⟨0, by simp, by simp⟩ ?_ ?_
          · simp only [go_sem, Prod.eta, Option.isSome_none, Option.isSome_some, Int.toNat_zero, Nat.reduceAdd, Nat.reduceMul, Nat.reduceSub, Nat.reduceEqDiff, Nat.reduceLT, Nat.reduceLeDiff, Nat.reduceShiftRight, Nat.reduceMod, Nat.reduceBEq, reduceCtorEq, reduceIte, reduceDIte, Int.reduceNeg]
            first
              | rfl
              | skip
          · rintro ⟨i, (hi : i ≤ q.length), (hx2 : (q.take i).all (fun f => isOpenV (depAt l (findV l f)) t) = true)⟩
            (simp only [go_sem, Prod.eta, Option.isSome_none, Option.isSome_some, Int.toNat_zero, Nat.reduceAdd, Nat.reduceMul, Nat.reduceSub, Nat.reduceEqDiff, Nat.reduceLT, Nat.reduceLeDiff, Nat.reduceShiftRight, Nat.reduceMod, Nat.reduceBEq, reduceCtorEq, reduceIte, reduceDIte, Int.reduceNeg, Bool.not_eq_true', Bool.not_eq_false', Bool.or_eq_true, Bool.or_eq_false_iff, Bool.and_eq_true, Bool.and_eq_false_iff, decide_eq_true_eq, decide_eq_false_iff_not, Classical.not_not, not_or, maxLen, con39, con40, con47, con54, hT, hG, hk, hK, Try.results39]); (try simp (disch := decide +kernel) only [drawn, true_and, and_true])
            refine ⟨fun hlt => ?_, fun hge => ?_⟩
            · have hi' : i < q.length := by omega
              have ek : ∀ z, q.getD (i : Int).toNat z = q[i] := fun z => by simp [hi']
              simp only [ek]
              have hb := find_bd l q[i]
              have hpl : isPlanned l q[i] = true := List.all_eq_true.1 hx _ (List.getElem_mem hi')
              unfold isPlanned at hpl
              simp only [Bool.and_eq_true, decide_eq_true_eq] at hpl
              have hst : isOpenV (depAt l (findV l q[i])) t = true → (q.take (i + 1)).all (fun f => isOpenV (depAt l (findV l f)) t) = true := fun h => by
                rw [List.take_succ_eq_append_getElem hi', List.all_append, hx2, List.all_cons, h]; rfl
              (repeat' (with_reducible (first | refine And.intro ?_ ?_ | intro _))) <;> (try (first | with_reducible (first | done | assumption | omega | contradiction) | decide))
              · have h : isOpenV (depAt l (findV l q[i])) t = false := by assumption
                rw [e1, if_pos]
                rw [List.all_eq_false]
                exact ⟨q[i], List.getElem_mem hi', by rw [h]; simp⟩
              · have h : isOpenV (depAt l (findV l q[i])) t = true := by assumption
                refine fin_lp ⟨i + 1, by omega, hst h⟩ (by simp only [go_sem, Prod.eta, Option.isSome_none, Option.isSome_some, Int.toNat_zero, Nat.reduceAdd, Nat.reduceMul, Nat.reduceSub, Nat.reduceEqDiff, Nat.reduceLT, Nat.reduceLeDiff, Nat.reduceShiftRight, Nat.reduceMod, Nat.reduceBEq, reduceCtorEq, reduceIte, reduceDIte, Int.reduceNeg]; first | rfl | ((repeat' apply And.intro) <;> first | rfl | assumption | omega)) (by dsimp only; omega)
            · rw [List.take_of_length_le (by omega)] at hx2
              have e2 : proofV l cs p t q = if (q.length : Int) ≤ cs.length then 8 else 0 := by
                rw [e1, if_neg (by rw [hx2]; simp)]
              (repeat' (with_reducible (first | refine And.intro ?_ ?_ | intro _))) <;> (try (first | with_reducible (first | done | assumption | omega | contradiction) | decide))
              all_goals rename_i h
              all_goals first
                | (rw [e2, if_pos h]; done)
                | (rw [e2, if_neg h]; done))
def clashAt (p : List All) (a : List Dep) (i k : Nat) : Bool :=
  decide ((p.getD i ((ByteArray.empty, 0, ByteArray.empty, 0), 0)).2 = (p.getD k ((ByteArray.empty, 0, ByteArray.empty, 0), 0)).2) && overV (depAt a i) (depAt a k)
def noClash (p : List All) (a : List Dep) (i : Nat) : Bool := (List.range i).all fun k => !clashAt p a i k
def planC (l : List Dep) (cs : List Int) (p : List All) : Int :=
  if ascF (keysOf p) = false then 9 else if ¬ keysOf p = (planV l).map (fun d => d.1) then 6 else if p.all (fun a => decide (idxF (fun y : Int => decide (a.2 = y)) cs 0 ≥ 0)) = false then 1 else if (List.range (planV l).length).all (noClash p (planV l)) = false then 7 else 0
def checkV (l : List Dep) (cs : List Int) (p : List All) (t : Int) (q : List Flt) : Int :=
  if ¬ argsV l cs = 0 then argsV l cs else if (q.length : Int) > 0 then proofV l cs p t q else if ¬ t = 0 then 4 else planC l cs p
def con25 : Con := { ps := [.d false (.sl (.pair (.pair .str (.pair (.int .i64) (.pair .str (.int .i64)))) (.pair .str (.pair (.int .i64) (.pair (.int .i64) (.pair (.int .i64) (.pair (.int .i64) (.int .i64)))))))), .d false (.sl (.int .i64)), .d true (.pair (.sl (.pair (.pair .str (.pair (.int .i64) (.pair .str (.int .i64)))) (.int .i64))) (.pair (.int .i64) (.sl (.pair .str (.pair (.int .i64) (.pair .str (.int .i64)))))))], rs := [.d false (.int .i64)], pre := fun (x : List Dep × List Int × Mk × Unit) => x.1.length ≤ 1048576 ∧ x.2.2.1.1.length ≤ 1048576, out := fun (x : List Dep × List Int × Mk × Unit) => (checkV x.1 x.2.1 x.2.2.1.1 x.2.2.1.2.1 x.2.2.1.2.2, ()), nw := id }
theorem c25 : CtrOk Try.prog 25 con25.ctr :=
  con_sound (G := ⟨[(32, con32.ctr), (34, con34.ctr), (39, con39.ctr), (40, con40.ctr), (41, con41.ctr), (42, con42.ctr), (43, con43.ctr)], [], []⟩) tab_ok (EnvOk.cons c32 has32 (EnvOk.cons c34 has34 (EnvOk.cons c39 has39 (EnvOk.cons c40 has40 (EnvOk.cons c41 has41 (EnvOk.cons c42 has42 (EnvOk.cons c43 has43 EnvOk.nil))))))) rfl Try.func25 rfl con25 83076754341373693128188293101891047 (by kernel_rfl) (by decide) (by decide) rfl (by decide) rfl (by
    rintro ⟨(l : List Dep), (cs : List Int), ⟨(p : List All), (t : Int), (q : List Flt)⟩, _⟩ hpre hwf X hT hG hk hK
    obtain ⟨hl, hpl⟩ : l.length ≤ 1048576 ∧ p.length ≤ 1048576 := hpre
    (simp only [go_sem, Prod.eta, Option.isSome_none, Option.isSome_some, Int.toNat_zero, Nat.reduceAdd, Nat.reduceMul, Nat.reduceSub, Nat.reduceEqDiff, Nat.reduceLT, Nat.reduceLeDiff, Nat.reduceShiftRight, Nat.reduceMod, Nat.reduceBEq, reduceCtorEq, reduceIte, reduceDIte, Int.reduceNeg, Bool.not_eq_true', Bool.not_eq_false', Bool.or_eq_true, Bool.or_eq_false_iff, Bool.and_eq_true, Bool.and_eq_false_iff, decide_eq_true_eq, decide_eq_false_iff_not, Classical.not_not, not_or, maxLen, con25, con32, con34, con39, con40, con41, con42, con43, hT, hG, hk, hK, Try.results25] at hwf ⊢); (try simp (disch := decide +kernel) only [drawn, true_and, and_true])
    (repeat' (with_reducible (first | refine And.intro ?_ ?_ | intro _))) <;> (try (first | with_reducible (first | done | assumption | omega | contradiction) | decide))
    · have h : ¬ argsV l cs = 0 := by assumption
      unfold checkV; rw [if_pos h]
    · have h0 : argsV l cs = 0 := by assumption
      have h : (q.length : Int) > 0 := by assumption
      unfold checkV; rw [if_neg (by omega), if_pos h]
    · have h0 : argsV l cs = 0 := by assumption
      have h1 : ¬ (q.length : Int) > 0 := by assumption
      have h : ¬ t = 0 := by assumption
      unfold checkV; rw [if_neg (by omega), if_neg h1, if_pos h]
    · have h0 : argsV l cs = 0 := by assumption
      have h1 : ¬ (q.length : Int) > 0 := by assumption
      have h2 : t = 0 := by assumption
      have ev : checkV l cs p t q = planC l cs p := by
        unfold checkV; rw [if_neg (by omega), if_neg h1, if_neg (by omega)]
      have hA : (planV l).length ≤ 1048576 := Nat.le_trans (planV_len l) hl
      refine evk_loop ⟨{ i : Nat // i ≤ p.length }, 1000,
        fun i => [(0, .one (.sl (.pair (.pair .str (.pair (.int .i64) (.pair .str (.int .i64)))) (.pair .str (.pair (.int .i64) (.pair (.int .i64) (.pair (.int .i64) (.pair (.int .i64) (.int .i64))))))) l false)), (1, .one (.sl (.int .i64) cs false)), (5, .one (.loc 70 0)), (8, .one (.row 64)), (37, .one (.sl (.pair (.pair .str (.pair (.int .i64) (.pair .str (.int .i64)))) (.int .i64)) p false)), (38, .one (.int .i64 p.length)), (39, .one (.int .i64 i.1))],
        fun i => [(70, .cells 42 (expl (.pair (.sl (.pair (.pair .str (.pair (.int .i64) (.pair .str (.int .i64)))) (.int .i64))) (.pair (.int .i64) (.sl (.pair .str (.pair (.int .i64) (.pair .str (.int .i64))))))) (p, t, q))), (64, .row 34 (.pair .str (.pair (.int .i64) (.pair .str (.int .i64)))) (keysOf (p.take i.1)))], fun i => p.length - i.1⟩ ⟨0, by simp⟩ ?_ ?_
      · simp only [go_sem, Prod.eta, Option.isSome_none, Option.isSome_some, Int.toNat_zero, Nat.reduceAdd, Nat.reduceMul, Nat.reduceSub, Nat.reduceEqDiff, Nat.reduceLT, Nat.reduceLeDiff, Nat.reduceShiftRight, Nat.reduceMod, Nat.reduceBEq, reduceCtorEq, reduceIte, reduceDIte, Int.reduceNeg]
        exact ⟨rfl, rfl⟩
      · rintro ⟨i, (hi : i ≤ p.length)⟩
        (simp only [go_sem, Prod.eta, Option.isSome_none, Option.isSome_some, Int.toNat_zero, Nat.reduceAdd, Nat.reduceMul, Nat.reduceSub, Nat.reduceEqDiff, Nat.reduceLT, Nat.reduceLeDiff, Nat.reduceShiftRight, Nat.reduceMod, Nat.reduceBEq, reduceCtorEq, reduceIte, reduceDIte, Int.reduceNeg, Bool.not_eq_true', Bool.not_eq_false', Bool.or_eq_true, Bool.or_eq_false_iff, Bool.and_eq_true, Bool.and_eq_false_iff, decide_eq_true_eq, decide_eq_false_iff_not, Classical.not_not, not_or, maxLen, con25, con32, con34, con39, con40, con41, con42, con43, hT, hG, hk, hK, Try.results25]); (try simp (disch := decide +kernel) only [drawn, true_and, and_true])
        refine ⟨fun hlt => ?_, fun hge => ?_⟩
        · have hi' : i < p.length := by omega
          have ek : ∀ z, p.getD (i : Int).toNat z = p[i] := fun z => by simp [hi']
          simp only [ek]
          have hst : keysOf (p.take (i + 1)) = keysOf (p.take i) ++ [p[i].1] := by
            unfold keysOf
            rw [List.take_succ_eq_append_getElem hi', List.map_append]; rfl
          have hkl : (keysOf (p.take i)).length = i := by
            unfold keysOf
            rw [List.length_map, List.length_take]; omega
          (repeat' (with_reducible (first | refine And.intro ?_ ?_ | intro _))) <;> (try (first | with_reducible (first | done | assumption | omega | contradiction) | decide))
          refine fin_lp ⟨i + 1, by omega⟩ ?_ ?_
          · simp only [go_sem, Prod.eta, Option.isSome_none, Option.isSome_some, Int.toNat_zero, Nat.reduceAdd, Nat.reduceMul, Nat.reduceSub, Nat.reduceEqDiff, Nat.reduceLT, Nat.reduceLeDiff, Nat.reduceShiftRight, Nat.reduceMod, Nat.reduceBEq, reduceCtorEq, reduceIte, reduceDIte, Int.reduceNeg]
            rw [hst]
            first
              | exact ⟨rfl, rfl⟩
              | rfl
          · dsimp only; omega
        · rw [List.take_of_length_le (by omega)]
          (repeat' (with_reducible (first | refine And.intro ?_ ?_ | intro _))) <;> (try (first | with_reducible (first | done | assumption | omega | contradiction) | decide))
          · have h : ascF (keysOf p) = false := by assumption
            rw [ev]; unfold planC; rw [if_pos h]
          · have h3 : ascF (keysOf p) = true := by assumption
            have e1 : planC l cs p = if ¬ keysOf p = (planV l).map (fun d => d.1) then 6 else if p.all (fun a => decide (idxF (fun y : Int => decide (a.2 = y)) cs 0 ≥ 0)) = false then 1 else if (List.range (planV l).length).all (noClash p (planV l)) = false then 7 else 0 := by
              unfold planC; rw [if_neg (by rw [h3]; simp)]
            generalize hAe : planV l = A at *
            refine evk_loop ⟨{ i : Nat // i ≤ A.length }, 2000,
              fun i => [(0, .one (.sl (.pair (.pair .str (.pair (.int .i64) (.pair .str (.int .i64)))) (.pair .str (.pair (.int .i64) (.pair (.int .i64) (.pair (.int .i64) (.pair (.int .i64) (.int .i64))))))) l false)), (1, .one (.sl (.int .i64) cs false)), (5, .one (.loc 70 0)), (8, .one (.row 64)), (11, .one (.row 65)), (53, .one (.row 66)), (54, .one (.int .i64 A.length)), (55, .one (.int .i64 i.1))],
              fun i => [(70, .cells 42 (expl (.pair (.sl (.pair (.pair .str (.pair (.int .i64) (.pair .str (.int .i64)))) (.int .i64))) (.pair (.int .i64) (.sl (.pair .str (.pair (.int .i64) (.pair .str (.int .i64))))))) (p, t, q))), (64, .row 34 (.pair .str (.pair (.int .i64) (.pair .str (.int .i64)))) (keysOf p)), (65, .row 34 (.pair .str (.pair (.int .i64) (.pair .str (.int .i64)))) ((A.take i.1).map (fun d => d.1))), (66, .row 36 (.pair (.pair .str (.pair (.int .i64) (.pair .str (.int .i64)))) (.pair .str (.pair (.int .i64) (.pair (.int .i64) (.pair (.int .i64) (.pair (.int .i64) (.int .i64))))))) A)], fun i => A.length - i.1⟩ ⟨0, by simp⟩ ?_ ?_
            · simp only [go_sem, Prod.eta, Option.isSome_none, Option.isSome_some, Int.toNat_zero, Nat.reduceAdd, Nat.reduceMul, Nat.reduceSub, Nat.reduceEqDiff, Nat.reduceLT, Nat.reduceLeDiff, Nat.reduceShiftRight, Nat.reduceMod, Nat.reduceBEq, reduceCtorEq, reduceIte, reduceDIte, Int.reduceNeg]
              rfl
            · rintro ⟨i, (hi : i ≤ A.length)⟩
              (simp only [go_sem, Prod.eta, Option.isSome_none, Option.isSome_some, Int.toNat_zero, Nat.reduceAdd, Nat.reduceMul, Nat.reduceSub, Nat.reduceEqDiff, Nat.reduceLT, Nat.reduceLeDiff, Nat.reduceShiftRight, Nat.reduceMod, Nat.reduceBEq, reduceCtorEq, reduceIte, reduceDIte, Int.reduceNeg, Bool.not_eq_true', Bool.not_eq_false', Bool.or_eq_true, Bool.or_eq_false_iff, Bool.and_eq_true, Bool.and_eq_false_iff, decide_eq_true_eq, decide_eq_false_iff_not, Classical.not_not, not_or, maxLen, con25, con32, con34, con39, con40, con41, con42, con43, hT, hG, hk, hK, Try.results25]); (try simp (disch := decide +kernel) only [drawn, true_and, and_true])
              refine ⟨fun hlt => ?_, fun hge => ?_⟩
              · have hi' : i < A.length := by omega
                have ek : ∀ z, A.getD (i : Int).toNat z = A[i] := fun z => by simp [hi']
                simp only [ek]
                have hst : (A.take (i + 1)).map (fun d => d.1) = (A.take i).map (fun d => d.1) ++ [A[i].1] := by
                  rw [List.take_succ_eq_append_getElem hi', List.map_append]; rfl
                have hkl : ((A.take i).map (fun d => d.1)).length = i := by
                  rw [List.length_map, List.length_take]; omega
                (repeat' (with_reducible (first | refine And.intro ?_ ?_ | intro _))) <;> (try (first | with_reducible (first | done | assumption | omega | contradiction) | decide))
                refine fin_lp ⟨i + 1, by omega⟩ ?_ ?_
                · simp only [go_sem, Prod.eta, Option.isSome_none, Option.isSome_some, Int.toNat_zero, Nat.reduceAdd, Nat.reduceMul, Nat.reduceSub, Nat.reduceEqDiff, Nat.reduceLT, Nat.reduceLeDiff, Nat.reduceShiftRight, Nat.reduceMod, Nat.reduceBEq, reduceCtorEq, reduceIte, reduceDIte, Int.reduceNeg]
                  rw [hst]
                  first
                    | exact ⟨rfl, rfl⟩
                    | rfl
                · dsimp only; omega
              · rw [List.take_of_length_le (by omega)]
                (repeat' (with_reducible (first | refine And.intro ?_ ?_ | intro _))) <;> (try (first | with_reducible (first | done | assumption | omega | contradiction) | decide))
                · have h : ¬ keysOf p = A.map (fun d => d.1) := by assumption
                  rw [ev, e1, if_pos h]
                · have h4 : keysOf p = A.map (fun d => d.1) := by assumption
                  have e2 : planC l cs p = if p.all (fun a => decide (idxF (fun y : Int => decide (a.2 = y)) cs 0 ≥ 0)) = false then 1 else if (List.range A.length).all (noClash p A) = false then 7 else 0 := by
                    rw [e1, if_neg (fun k => k h4)]
                  have hpA : p.length = A.length := by
                    have := congrArg List.length h4
                    unfold keysOf at this
                    rwa [List.length_map, List.length_map] at this
                  refine evk_loop ⟨{ i : Nat // i ≤ p.length ∧ (p.take i).all (fun a => decide (idxF (fun y : Int => decide (a.2 = y)) cs 0 ≥ 0)) = true }, 3000,
                    fun i => [(0, .one (.sl (.pair (.pair .str (.pair (.int .i64) (.pair .str (.int .i64)))) (.pair .str (.pair (.int .i64) (.pair (.int .i64) (.pair (.int .i64) (.pair (.int .i64) (.int .i64))))))) l false)), (1, .one (.sl (.int .i64) cs false)), (5, .one (.loc 70 0)), (70, .one (.sl (.pair (.pair .str (.pair (.int .i64) (.pair .str (.int .i64)))) (.int .i64)) p false)), (71, .one (.int .i64 p.length)), (72, .one (.int .i64 i.1))],
                    fun i => [(70, .cells 42 (expl (.pair (.sl (.pair (.pair .str (.pair (.int .i64) (.pair .str (.int .i64)))) (.int .i64))) (.pair (.int .i64) (.sl (.pair .str (.pair (.int .i64) (.pair .str (.int .i64))))))) (p, t, q)))], fun i => p.length - i.1⟩ ⟨0, by simp, by simp⟩ ?_ ?_
                  · simp only [go_sem, Prod.eta, Option.isSome_none, Option.isSome_some, Int.toNat_zero, Nat.reduceAdd, Nat.reduceMul, Nat.reduceSub, Nat.reduceEqDiff, Nat.reduceLT, Nat.reduceLeDiff, Nat.reduceShiftRight, Nat.reduceMod, Nat.reduceBEq, reduceCtorEq, reduceIte, reduceDIte, Int.reduceNeg]
                    rfl
                  · rintro ⟨i, (hi : i ≤ p.length), (hx : (p.take i).all (fun a => decide (idxF (fun y : Int => decide (a.2 = y)) cs 0 ≥ 0)) = true)⟩
                    (simp only [go_sem, Prod.eta, Option.isSome_none, Option.isSome_some, Int.toNat_zero, Nat.reduceAdd, Nat.reduceMul, Nat.reduceSub, Nat.reduceEqDiff, Nat.reduceLT, Nat.reduceLeDiff, Nat.reduceShiftRight, Nat.reduceMod, Nat.reduceBEq, reduceCtorEq, reduceIte, reduceDIte, Int.reduceNeg, Bool.not_eq_true', Bool.not_eq_false', Bool.or_eq_true, Bool.or_eq_false_iff, Bool.and_eq_true, Bool.and_eq_false_iff, decide_eq_true_eq, decide_eq_false_iff_not, Classical.not_not, not_or, maxLen, con25, con32, con34, con39, con40, con41, con42, con43, hT, hG, hk, hK, Try.results25]); (try simp (disch := decide +kernel) only [drawn, true_and, and_true])
                    refine ⟨fun hlt => ?_, fun hge => ?_⟩
                    · have hi' : i < p.length := by omega
                      have ek : ∀ z, p.getD (i : Int).toNat z = p[i] := fun z => by simp [hi']
                      simp only [ek]
                      (repeat' (with_reducible (first | refine And.intro ?_ ?_ | intro _))) <;> (try (first | with_reducible (first | done | assumption | omega | contradiction) | decide))
                      · rename_i h
                        rw [ev, e2, if_pos]
                        rw [List.all_eq_false]
                        exact ⟨p[i], List.getElem_mem hi', by rw [decide_eq_true_eq]; exact h⟩
                      · rename_i h
                        refine fin_lp ⟨i + 1, by omega, by rw [List.take_succ_eq_append_getElem hi', List.all_append, hx, List.all_cons, decide_eq_true h]; rfl⟩ (by simp only [go_sem, Prod.eta, Option.isSome_none, Option.isSome_some, Int.toNat_zero, Nat.reduceAdd, Nat.reduceMul, Nat.reduceSub, Nat.reduceEqDiff, Nat.reduceLT, Nat.reduceLeDiff, Nat.reduceShiftRight, Nat.reduceMod, Nat.reduceBEq, reduceCtorEq, reduceIte, reduceDIte, Int.reduceNeg]; first | rfl | ((repeat' apply And.intro) <;> first | rfl | assumption | omega)) (by dsimp only; omega)
                    · rw [List.take_of_length_le (by omega)] at hx
                      have e3 : planC l cs p = if (List.range A.length).all (noClash p A) = false then 7 else 0 := by
                        rw [e2, if_neg (by rw [hx]; simp)]
                      rw [hAe]
                      (repeat' (with_reducible (first | refine And.intro ?_ ?_ | intro _))) <;> (try (first | with_reducible (first | done | assumption | omega | contradiction) | decide))
                      refine evk_loop ⟨{ i : Nat // i ≤ A.length ∧ (List.range i).all (noClash p A) = true }, 4000,
                        fun i => [(5, .one (.loc 70 0)), (16, .one (.row 66)), (85, .one (.int .i64 A.length)), (86, .one (.int .i64 i.1))],
                        fun i => [(70, .cells 42 (expl (.pair (.sl (.pair (.pair .str (.pair (.int .i64) (.pair .str (.int .i64)))) (.int .i64))) (.pair (.int .i64) (.sl (.pair .str (.pair (.int .i64) (.pair .str (.int .i64))))))) (p, t, q))), (66, .row 36 (.pair (.pair .str (.pair (.int .i64) (.pair .str (.int .i64)))) (.pair .str (.pair (.int .i64) (.pair (.int .i64) (.pair (.int .i64) (.pair (.int .i64) (.int .i64))))))) A)], fun i => A.length - i.1⟩ ⟨0, by simp, by simp⟩ ?_ ?_
                      · simp only [go_sem, Prod.eta, Option.isSome_none, Option.isSome_some, Int.toNat_zero, Nat.reduceAdd, Nat.reduceMul, Nat.reduceSub, Nat.reduceEqDiff, Nat.reduceLT, Nat.reduceLeDiff, Nat.reduceShiftRight, Nat.reduceMod, Nat.reduceBEq, reduceCtorEq, reduceIte, reduceDIte, Int.reduceNeg]
                        rfl
                      · rintro ⟨i, (hi : i ≤ A.length), (hy : (List.range i).all (noClash p A) = true)⟩
                        (simp only [go_sem, Prod.eta, Option.isSome_none, Option.isSome_some, Int.toNat_zero, Nat.reduceAdd, Nat.reduceMul, Nat.reduceSub, Nat.reduceEqDiff, Nat.reduceLT, Nat.reduceLeDiff, Nat.reduceShiftRight, Nat.reduceMod, Nat.reduceBEq, reduceCtorEq, reduceIte, reduceDIte, Int.reduceNeg, Bool.not_eq_true', Bool.not_eq_false', Bool.or_eq_true, Bool.or_eq_false_iff, Bool.and_eq_true, Bool.and_eq_false_iff, decide_eq_true_eq, decide_eq_false_iff_not, Classical.not_not, not_or, maxLen, con25, con32, con34, con39, con40, con41, con42, con43, hT, hG, hk, hK, Try.results25]); (try simp (disch := decide +kernel) only [drawn, true_and, and_true])
                        refine ⟨fun hlt => ?_, fun hge => ?_⟩
                        · have hi' : i < A.length := by omega
                          (repeat' (with_reducible (first | refine And.intro ?_ ?_ | intro _))) <;> (try (first | with_reducible (first | done | assumption | omega | contradiction) | decide))
                          refine evk_loop ⟨{ k : Nat // k ≤ i ∧ (List.range k).all (fun k => !clashAt p A i k) = true }, 5000,
                            fun k => [(5, .one (.loc 70 0)), (16, .one (.row 66)), (17, .one (.int .i64 i)), (85, .one (.int .i64 A.length)), (86, .one (.int .i64 i)), (89, .one (.int .i64 i)), (90, .one (.int .i64 k.1))],
                            fun k => [(70, .cells 42 (expl (.pair (.sl (.pair (.pair .str (.pair (.int .i64) (.pair .str (.int .i64)))) (.int .i64))) (.pair (.int .i64) (.sl (.pair .str (.pair (.int .i64) (.pair .str (.int .i64))))))) (p, t, q))), (66, .row 36 (.pair (.pair .str (.pair (.int .i64) (.pair .str (.int .i64)))) (.pair .str (.pair (.int .i64) (.pair (.int .i64) (.pair (.int .i64) (.pair (.int .i64) (.int .i64))))))) A)], fun k => i - k.1⟩ ⟨0, by simp, by simp⟩ ?_ ?_
                          · simp only [go_sem, Prod.eta, Option.isSome_none, Option.isSome_some, Int.toNat_zero, Nat.reduceAdd, Nat.reduceMul, Nat.reduceSub, Nat.reduceEqDiff, Nat.reduceLT, Nat.reduceLeDiff, Nat.reduceShiftRight, Nat.reduceMod, Nat.reduceBEq, reduceCtorEq, reduceIte, reduceDIte, Int.reduceNeg]
                            rfl
                          · rintro ⟨k, (hk2 : k ≤ i), (hz : (List.range k).all (fun k => !clashAt p A i k) = true)⟩
                            (simp only [go_sem, Prod.eta, Option.isSome_none, Option.isSome_some, Int.toNat_zero, Nat.reduceAdd, Nat.reduceMul, Nat.reduceSub, Nat.reduceEqDiff, Nat.reduceLT, Nat.reduceLeDiff, Nat.reduceShiftRight, Nat.reduceMod, Nat.reduceBEq, reduceCtorEq, reduceIte, reduceDIte, Int.reduceNeg, Bool.not_eq_true', Bool.not_eq_false', Bool.or_eq_true, Bool.or_eq_false_iff, Bool.and_eq_true, Bool.and_eq_false_iff, decide_eq_true_eq, decide_eq_false_iff_not, Classical.not_not, not_or, maxLen, con25, con32, con34, con39, con40, con41, con42, con43, hT, hG, hk, hK, Try.results25]); (try simp (disch := decide +kernel) only [drawn, true_and, and_true])
                            refine ⟨fun hlt2 => ?_, fun hge2 => ?_⟩
                            · have ei : (i : Int).toNat = i := by omega
                              have ek2 : (k : Int).toNat = k := by omega
                              simp only [ei, ek2]
                              have hcl : clashAt p A i k = (decide ((p.getD i ((ByteArray.empty, 0, ByteArray.empty, 0), 0)).2 = (p.getD k ((ByteArray.empty, 0, ByteArray.empty, 0), 0)).2) && overV (A.getD i ((ByteArray.empty, 0, ByteArray.empty, 0), ByteArray.empty, 0, 0, 0, 0, 0)) (A.getD k ((ByteArray.empty, 0, ByteArray.empty, 0), ByteArray.empty, 0, 0, 0, 0, 0))) := rfl
                              generalize p.getD i ((ByteArray.empty, 0, ByteArray.empty, 0), 0) = u1 at hcl ⊢
                              generalize p.getD k ((ByteArray.empty, 0, ByteArray.empty, 0), 0) = u2 at hcl ⊢
                              generalize A.getD i ((ByteArray.empty, 0, ByteArray.empty, 0), ByteArray.empty, 0, 0, 0, 0, 0) = u3 at hcl ⊢
                              generalize A.getD k ((ByteArray.empty, 0, ByteArray.empty, 0), ByteArray.empty, 0, 0, 0, 0, 0) = u4 at hcl ⊢
                              (repeat' (with_reducible (first | refine And.intro ?_ ?_ | intro _))) <;> (try (first | with_reducible (first | done | assumption | omega | contradiction) | decide))
                              · have h : u1.2 = u2.2 ∧ overV u3 u4 = true := by assumption
                                have hc : clashAt p A i k = true := by rw [hcl, decide_eq_true h.1, h.2]; rfl
                                rw [ev, e3, if_pos]
                                rw [List.all_eq_false]
                                refine ⟨i, List.mem_range.2 hi', ?_⟩
                                unfold noClash
                                rw [Bool.not_eq_true, List.all_eq_false]
                                exact ⟨k, List.mem_range.2 (by omega), by rw [hc]; simp⟩
                              · have h : ¬ u1.2 = u2.2 ∨ overV u3 u4 = false := by assumption
                                have hc : clashAt p A i k = false := by
                                  rw [hcl]
                                  rcases h with h | h
                                  · rw [decide_eq_false h]; rfl
                                  · rw [h, Bool.and_false]
                                refine fin_lp ⟨k + 1, by omega, by rw [List.range_succ, List.all_append, hz, List.all_cons, hc]; rfl⟩ (by simp only [go_sem, Prod.eta, Option.isSome_none, Option.isSome_some, Int.toNat_zero, Nat.reduceAdd, Nat.reduceMul, Nat.reduceSub, Nat.reduceEqDiff, Nat.reduceLT, Nat.reduceLeDiff, Nat.reduceShiftRight, Nat.reduceMod, Nat.reduceBEq, reduceCtorEq, reduceIte, reduceDIte, Int.reduceNeg]; first | rfl | ((repeat' apply And.intro) <;> first | rfl | assumption | omega)) (by dsimp only; omega)
                            · have hki : k = i := by omega
                              subst hki
                              (repeat' (with_reducible (first | refine And.intro ?_ ?_ | intro _))) <;> (try (first | with_reducible (first | done | assumption | omega | contradiction) | decide))
                              refine fin_lp ⟨k + 1, by omega, by rw [List.range_succ, List.all_append, hy, List.all_cons]; unfold noClash; rw [hz]; rfl⟩ (by simp only [go_sem, Prod.eta, Option.isSome_none, Option.isSome_some, Int.toNat_zero, Nat.reduceAdd, Nat.reduceMul, Nat.reduceSub, Nat.reduceEqDiff, Nat.reduceLT, Nat.reduceLeDiff, Nat.reduceShiftRight, Nat.reduceMod, Nat.reduceBEq, reduceCtorEq, reduceIte, reduceDIte, Int.reduceNeg]; first | rfl | ((repeat' apply And.intro) <;> first | rfl | assumption | omega)) (by dsimp only; omega)
                        · have hAl : i = A.length := by omega
                          subst hAl
                          (repeat' (with_reducible (first | refine And.intro ?_ ?_ | intro _))) <;> (try (first | with_reducible (first | done | assumption | omega | contradiction) | decide))
                          rw [ev, e3, if_neg (by rw [hy]; simp)])
end Go.Proofs.Ytdmgmdppejopcaa
