/- The contracts of the reference's functions: Check. -/
import Derived.Test.YtdmgmdppejopcaaGreatMpSToX
set_option linter.unusedSimpArgs false
set_option linter.unusedVariables false
set_option maxRecDepth 100000
set_option maxHeartbeats 4000000
namespace Go.Proofs.YtdmgmdppejopcaaGreat
open Go.Ev

def hasF (a : List Dep) (f : Flt) : Bool := decide (0 ≤ findV a f)
def opF (a : List Dep) (t : Int) (f : Flt) : Bool := isOpenV (depAt a (findV a f)) t
def proofR (a : List Dep) (cs : List Int) (p : List All) (t : Int) (q : List Flt) : Int :=
  if (p.length : Int) > 0 then 4 else if ascF q = false then 9 else if q.all (hasF a) = false then 6 else if q.all (opF a t) = false then 7 else if (q.length : Int) ≤ cs.length then 8 else 0
def inCs (cs : List Int) (a : All) : Bool := cs.any (fun c => decide (a.2 = c))
def clashR (p : List All) (a : List Dep) (i k : Nat) : Bool :=
  decide ((p.getD i ((ByteArray.empty, 0, ByteArray.empty, 0), 0)).2 = (p.getD k ((ByteArray.empty, 0, ByteArray.empty, 0), 0)).2) && overR (depAt a i) (depAt a k)
def noClashR (p : List All) (a : List Dep) (i : Nat) : Bool := (List.range i).all fun k => !clashR p a i k
def planR (a : List Dep) (cs : List Int) (p : List All) : Int :=
  if ascF (keysOf p) = false then 9 else if ¬ keysOf p = a.map (fun d => d.1) then 6 else if p.all (inCs cs) = false then 1 else if (List.range a.length).all (noClashR p a) = false then 7 else 0
def checkR (l : List Dep) (cs : List Int) (p : List All) (t : Int) (q : List Flt) : Int :=
  if ¬ argsV l cs = 0 then argsV l cs else if (q.length : Int) > 0 then proofR (planV l) cs p t q else if ¬ t = 0 then 4 else planR (planV l) cs p
def con18 : Con := { ps := [.d false (.sl (.pair (.pair .str (.pair (.int .i64) (.pair .str (.int .i64)))) (.pair .str (.pair (.int .i64) (.pair (.int .i64) (.pair (.int .i64) (.pair (.int .i64) (.int .i64)))))))), .d false (.sl (.int .i64)), .d true (.pair (.sl (.pair (.pair .str (.pair (.int .i64) (.pair .str (.int .i64)))) (.int .i64))) (.pair (.int .i64) (.sl (.pair .str (.pair (.int .i64) (.pair .str (.int .i64)))))))], rs := [.d false (.int .i64)], pre := fun (x : List Dep × List Int × Mk × Unit) => x.1.length ≤ 1048576 ∧ x.2.2.1.1.length ≤ 1048576, out := fun (x : List Dep × List Int × Mk × Unit) => (checkR x.1 x.2.1 x.2.2.1.1 x.2.2.1.2.1 x.2.2.1.2.2, ()), nw := id }
theorem c18 : CtrOk Tryz.prog 18 con18.ctr :=
  con_sound (G := ⟨[(29, con29.ctr), (32, con32.ctr), (34, con34.ctr), (42, con42.ctr), (48, con48.ctr), (49, con49.ctr)], [], []⟩) tab_ok (EnvOk.cons c29 has29 (EnvOk.cons c32 has32 (EnvOk.cons c34 has34 (EnvOk.cons c42 has42 (EnvOk.cons c48 has48 (EnvOk.cons c49 has49 EnvOk.nil)))))) rfl Tryz.func18 rfl con18 49039858062722514104359454272013668293483626639798501351 (by kernel_rfl) (by decide) (by decide) rfl (by decide) rfl (by
    rintro ⟨(l : List Dep), (cs : List Int), ⟨(p : List All), (t : Int), (q : List Flt)⟩, _⟩ hpre hwf X hT hG hk hK
    obtain ⟨hl, hpl⟩ : l.length ≤ 1048576 ∧ p.length ≤ 1048576 := hpre
    (simp only [go_sem, Prod.eta, Option.isSome_none, Option.isSome_some, Int.toNat_zero, Nat.reduceAdd, Nat.reduceMul, Nat.reduceSub, Nat.reduceEqDiff, Nat.reduceLT, Nat.reduceLeDiff, Nat.reduceShiftRight, Nat.reduceMod, Nat.reduceBEq, reduceCtorEq, reduceIte, reduceDIte, Int.reduceNeg, Bool.not_eq_true', Bool.not_eq_false', Bool.or_eq_true, Bool.or_eq_false_iff, Bool.and_eq_true, Bool.and_eq_false_iff, decide_eq_true_eq, decide_eq_false_iff_not, Classical.not_not, not_or, maxLen, con18, con29, con32, con34, con42, con48, con49, hT, hG, hk, hK, Tryz.results18] at hwf ⊢); (try simp (disch := decide +kernel) only [drawn, true_and, and_true])
    (repeat' (with_reducible (first | refine And.intro ?_ ?_ | intro _))) <;> (try (first | with_reducible (first | done | assumption | omega | contradiction) | decide))
    · have h : ¬ argsV l cs = 0 := by assumption
      unfold checkR; rw [if_pos h]
    · have h0 : argsV l cs = 0 := by assumption
      have h : (q.length : Int) > 0 := by assumption
      have h1 : (p.length : Int) > 0 := by assumption
      unfold checkR; rw [if_neg (by omega), if_pos h]; unfold proofR; rw [if_pos h1]
    · have h0 : argsV l cs = 0 := by assumption
      have h : (q.length : Int) > 0 := by assumption
      have h1 : ¬ (p.length : Int) > 0 := by assumption
      have h2 : ascF q = false := by assumption
      unfold checkR; rw [if_neg (by omega), if_pos h]; unfold proofR; rw [if_neg h1, if_pos h2]
    · have h0 : argsV l cs = 0 := by assumption
      have h : (q.length : Int) > 0 := by assumption
      have h1 : ¬ (p.length : Int) > 0 := by assumption
      have h2 : ascF q = true := by assumption
      have ev : checkR l cs p t q = if q.all (hasF (planV l)) = false then 6 else if q.all (opF (planV l) t) = false then 7 else if (q.length : Int) ≤ cs.length then 8 else 0 := by
        unfold checkR; rw [if_neg (by omega), if_pos h]; unfold proofR; rw [if_neg h1, if_neg (by rw [h2]; simp)]
      generalize planV l = A at *
      refine evk_loop ⟨{ i : Nat // i ≤ q.length ∧ (q.take i).all (hasF A) = true }, 1000,
        fun i => [(1, .one (.sl (.int .i64) cs false)), (5, .one (.loc 70 0)), (8, .one (.row 66)), (9, .one (.int .i64 i.1))],
        fun _ => [(70, .cells 34 (expl (.pair (.sl (.pair (.pair .str (.pair (.int .i64) (.pair .str (.int .i64)))) (.int .i64))) (.pair (.int .i64) (.sl (.pair .str (.pair (.int .i64) (.pair .str (.int .i64))))))) (p, t, q))), (66, .row 54 (.pair (.pair .str (.pair (.int .i64) (.pair .str (.int .i64)))) (.pair .str (.pair (.int .i64) (.pair (.int .i64) (.pair (.int .i64) (.pair (.int .i64) (.int .i64))))))) A)], fun i => q.length - i.1⟩ ⟨0, by simp, by simp⟩ ?_ ?_
      · simp only [go_sem, Prod.eta, Option.isSome_none, Option.isSome_some, Int.toNat_zero, Nat.reduceAdd, Nat.reduceMul, Nat.reduceSub, Nat.reduceEqDiff, Nat.reduceLT, Nat.reduceLeDiff, Nat.reduceShiftRight, Nat.reduceMod, Nat.reduceBEq, reduceCtorEq, reduceIte, reduceDIte, Int.reduceNeg]
        first
          | rfl
          | skip
      · rintro ⟨i, (hi : i ≤ q.length), (hx : (q.take i).all (hasF A) = true)⟩
        (simp only [go_sem, Prod.eta, Option.isSome_none, Option.isSome_some, Int.toNat_zero, Nat.reduceAdd, Nat.reduceMul, Nat.reduceSub, Nat.reduceEqDiff, Nat.reduceLT, Nat.reduceLeDiff, Nat.reduceShiftRight, Nat.reduceMod, Nat.reduceBEq, reduceCtorEq, reduceIte, reduceDIte, Int.reduceNeg, Bool.not_eq_true', Bool.not_eq_false', Bool.or_eq_true, Bool.or_eq_false_iff, Bool.and_eq_true, Bool.and_eq_false_iff, decide_eq_true_eq, decide_eq_false_iff_not, Classical.not_not, not_or, maxLen, con18, con29, con32, con34, con42, con48, con49, hT, hG, hk, hK, Tryz.results18]); (try simp (disch := decide +kernel) only [drawn, true_and, and_true])
        refine fun _ => ⟨fun hlt => ?_, fun hge => ?_⟩
        · have hi' : i < q.length := by omega
          have ek : ∀ z, q.getD (i : Int).toNat z = q[i] := fun z => by simp [hi']
          simp only [ek]
          have hpl : hasF A q[i] = decide (0 ≤ findV A q[i]) := rfl
          (repeat' (with_reducible (first | refine And.intro ?_ ?_ | intro _))) <;> (try (first | with_reducible (first | done | assumption | omega | contradiction) | decide))
          · have h : findV A q[i] < 0 := by assumption
            rw [ev, if_pos]
            rw [List.all_eq_false]
            exact ⟨q[i], List.getElem_mem hi', by rw [hpl, decide_eq_false (by omega)]; simp⟩
          · have h : ¬ findV A q[i] < 0 := by assumption
            refine fin_lp ⟨i + 1, by omega, by rw [List.take_succ_eq_append_getElem hi', List.all_append, hx, List.all_cons, hpl, decide_eq_true (by omega)]; rfl⟩ (by simp only [go_sem, Prod.eta, Option.isSome_none, Option.isSome_some, Int.toNat_zero, Nat.reduceAdd, Nat.reduceMul, Nat.reduceSub, Nat.reduceEqDiff, Nat.reduceLT, Nat.reduceLeDiff, Nat.reduceShiftRight, Nat.reduceMod, Nat.reduceBEq, reduceCtorEq, reduceIte, reduceDIte, Int.reduceNeg]; first | rfl | ((repeat' apply And.intro) <;> first | rfl | assumption | omega)) (by dsimp only; omega)
        · rw [List.take_of_length_le (by omega)] at hx
          have e1 : checkR l cs p t q = if q.all (opF A t) = false then 7 else if (q.length : Int) ≤ cs.length then 8 else 0 := by
            rw [ev, if_neg (by rw [hx]; simp)]
          refine evk_loop ⟨{ i : Nat // i ≤ q.length ∧ (q.take i).all (opF A t) = true }, 2000,
            fun i => [(1, .one (.sl (.int .i64) cs false)), (5, .one (.loc 70 0)), (8, .one (.row 66)), (10, .one (.int .i64 i.1))],
            fun _ => [(70, .cells 34 (expl (.pair (.sl (.pair (.pair .str (.pair (.int .i64) (.pair .str (.int .i64)))) (.int .i64))) (.pair (.int .i64) (.sl (.pair .str (.pair (.int .i64) (.pair .str (.int .i64))))))) (p, t, q))), (66, .row 54 (.pair (.pair .str (.pair (.int .i64) (.pair .str (.int .i64)))) (.pair .str (.pair (.int .i64) (.pair (.int .i64) (.pair (.int .i64) (.pair (.int .i64) (.int .i64))))))) A)], fun i => q.length - i.1⟩ ⟨0, by simp, by simp⟩ ?_ ?_
          · simp only [go_sem, Prod.eta, Option.isSome_none, Option.isSome_some, Int.toNat_zero, Nat.reduceAdd, Nat.reduceMul, Nat.reduceSub, Nat.reduceEqDiff, Nat.reduceLT, Nat.reduceLeDiff, Nat.reduceShiftRight, Nat.reduceMod, Nat.reduceBEq, reduceCtorEq, reduceIte, reduceDIte, Int.reduceNeg]
            first
              | rfl
              | skip
          · rintro ⟨i, (hi : i ≤ q.length), (hy : (q.take i).all (opF A t) = true)⟩
            (simp only [go_sem, Prod.eta, Option.isSome_none, Option.isSome_some, Int.toNat_zero, Nat.reduceAdd, Nat.reduceMul, Nat.reduceSub, Nat.reduceEqDiff, Nat.reduceLT, Nat.reduceLeDiff, Nat.reduceShiftRight, Nat.reduceMod, Nat.reduceBEq, reduceCtorEq, reduceIte, reduceDIte, Int.reduceNeg, Bool.not_eq_true', Bool.not_eq_false', Bool.or_eq_true, Bool.or_eq_false_iff, Bool.and_eq_true, Bool.and_eq_false_iff, decide_eq_true_eq, decide_eq_false_iff_not, Classical.not_not, not_or, maxLen, con18, con29, con32, con34, con42, con48, con49, hT, hG, hk, hK, Tryz.results18]); (try simp (disch := decide +kernel) only [drawn, true_and, and_true])
            refine fun _ => ⟨fun hlt => ?_, fun hge => ?_⟩
            · have hi' : i < q.length := by omega
              have ek : ∀ z, q.getD (i : Int).toNat z = q[i] := fun z => by simp [hi']
              simp only [ek]
              have hb := find_bd A q[i]
              have hh : hasF A q[i] = true := List.all_eq_true.1 hx _ (List.getElem_mem hi')
              have h3 : 0 ≤ findV A q[i] := of_decide_eq_true hh
              have hpl : opF A t q[i] = isOpenV (A.getD (findV A q[i]).toNat ((ByteArray.empty, 0, ByteArray.empty, 0), ByteArray.empty, 0, 0, 0, 0, 0)) t := rfl
              (repeat' (with_reducible (first | refine And.intro ?_ ?_ | intro _))) <;> (try (first | with_reducible (first | done | assumption | omega | contradiction) | decide))
              · rename_i h
                rw [e1, if_pos]
                rw [List.all_eq_false]
                exact ⟨q[i], List.getElem_mem hi', by rw [hpl, h]; simp⟩
              · rename_i h
                refine fin_lp ⟨i + 1, by omega, by rw [List.take_succ_eq_append_getElem hi', List.all_append, hy, List.all_cons, hpl, h]; rfl⟩ (by simp only [go_sem, Prod.eta, Option.isSome_none, Option.isSome_some, Int.toNat_zero, Nat.reduceAdd, Nat.reduceMul, Nat.reduceSub, Nat.reduceEqDiff, Nat.reduceLT, Nat.reduceLeDiff, Nat.reduceShiftRight, Nat.reduceMod, Nat.reduceBEq, reduceCtorEq, reduceIte, reduceDIte, Int.reduceNeg]; first | rfl | ((repeat' apply And.intro) <;> first | rfl | assumption | omega)) (by dsimp only; omega)
            · rw [List.take_of_length_le (by omega)] at hy
              rw [e1, if_neg (by rw [hy]; simp)]
              (repeat' (with_reducible (first | refine And.intro ?_ ?_ | intro _))) <;> (try (first | with_reducible (first | done | assumption | omega | contradiction) | decide))
              all_goals first
                | (rename_i h
                   rw [if_pos h]; done)
                | (rename_i h
                   rw [if_neg h]; done)
    · have h0 : argsV l cs = 0 := by assumption
      have h1 : ¬ (q.length : Int) > 0 := by assumption
      have h : ¬ t = 0 := by assumption
      unfold checkR; rw [if_neg (by omega), if_neg h1, if_pos h]
    · have h0 : argsV l cs = 0 := by assumption
      have h1 : ¬ (q.length : Int) > 0 := by assumption
      have h2 : t = 0 := by assumption
      have ev : checkR l cs p t q = planR (planV l) cs p := by
        unfold checkR; rw [if_neg (by omega), if_neg h1, if_neg (by omega)]
      have hA : (planV l).length ≤ 1048576 := Nat.le_trans (planV_len l) hl
      generalize planV l = A at *
      refine evk_loop ⟨{ i : Nat // i ≤ p.length }, 1000,
        fun i => [(1, .one (.sl (.int .i64) cs false)), (5, .one (.loc 70 0)), (8, .one (.row 66)), (11, .one (.row 64)), (12, .one (.int .i64 i.1))],
        fun i => [(70, .cells 34 (expl (.pair (.sl (.pair (.pair .str (.pair (.int .i64) (.pair .str (.int .i64)))) (.int .i64))) (.pair (.int .i64) (.sl (.pair .str (.pair (.int .i64) (.pair .str (.int .i64))))))) (p, t, q))), (66, .row 54 (.pair (.pair .str (.pair (.int .i64) (.pair .str (.int .i64)))) (.pair .str (.pair (.int .i64) (.pair (.int .i64) (.pair (.int .i64) (.pair (.int .i64) (.int .i64))))))) A), (64, .row 50 (.pair .str (.pair (.int .i64) (.pair .str (.int .i64)))) (keysOf (p.take i.1)))], fun i => p.length - i.1⟩ ⟨0, by simp⟩ ?_ ?_
      · simp only [go_sem, Prod.eta, Option.isSome_none, Option.isSome_some, Int.toNat_zero, Nat.reduceAdd, Nat.reduceMul, Nat.reduceSub, Nat.reduceEqDiff, Nat.reduceLT, Nat.reduceLeDiff, Nat.reduceShiftRight, Nat.reduceMod, Nat.reduceBEq, reduceCtorEq, reduceIte, reduceDIte, Int.reduceNeg]
        first
          | exact ⟨rfl, rfl⟩
          | rfl
      · rintro ⟨i, (hi : i ≤ p.length)⟩
        (simp only [go_sem, Prod.eta, Option.isSome_none, Option.isSome_some, Int.toNat_zero, Nat.reduceAdd, Nat.reduceMul, Nat.reduceSub, Nat.reduceEqDiff, Nat.reduceLT, Nat.reduceLeDiff, Nat.reduceShiftRight, Nat.reduceMod, Nat.reduceBEq, reduceCtorEq, reduceIte, reduceDIte, Int.reduceNeg, Bool.not_eq_true', Bool.not_eq_false', Bool.or_eq_true, Bool.or_eq_false_iff, Bool.and_eq_true, Bool.and_eq_false_iff, decide_eq_true_eq, decide_eq_false_iff_not, Classical.not_not, not_or, maxLen, con18, con29, con32, con34, con42, con48, con49, hT, hG, hk, hK, Tryz.results18]); (try simp (disch := decide +kernel) only [drawn, true_and, and_true])
        refine fun _ => ⟨fun hlt => ?_, fun hge => ?_⟩
        · have hi' : i < p.length := by omega
          have ek : ∀ z, p.getD (i : Int).toNat z = p[i] := fun z => by simp [hi']
          simp only [ek]
          have hst : keysOf (p.take (i + 1)) = keysOf (p.take i) ++ [p[i].1] := by
            unfold keysOf
            rw [List.take_succ_eq_append_getElem hi', List.map_append]; rfl
          have hkl : (keysOf (p.take i)).length = i := by
            unfold keysOf
            rw [List.length_map, List.length_take]; omega
          (repeat' (with_reducible (first | refine And.intro ?_ ?_ | intro _))) <;> (try (first | with_reducible (first | done | assumption | omega | contradiction) | decide))
          refine fin_lp ⟨i + 1, by omega⟩ ?_ ?_
          · simp only [go_sem, Prod.eta, Option.isSome_none, Option.isSome_some, Int.toNat_zero, Nat.reduceAdd, Nat.reduceMul, Nat.reduceSub, Nat.reduceEqDiff, Nat.reduceLT, Nat.reduceLeDiff, Nat.reduceShiftRight, Nat.reduceMod, Nat.reduceBEq, reduceCtorEq, reduceIte, reduceDIte, Int.reduceNeg]
            rw [hst]
            first
              | exact ⟨rfl, rfl⟩
              | rfl
          · dsimp only; omega
        · rw [List.take_of_length_le (by omega)]
          (repeat' (with_reducible (first | refine And.intro ?_ ?_ | intro _))) <;> (try (first | with_reducible (first | done | assumption | omega | contradiction) | decide))
          · have h : ascF (keysOf p) = false := by assumption
            rw [ev]; unfold planR; rw [if_pos h]
          · have h3 : ascF (keysOf p) = true := by assumption
            have h : ¬ ((keysOf p).length : Int) = A.length := by assumption
            rw [ev]; unfold planR; rw [if_neg (by rw [h3]; simp), if_pos]
            intro k
            rw [k, List.length_map] at h
            exact h rfl
          · have h3 : ascF (keysOf p) = true := by assumption
            have h4 : ((keysOf p).length : Int) = A.length := by assumption
            have e1 : checkR l cs p t q = if ¬ keysOf p = A.map (fun d => d.1) then 6 else if p.all (inCs cs) = false then 1 else if (List.range A.length).all (noClashR p A) = false then 7 else 0 := by
              rw [ev]; unfold planR; rw [if_neg (by rw [h3]; simp)]
            generalize hK2 : keysOf p = K at *
            refine evk_loop ⟨{ i : Nat // i ≤ A.length ∧ K.take i = (A.take i).map (fun d => d.1) }, 2000,
              fun i => [(1, .one (.sl (.int .i64) cs false)), (5, .one (.loc 70 0)), (8, .one (.row 66)), (11, .one (.row 64)), (13, .one (.int .i64 i.1))],
              fun i => [(70, .cells 34 (expl (.pair (.sl (.pair (.pair .str (.pair (.int .i64) (.pair .str (.int .i64)))) (.int .i64))) (.pair (.int .i64) (.sl (.pair .str (.pair (.int .i64) (.pair .str (.int .i64))))))) (p, t, q))), (66, .row 54 (.pair (.pair .str (.pair (.int .i64) (.pair .str (.int .i64)))) (.pair .str (.pair (.int .i64) (.pair (.int .i64) (.pair (.int .i64) (.pair (.int .i64) (.int .i64))))))) A), (64, .row 50 (.pair .str (.pair (.int .i64) (.pair .str (.int .i64)))) K)], fun i => A.length - i.1⟩ ⟨0, by simp, by simp⟩ ?_ ?_
            · simp only [go_sem, Prod.eta, Option.isSome_none, Option.isSome_some, Int.toNat_zero, Nat.reduceAdd, Nat.reduceMul, Nat.reduceSub, Nat.reduceEqDiff, Nat.reduceLT, Nat.reduceLeDiff, Nat.reduceShiftRight, Nat.reduceMod, Nat.reduceBEq, reduceCtorEq, reduceIte, reduceDIte, Int.reduceNeg]
              first
                | rfl
                | skip
            · rintro ⟨i, (hi : i ≤ A.length), (hx : K.take i = (A.take i).map (fun d => d.1))⟩
              (simp only [go_sem, Prod.eta, Option.isSome_none, Option.isSome_some, Int.toNat_zero, Nat.reduceAdd, Nat.reduceMul, Nat.reduceSub, Nat.reduceEqDiff, Nat.reduceLT, Nat.reduceLeDiff, Nat.reduceShiftRight, Nat.reduceMod, Nat.reduceBEq, reduceCtorEq, reduceIte, reduceDIte, Int.reduceNeg, Bool.not_eq_true', Bool.not_eq_false', Bool.or_eq_true, Bool.or_eq_false_iff, Bool.and_eq_true, Bool.and_eq_false_iff, decide_eq_true_eq, decide_eq_false_iff_not, Classical.not_not, not_or, maxLen, con18, con29, con32, con34, con42, con48, con49, hT, hG, hk, hK, Tryz.results18]); (try simp (disch := decide +kernel) only [drawn, true_and, and_true])
              refine fun _ => ⟨fun hlt => ?_, fun hge => ?_⟩
              · have hi' : i < A.length := by omega
                have hi2 : i < K.length := by omega
                have ek : ∀ z, A.getD (i : Int).toNat z = A[i] := fun z => by simp [hi']
                have ek2 : ∀ z, K.getD (i : Int).toNat z = K[i] := fun z => by simp [hi2]
                simp only [ek, ek2]
                (repeat' (with_reducible (first | refine And.intro ?_ ?_ | intro _))) <;> (try (first | with_reducible (first | done | assumption | omega | contradiction) | decide))
                · rename_i h
                  rw [e1, if_pos]
                  intro k
                  apply flt_ne h
                  simp [k]
                · rename_i h
                  have hf := flt_eq h
                  refine fin_lp ⟨i + 1, by omega, by rw [List.take_succ_eq_append_getElem hi', List.take_succ_eq_append_getElem hi2, hx, List.map_append, hf]; rfl⟩ (by simp only [go_sem, Prod.eta, Option.isSome_none, Option.isSome_some, Int.toNat_zero, Nat.reduceAdd, Nat.reduceMul, Nat.reduceSub, Nat.reduceEqDiff, Nat.reduceLT, Nat.reduceLeDiff, Nat.reduceShiftRight, Nat.reduceMod, Nat.reduceBEq, reduceCtorEq, reduceIte, reduceDIte, Int.reduceNeg]; first | rfl | ((repeat' apply And.intro) <;> first | rfl | assumption | omega)) (by dsimp only; omega)
              · rw [List.take_of_length_le (by omega), List.take_of_length_le (by omega)] at hx
                have e2 : checkR l cs p t q = if p.all (inCs cs) = false then 1 else if (List.range A.length).all (noClashR p A) = false then 7 else 0 := by
                  rw [e1, if_neg (fun k => k hx)]
                have hpA : p.length = A.length := by
                  rw [← hK2] at hx
                  have := congrArg List.length hx
                  unfold keysOf at this
                  rwa [List.length_map, List.length_map] at this
                refine evk_loop ⟨{ i : Nat // i ≤ p.length ∧ (p.take i).all (inCs cs) = true }, 3000,
                  fun i => [(1, .one (.sl (.int .i64) cs false)), (5, .one (.loc 70 0)), (8, .one (.row 66)), (14, .one (.int .i64 i.1))],
                  fun i => [(70, .cells 34 (expl (.pair (.sl (.pair (.pair .str (.pair (.int .i64) (.pair .str (.int .i64)))) (.int .i64))) (.pair (.int .i64) (.sl (.pair .str (.pair (.int .i64) (.pair .str (.int .i64))))))) (p, t, q))), (66, .row 54 (.pair (.pair .str (.pair (.int .i64) (.pair .str (.int .i64)))) (.pair .str (.pair (.int .i64) (.pair (.int .i64) (.pair (.int .i64) (.pair (.int .i64) (.int .i64))))))) A)], fun i => p.length - i.1⟩ ⟨0, by simp, by simp⟩ ?_ ?_
                · simp only [go_sem, Prod.eta, Option.isSome_none, Option.isSome_some, Int.toNat_zero, Nat.reduceAdd, Nat.reduceMul, Nat.reduceSub, Nat.reduceEqDiff, Nat.reduceLT, Nat.reduceLeDiff, Nat.reduceShiftRight, Nat.reduceMod, Nat.reduceBEq, reduceCtorEq, reduceIte, reduceDIte, Int.reduceNeg]
                  first
                    | rfl
                    | skip
                · rintro ⟨i, (hi : i ≤ p.length), (hy : (p.take i).all (inCs cs) = true)⟩
                  (simp only [go_sem, Prod.eta, Option.isSome_none, Option.isSome_some, Int.toNat_zero, Nat.reduceAdd, Nat.reduceMul, Nat.reduceSub, Nat.reduceEqDiff, Nat.reduceLT, Nat.reduceLeDiff, Nat.reduceShiftRight, Nat.reduceMod, Nat.reduceBEq, reduceCtorEq, reduceIte, reduceDIte, Int.reduceNeg, Bool.not_eq_true', Bool.not_eq_false', Bool.or_eq_true, Bool.or_eq_false_iff, Bool.and_eq_true, Bool.and_eq_false_iff, decide_eq_true_eq, decide_eq_false_iff_not, Classical.not_not, not_or, maxLen, con18, con29, con32, con34, con42, con48, con49, hT, hG, hk, hK, Tryz.results18]); (try simp (disch := decide +kernel) only [drawn, true_and, and_true])
                  refine fun _ => ⟨fun hlt => ?_, fun hge => ?_⟩
                  · have hi' : i < p.length := by omega
                    have ek : ∀ z, p.getD (i : Int).toNat z = p[i] := fun z => by simp [hi']
                    intro _
                    refine evk_loop ⟨{ j : Nat // j ≤ cs.length }, 3500,
                      fun j => [(1, .one (.sl (.int .i64) cs false)), (5, .one (.loc 70 0)), (8, .one (.row 66)), (14, .one (.int .i64 i)), (15, .one (.bool ((cs.take j.1).any (fun c => decide (p[i].2 = c))))), (131, .one (.sl (.int .i64) cs false)), (132, .one (.int .i64 cs.length)), (133, .one (.int .i64 j.1))],
                      fun j => [(70, .cells 34 (expl (.pair (.sl (.pair (.pair .str (.pair (.int .i64) (.pair .str (.int .i64)))) (.int .i64))) (.pair (.int .i64) (.sl (.pair .str (.pair (.int .i64) (.pair .str (.int .i64))))))) (p, t, q))), (66, .row 54 (.pair (.pair .str (.pair (.int .i64) (.pair .str (.int .i64)))) (.pair .str (.pair (.int .i64) (.pair (.int .i64) (.pair (.int .i64) (.pair (.int .i64) (.int .i64))))))) A)], fun j => cs.length - j.1⟩ ⟨0, by simp⟩ ?_ ?_
                    · simp only [go_sem, Prod.eta, Option.isSome_none, Option.isSome_some, Int.toNat_zero, Nat.reduceAdd, Nat.reduceMul, Nat.reduceSub, Nat.reduceEqDiff, Nat.reduceLT, Nat.reduceLeDiff, Nat.reduceShiftRight, Nat.reduceMod, Nat.reduceBEq, reduceCtorEq, reduceIte, reduceDIte, Int.reduceNeg]
                      first
                        | exact ⟨rfl, rfl⟩
                        | rfl
                        | skip
                    · rintro ⟨j, (hj : j ≤ cs.length)⟩
                      (simp only [go_sem, Prod.eta, Option.isSome_none, Option.isSome_some, Int.toNat_zero, Nat.reduceAdd, Nat.reduceMul, Nat.reduceSub, Nat.reduceEqDiff, Nat.reduceLT, Nat.reduceLeDiff, Nat.reduceShiftRight, Nat.reduceMod, Nat.reduceBEq, reduceCtorEq, reduceIte, reduceDIte, Int.reduceNeg, Bool.not_eq_true', Bool.not_eq_false', Bool.or_eq_true, Bool.or_eq_false_iff, Bool.and_eq_true, Bool.and_eq_false_iff, decide_eq_true_eq, decide_eq_false_iff_not, Classical.not_not, not_or, maxLen, con18, con29, con32, con34, con42, con48, con49, hT, hG, hk, hK, Tryz.results18]); (try simp (disch := decide +kernel) only [drawn, true_and, and_true])
                      refine ⟨fun hlt2 => ?_, fun hge2 => ?_⟩
                      · have hj' : j < cs.length := by omega
                        have ekc : ∀ z, cs.getD (j : Int).toNat z = cs[j] := fun z => by simp [hj']
                        have hs3 : ((cs.take j).any (fun c => decide (p[i].2 = c)) || decide (p[i].2 = cs[j])) = (cs.take (j + 1)).any (fun c => decide (p[i].2 = c)) := by
                          rw [List.take_succ_eq_append_getElem hj', List.any_append]; simp
                        simp only [ekc, ek]
                        (repeat' (with_reducible (first | refine And.intro ?_ ?_ | intro _))) <;> (try (first | with_reducible (first | done | assumption | omega | contradiction) | decide))
                        refine fin_lp ⟨j + 1, by omega⟩ (by simp only [go_sem, Prod.eta, Option.isSome_none, Option.isSome_some, Int.toNat_zero, Nat.reduceAdd, Nat.reduceMul, Nat.reduceSub, Nat.reduceEqDiff, Nat.reduceLT, Nat.reduceLeDiff, Nat.reduceShiftRight, Nat.reduceMod, Nat.reduceBEq, reduceCtorEq, reduceIte, reduceDIte, Int.reduceNeg]; first | rfl | ((repeat' apply And.intro) <;> first | rfl | assumption | omega)) (by dsimp only; omega)
                      · rw [List.take_of_length_le (by omega)]
                        (repeat' (with_reducible (first | refine And.intro ?_ ?_ | intro _))) <;> (try (first | with_reducible (first | done | assumption | omega | contradiction) | decide))
                        · rename_i h
                          rw [e2, if_pos]
                          rw [List.all_eq_false]
                          exact ⟨p[i], List.getElem_mem hi', by unfold inCs; rw [h]; simp⟩
                        · rename_i h
                          refine fin_lp ⟨i + 1, by omega, by rw [List.take_succ_eq_append_getElem hi', List.all_append, hy, List.all_cons]; unfold inCs; rw [h]; rfl⟩ (by simp only [go_sem, Prod.eta, Option.isSome_none, Option.isSome_some, Int.toNat_zero, Nat.reduceAdd, Nat.reduceMul, Nat.reduceSub, Nat.reduceEqDiff, Nat.reduceLT, Nat.reduceLeDiff, Nat.reduceShiftRight, Nat.reduceMod, Nat.reduceBEq, reduceCtorEq, reduceIte, reduceDIte, Int.reduceNeg]; first | rfl | ((repeat' apply And.intro) <;> first | rfl | assumption | omega)) (by dsimp only; omega)
                  · rw [List.take_of_length_le (by omega)] at hy
                    have e3 : checkR l cs p t q = if (List.range A.length).all (noClashR p A) = false then 7 else 0 := by
                      rw [e2, if_neg (by rw [hy]; simp)]
                    refine evk_loop ⟨{ i : Nat // i ≤ A.length ∧ (List.range i).all (noClashR p A) = true }, 4000,
                      fun i => [(5, .one (.loc 70 0)), (8, .one (.row 66)), (18, .one (.int .i64 i.1))],
                      fun i => [(70, .cells 34 (expl (.pair (.sl (.pair (.pair .str (.pair (.int .i64) (.pair .str (.int .i64)))) (.int .i64))) (.pair (.int .i64) (.sl (.pair .str (.pair (.int .i64) (.pair .str (.int .i64))))))) (p, t, q))), (66, .row 54 (.pair (.pair .str (.pair (.int .i64) (.pair .str (.int .i64)))) (.pair .str (.pair (.int .i64) (.pair (.int .i64) (.pair (.int .i64) (.pair (.int .i64) (.int .i64))))))) A)], fun i => A.length - i.1⟩ ⟨0, by simp, by simp⟩ ?_ ?_
                    · simp only [go_sem, Prod.eta, Option.isSome_none, Option.isSome_some, Int.toNat_zero, Nat.reduceAdd, Nat.reduceMul, Nat.reduceSub, Nat.reduceEqDiff, Nat.reduceLT, Nat.reduceLeDiff, Nat.reduceShiftRight, Nat.reduceMod, Nat.reduceBEq, reduceCtorEq, reduceIte, reduceDIte, Int.reduceNeg]
                      first
                        | rfl
                        | skip
                    · rintro ⟨i, (hi : i ≤ A.length), (hz : (List.range i).all (noClashR p A) = true)⟩
                      (simp only [go_sem, Prod.eta, Option.isSome_none, Option.isSome_some, Int.toNat_zero, Nat.reduceAdd, Nat.reduceMul, Nat.reduceSub, Nat.reduceEqDiff, Nat.reduceLT, Nat.reduceLeDiff, Nat.reduceShiftRight, Nat.reduceMod, Nat.reduceBEq, reduceCtorEq, reduceIte, reduceDIte, Int.reduceNeg, Bool.not_eq_true', Bool.not_eq_false', Bool.or_eq_true, Bool.or_eq_false_iff, Bool.and_eq_true, Bool.and_eq_false_iff, decide_eq_true_eq, decide_eq_false_iff_not, Classical.not_not, not_or, maxLen, con18, con29, con32, con34, con42, con48, con49, hT, hG, hk, hK, Tryz.results18]); (try simp (disch := decide +kernel) only [drawn, true_and, and_true])
                      refine fun _ => ⟨fun hlt => ?_, fun hge => ?_⟩
                      · have hi' : i < A.length := by omega
                        refine evk_loop ⟨{ k : Nat // k ≤ i ∧ (List.range k).all (fun k => !clashR p A i k) = true }, 5000,
                          fun k => [(5, .one (.loc 70 0)), (8, .one (.row 66)), (18, .one (.int .i64 i)), (19, .one (.int .i64 k.1))],
                          fun k => [(70, .cells 34 (expl (.pair (.sl (.pair (.pair .str (.pair (.int .i64) (.pair .str (.int .i64)))) (.int .i64))) (.pair (.int .i64) (.sl (.pair .str (.pair (.int .i64) (.pair .str (.int .i64))))))) (p, t, q))), (66, .row 54 (.pair (.pair .str (.pair (.int .i64) (.pair .str (.int .i64)))) (.pair .str (.pair (.int .i64) (.pair (.int .i64) (.pair (.int .i64) (.pair (.int .i64) (.int .i64))))))) A)], fun k => i - k.1⟩ ⟨0, by simp, by simp⟩ ?_ ?_
                        · simp only [go_sem, Prod.eta, Option.isSome_none, Option.isSome_some, Int.toNat_zero, Nat.reduceAdd, Nat.reduceMul, Nat.reduceSub, Nat.reduceEqDiff, Nat.reduceLT, Nat.reduceLeDiff, Nat.reduceShiftRight, Nat.reduceMod, Nat.reduceBEq, reduceCtorEq, reduceIte, reduceDIte, Int.reduceNeg]
                          first
                            | rfl
                            | skip
                        · rintro ⟨k, (hk2 : k ≤ i), (hw : (List.range k).all (fun k => !clashR p A i k) = true)⟩
                          (simp only [go_sem, Prod.eta, Option.isSome_none, Option.isSome_some, Int.toNat_zero, Nat.reduceAdd, Nat.reduceMul, Nat.reduceSub, Nat.reduceEqDiff, Nat.reduceLT, Nat.reduceLeDiff, Nat.reduceShiftRight, Nat.reduceMod, Nat.reduceBEq, reduceCtorEq, reduceIte, reduceDIte, Int.reduceNeg, Bool.not_eq_true', Bool.not_eq_false', Bool.or_eq_true, Bool.or_eq_false_iff, Bool.and_eq_true, Bool.and_eq_false_iff, decide_eq_true_eq, decide_eq_false_iff_not, Classical.not_not, not_or, maxLen, con18, con29, con32, con34, con42, con48, con49, hT, hG, hk, hK, Tryz.results18]); (try simp (disch := decide +kernel) only [drawn, true_and, and_true])
                          refine ⟨fun hlt2 => ?_, fun hge2 => ?_⟩
                          · have ei : (i : Int).toNat = i := by omega
                            have ek2 : (k : Int).toNat = k := by omega
                            simp only [ei, ek2]
                            have hcl : clashR p A i k = (decide ((p.getD i ((ByteArray.empty, 0, ByteArray.empty, 0), 0)).2 = (p.getD k ((ByteArray.empty, 0, ByteArray.empty, 0), 0)).2) && overR (A.getD i ((ByteArray.empty, 0, ByteArray.empty, 0), ByteArray.empty, 0, 0, 0, 0, 0)) (A.getD k ((ByteArray.empty, 0, ByteArray.empty, 0), ByteArray.empty, 0, 0, 0, 0, 0))) := rfl
                            generalize p.getD i ((ByteArray.empty, 0, ByteArray.empty, 0), 0) = u1 at hcl ⊢
                            generalize p.getD k ((ByteArray.empty, 0, ByteArray.empty, 0), 0) = u2 at hcl ⊢
                            generalize A.getD i ((ByteArray.empty, 0, ByteArray.empty, 0), ByteArray.empty, 0, 0, 0, 0, 0) = u3 at hcl ⊢
                            generalize A.getD k ((ByteArray.empty, 0, ByteArray.empty, 0), ByteArray.empty, 0, 0, 0, 0, 0) = u4 at hcl ⊢
                            (repeat' (with_reducible (first | refine And.intro ?_ ?_ | intro _))) <;> (try (first | with_reducible (first | done | assumption | omega | contradiction) | decide))
                            · have h : u1.2 = u2.2 ∧ overR u3 u4 = true := by assumption
                              have hc : clashR p A i k = true := by rw [hcl, decide_eq_true h.1, h.2]; rfl
                              rw [e3, if_pos]
                              rw [List.all_eq_false]
                              refine ⟨i, List.mem_range.2 hi', ?_⟩
                              unfold noClashR
                              rw [Bool.not_eq_true, List.all_eq_false]
                              exact ⟨k, List.mem_range.2 (by omega), by rw [hc]; simp⟩
                            · have h : ¬ u1.2 = u2.2 ∨ overR u3 u4 = false := by assumption
                              have hc : clashR p A i k = false := by
                                rw [hcl]
                                rcases h with h | h
                                · rw [decide_eq_false h]; rfl
                                · rw [h, Bool.and_false]
                              refine fin_lp ⟨k + 1, by omega, by rw [List.range_succ, List.all_append, hw, List.all_cons, hc]; rfl⟩ (by simp only [go_sem, Prod.eta, Option.isSome_none, Option.isSome_some, Int.toNat_zero, Nat.reduceAdd, Nat.reduceMul, Nat.reduceSub, Nat.reduceEqDiff, Nat.reduceLT, Nat.reduceLeDiff, Nat.reduceShiftRight, Nat.reduceMod, Nat.reduceBEq, reduceCtorEq, reduceIte, reduceDIte, Int.reduceNeg]; first | rfl | ((repeat' apply And.intro) <;> first | rfl | assumption | omega)) (by dsimp only; omega)
                          · have hki : k = i := by omega
                            subst hki
                            (repeat' (with_reducible (first | refine And.intro ?_ ?_ | intro _))) <;> (try (first | with_reducible (first | done | assumption | omega | contradiction) | decide))
                            refine fin_lp ⟨k + 1, by omega, by rw [List.range_succ, List.all_append, hz, List.all_cons]; unfold noClashR; rw [hw]; rfl⟩ (by simp only [go_sem, Prod.eta, Option.isSome_none, Option.isSome_some, Int.toNat_zero, Nat.reduceAdd, Nat.reduceMul, Nat.reduceSub, Nat.reduceEqDiff, Nat.reduceLT, Nat.reduceLeDiff, Nat.reduceShiftRight, Nat.reduceMod, Nat.reduceBEq, reduceCtorEq, reduceIte, reduceDIte, Int.reduceNeg]; first | rfl | ((repeat' apply And.intro) <;> first | rfl | assumption | omega)) (by dsimp only; omega)
                      · have hAl : i = A.length := by omega
                        subst hAl
                        (repeat' (with_reducible (first | refine And.intro ?_ ?_ | intro _))) <;> (try (first | with_reducible (first | done | assumption | omega | contradiction) | decide))
                        rw [e3, if_neg (by rw [hz]; simp)])
end Go.Proofs.YtdmgmdppejopcaaGreat

/- The contracts of the reference's functions: Plan. -/
set_option linter.unusedSimpArgs false
set_option linter.unusedVariables false
set_option maxRecDepth 100000
set_option maxHeartbeats 4000000
namespace Go.Proofs.YtdmgmdppejopcaaGreat
open Go.Ev

/-- A chute is free for a departure: no departure before that has it overlaps. -/
def frq (p : List All) (d : Dep) (c : Int) (e : Dep) : Bool := !(decide ((chV p e.1).1 = c) && overR e d)
def freeR (D : List Dep) (p : List All) (d : Dep) (c : Int) : Bool := D.all (frq p d c)
def stepR (cs : List Int) (D : List Dep) (p : List All) (d : Dep) : List All :=
  match cs.find? (freeR D p d) with
  | some c => placeV p (d.1, c)
  | none => p
def refG (cs : List Int) : List Dep → List Dep → List All → List All
  | _, [], p => p
  | D, d :: ds, p => refG cs (D ++ [d]) ds (stepR cs D p d)
def refP (l : List Dep) (cs : List Int) : Mk × Int :=
  if argsV l cs ≠ 0 then (([], 0, []), argsV l cs) else if (peakV l).2 > (cs.length : Int) then (([], (peakV l).1, openV l (peakV l).1), 0) else ((refG cs [] (isort (planV l)) [], 0, []), 0)
theorem placeV_len (p : List All) (a : All) : (placeV p a).length = p.length + 1 := by
  unfold placeV
  have := congrArg List.length (List.takeWhile_append_dropWhile (p := fun x : All => decide (fltC x.1 a.1 < 0)) (l := p))
  rw [List.length_append] at this
  rw [List.length_append, List.length_cons]
  omega
theorem args_len {l : List Dep} {cs : List Int} (h : argsV l cs = 0) : (planV l).length ≤ 16 ∧ cs.length ≤ 6 := by
  unfold argsV at h
  by_cases c1 : validateV l ≠ 0
  · rw [if_pos c1] at h; exact absurd h c1
  · rw [if_neg c1] at h
    by_cases c2 : ((planV l).length : Int) > 16 ∨ (cs.length : Int) > 6
    · rw [if_pos c2] at h; omega
    · omega
def con11 : Con := { ps := [.d false (.sl (.pair (.pair .str (.pair (.int .i64) (.pair .str (.int .i64)))) (.pair .str (.pair (.int .i64) (.pair (.int .i64) (.pair (.int .i64) (.pair (.int .i64) (.int .i64)))))))), .d false (.sl (.int .i64))], rs := [.d true (.pair (.sl (.pair (.pair .str (.pair (.int .i64) (.pair .str (.int .i64)))) (.int .i64))) (.pair (.int .i64) (.sl (.pair .str (.pair (.int .i64) (.pair .str (.int .i64))))))), .d false (.int .i64)], pre := fun (x : List Dep × List Int × Unit) => x.1.length ≤ 1048576, out := fun (x : List Dep × List Int × Unit) => ((refP x.1 x.2.1).1, (refP x.1 x.2.1).2, ()), nw := id }
theorem c11 : CtrOk Tryz.prog 11 con11.ctr :=
  con_sound (G := ⟨[(16, con16.ctr), (29, con29.ctr), (30, con30.ctr), (31, con31.ctr), (32, con32.ctr), (33, con33.ctr), (34, con34.ctr), (35, con35.ctr)], [], []⟩) tab_ok (EnvOk.cons c16 has16 (EnvOk.cons c29 has29 (EnvOk.cons c30 has30 (EnvOk.cons c31 has31 (EnvOk.cons c32 has32 (EnvOk.cons c33 has33 (EnvOk.cons c34 has34 (EnvOk.cons c35 has35 EnvOk.nil)))))))) rfl Tryz.func11 rfl con11 29014219747066011847880691 (by kernel_rfl) (by decide) (by decide) rfl (by decide) rfl (by
    rintro ⟨(l : List Dep), (cs : List Int), _⟩ hpre hwf X hT hG hk hK
    have hl : l.length ≤ 1048576 := hpre
    (simp only [go_sem, Prod.eta, Option.isSome_none, Option.isSome_some, Int.toNat_zero, Nat.reduceAdd, Nat.reduceMul, Nat.reduceSub, Nat.reduceEqDiff, Nat.reduceLT, Nat.reduceLeDiff, Nat.reduceShiftRight, Nat.reduceMod, Nat.reduceBEq, reduceCtorEq, reduceIte, reduceDIte, Int.reduceNeg, Bool.not_eq_true', Bool.not_eq_false', Bool.or_eq_true, Bool.or_eq_false_iff, Bool.and_eq_true, Bool.and_eq_false_iff, decide_eq_true_eq, decide_eq_false_iff_not, Classical.not_not, not_or, maxLen, con11, con16, con29, con30, con31, con32, con33, con34, con35, hT, hG, hk, hK, Tryz.results11] at hwf ⊢); (try simp (disch := decide +kernel) only [drawn, true_and, and_true])
    by_cases ha : argsV l cs = 0
    · by_cases hp : (peakV l).2 > (cs.length : Int)
      · have hv : refP l cs = (([], (peakV l).1, openV l (peakV l).1), 0) := by
          unfold refP; rw [if_neg (by omega), if_pos hp]
        rw [hv]
        (repeat' (with_reducible (first | refine And.intro ?_ ?_ | intro _))) <;> (try (first | with_reducible (first | done | assumption | omega | contradiction) | decide))
        all_goals rfl
      · obtain ⟨k5, k6⟩ := args_len ha
        have hv : refP l cs = ((refG cs [] (isort (planV l)) [], 0, []), 0) := by
          unfold refP; rw [if_neg (by omega), if_neg hp]
        have hO := isort_len (planV l)
        generalize isort (planV l) = O at hO hv ⊢
        (repeat' (with_reducible (first | refine And.intro ?_ ?_ | intro _))) <;> (try (first | with_reducible (first | done | assumption | omega | contradiction) | decide))
        have hst : ∀ i (hi : i < O.length) (p : List All), refG cs (O.take i) (O.drop i) p = refG cs (O.take (i + 1)) (O.drop (i + 1)) (stepR cs (O.take i) p O[i]) := fun i hi p => by
          rw [List.drop_eq_getElem_cons hi, refG, List.take_succ_eq_append_getElem hi]
        refine evk_loop ⟨{ q : Nat × List All // q.1 ≤ O.length ∧ q.2.length ≤ q.1 ∧ refG cs [] O [] = refG cs (O.take q.1) (O.drop q.1) q.2 }, 1000,
          fun q => [(1, .one (.sl (.int .i64) cs false)), (4, .one (.loc 70 0)), (9, .one (.row 66)), (10, .one (.loc 71 0)), (11, .one (.int .i64 q.1.1))],
          fun q => [(70, .cells 34 [.undef, .undef, .undef]), (66, .row 54 (.pair (.pair .str (.pair (.int .i64) (.pair .str (.int .i64)))) (.pair .str (.pair (.int .i64) (.pair (.int .i64) (.pair (.int .i64) (.pair (.int .i64) (.int .i64))))))) O), (71, .cells 34 [.row 72, .int .i64 0, .row 73]), (72, .row 62 (.pair (.pair .str (.pair (.int .i64) (.pair .str (.int .i64)))) (.int .i64)) q.1.2), (73, .row 50 (.pair .str (.pair (.int .i64) (.pair .str (.int .i64)))) [])], fun q => O.length - q.1.1⟩
          ⟨(0, []), by simp, by simp, by simp⟩ ?_ ?_
        · simp only [go_sem, Prod.eta, Option.isSome_none, Option.isSome_some, Int.toNat_zero, Nat.reduceAdd, Nat.reduceMul, Nat.reduceSub, Nat.reduceEqDiff, Nat.reduceLT, Nat.reduceLeDiff, Nat.reduceShiftRight, Nat.reduceMod, Nat.reduceBEq, reduceCtorEq, reduceIte, reduceDIte, Int.reduceNeg]
          rfl
        · rintro ⟨⟨i, p⟩, (c1 : i ≤ O.length), (c2 : p.length ≤ i), (c3 : refG cs [] O [] = refG cs (O.take i) (O.drop i) p)⟩
          (simp only [go_sem, Prod.eta, Option.isSome_none, Option.isSome_some, Int.toNat_zero, Nat.reduceAdd, Nat.reduceMul, Nat.reduceSub, Nat.reduceEqDiff, Nat.reduceLT, Nat.reduceLeDiff, Nat.reduceShiftRight, Nat.reduceMod, Nat.reduceBEq, reduceCtorEq, reduceIte, reduceDIte, Int.reduceNeg, Bool.not_eq_true', Bool.not_eq_false', Bool.or_eq_true, Bool.or_eq_false_iff, Bool.and_eq_true, Bool.and_eq_false_iff, decide_eq_true_eq, decide_eq_false_iff_not, Classical.not_not, not_or, maxLen, con11, con16, con29, con30, con31, con32, con33, con34, con35, hT, hG, hk, hK, Tryz.results11]); (try simp (disch := decide +kernel) only [drawn, true_and, and_true])
          refine fun _ => ⟨fun hlt => ?_, fun hge => ?_⟩
          · have hi' : i < O.length := by omega
            have ek : ∀ z, O.getD (i : Int).toNat z = O[i] := fun z => by simp [hi']
            rw [hst i hi' p] at c3
            refine fun _ => ?_
            refine evk_loop ⟨{ j : Nat // j ≤ cs.length ∧ ∀ k (h : k < cs.length), k < j → freeR (O.take i) p O[i] cs[k] = false }, 2000,
              fun q => [(1, .one (.sl (.int .i64) cs false)), (4, .one (.loc 70 0)), (9, .one (.row 66)), (10, .one (.loc 71 0)), (11, .one (.int .i64 i)), (48, .one (.sl (.int .i64) cs false)), (49, .one (.int .i64 cs.length)), (50, .one (.int .i64 q.1))],
              fun q => [(70, .cells 34 [.undef, .undef, .undef]), (66, .row 54 (.pair (.pair .str (.pair (.int .i64) (.pair .str (.int .i64)))) (.pair .str (.pair (.int .i64) (.pair (.int .i64) (.pair (.int .i64) (.pair (.int .i64) (.int .i64))))))) O), (71, .cells 34 [.row 72, .int .i64 0, .row 73]), (72, .row 62 (.pair (.pair .str (.pair (.int .i64) (.pair .str (.int .i64)))) (.int .i64)) p), (73, .row 50 (.pair .str (.pair (.int .i64) (.pair .str (.int .i64)))) [])], fun q => cs.length - q.1⟩ ⟨0, by simp, by intro k h hk; simp at hk⟩ ?_ ?_
            · simp only [go_sem, Prod.eta, Option.isSome_none, Option.isSome_some, Int.toNat_zero, Nat.reduceAdd, Nat.reduceMul, Nat.reduceSub, Nat.reduceEqDiff, Nat.reduceLT, Nat.reduceLeDiff, Nat.reduceShiftRight, Nat.reduceMod, Nat.reduceBEq, reduceCtorEq, reduceIte, reduceDIte, Int.reduceNeg]
              rfl
            · rintro ⟨j, (e1 : j ≤ cs.length), (e2 : ∀ k (h : k < cs.length), k < j → freeR (O.take i) p O[i] cs[k] = false)⟩
              (simp only [go_sem, Prod.eta, Option.isSome_none, Option.isSome_some, Int.toNat_zero, Nat.reduceAdd, Nat.reduceMul, Nat.reduceSub, Nat.reduceEqDiff, Nat.reduceLT, Nat.reduceLeDiff, Nat.reduceShiftRight, Nat.reduceMod, Nat.reduceBEq, reduceCtorEq, reduceIte, reduceDIte, Int.reduceNeg, Bool.not_eq_true', Bool.not_eq_false', Bool.or_eq_true, Bool.or_eq_false_iff, Bool.and_eq_true, Bool.and_eq_false_iff, decide_eq_true_eq, decide_eq_false_iff_not, Classical.not_not, not_or, maxLen, con11, con16, con29, con30, con31, con32, con33, con34, con35, hT, hG, hk, hK, Tryz.results11]); (try simp (disch := decide +kernel) only [drawn, true_and, and_true])
              refine ⟨fun hlt2 => ?_, fun hge2 => ?_⟩
              · have hj : j < cs.length := by omega
                have ekc : ∀ z, cs.getD (j : Int).toNat z = cs[j] := fun z => by simp [hj]
                simp only [ekc]
                refine ⟨by omega, fun _ _ => ?_⟩
                refine evk_loop ⟨{ k : Nat // k ≤ i }, 3000,
                  fun q => [(1, .one (.sl (.int .i64) cs false)), (4, .one (.loc 70 0)), (9, .one (.row 66)), (10, .one (.loc 71 0)), (11, .one (.int .i64 i)), (48, .one (.sl (.int .i64) cs false)), (49, .one (.int .i64 cs.length)), (50, .one (.int .i64 j)), (13, .one (.int .i64 cs[j])), (14, .one (.bool ((O.take q.1).all (frq p O[i] cs[j])))), (15, .one (.int .i64 q.1))],
                  fun q => [(70, .cells 34 [.undef, .undef, .undef]), (66, .row 54 (.pair (.pair .str (.pair (.int .i64) (.pair .str (.int .i64)))) (.pair .str (.pair (.int .i64) (.pair (.int .i64) (.pair (.int .i64) (.pair (.int .i64) (.int .i64))))))) O), (71, .cells 34 [.row 72, .int .i64 0, .row 73]), (72, .row 62 (.pair (.pair .str (.pair (.int .i64) (.pair .str (.int .i64)))) (.int .i64)) p), (73, .row 50 (.pair .str (.pair (.int .i64) (.pair .str (.int .i64)))) [])], fun q => i - q.1⟩ ⟨0, by simp⟩ ?_ ?_
                · simp only [go_sem, Prod.eta, Option.isSome_none, Option.isSome_some, Int.toNat_zero, Nat.reduceAdd, Nat.reduceMul, Nat.reduceSub, Nat.reduceEqDiff, Nat.reduceLT, Nat.reduceLeDiff, Nat.reduceShiftRight, Nat.reduceMod, Nat.reduceBEq, reduceCtorEq, reduceIte, reduceDIte, Int.reduceNeg]
                  rfl
                · rintro ⟨k, (f1 : k ≤ i)⟩
                  (simp only [go_sem, Prod.eta, Option.isSome_none, Option.isSome_some, Int.toNat_zero, Nat.reduceAdd, Nat.reduceMul, Nat.reduceSub, Nat.reduceEqDiff, Nat.reduceLT, Nat.reduceLeDiff, Nat.reduceShiftRight, Nat.reduceMod, Nat.reduceBEq, reduceCtorEq, reduceIte, reduceDIte, Int.reduceNeg, Bool.not_eq_true', Bool.not_eq_false', Bool.or_eq_true, Bool.or_eq_false_iff, Bool.and_eq_true, Bool.and_eq_false_iff, decide_eq_true_eq, decide_eq_false_iff_not, Classical.not_not, not_or, maxLen, con11, con16, con29, con30, con31, con32, con33, con34, con35, hT, hG, hk, hK, Tryz.results11]); (try simp (disch := decide +kernel) only [drawn, true_and, and_true])
                  refine ⟨fun hlt3 => ?_, fun hge3 => ?_⟩
                  · have hk' : k < O.length := by omega
                    have ekk : ∀ z, O.getD (k : Int).toNat z = O[k] := fun z => by simp [hk']
                    have hs3 : (O.take (k + 1)).all (frq p O[i] cs[j]) = ((O.take k).all (frq p O[i] cs[j]) && frq p O[i] cs[j] O[k]) := by
                      rw [List.take_succ_eq_append_getElem hk', List.all_append]; simp
                    simp only [ekk, ek]
                    (repeat' (with_reducible (first | refine And.intro ?_ ?_ | intro _))) <;> (try (first | with_reducible (first | done | assumption | omega | contradiction) | decide))
                    · have h : (chV p O[k].1).1 = cs[j] ∧ overR O[k] O[i] = true := by assumption
                      have h4 : false = (O.take (k + 1)).all (frq p O[i] cs[j]) := by
                        rw [hs3]; unfold frq; rw [h.2, decide_eq_true h.1]; simp
                      refine fin_lp ⟨k + 1, by omega⟩ (by simp only [go_sem, Prod.eta, Option.isSome_none, Option.isSome_some, Int.toNat_zero, Nat.reduceAdd, Nat.reduceMul, Nat.reduceSub, Nat.reduceEqDiff, Nat.reduceLT, Nat.reduceLeDiff, Nat.reduceShiftRight, Nat.reduceMod, Nat.reduceBEq, reduceCtorEq, reduceIte, reduceDIte, Int.reduceNeg]; first | rfl | ((repeat' apply And.intro) <;> first | rfl | assumption | omega)) (by dsimp only; omega)
                    · have h : ¬ (chV p O[k].1).1 = cs[j] ∨ overR O[k] O[i] = false := by assumption
                      have h4 : (O.take k).all (frq p O[i] cs[j]) = (O.take (k + 1)).all (frq p O[i] cs[j]) := by
                        rw [hs3]
                        have : frq p O[i] cs[j] O[k] = true := by
                          unfold frq
                          rcases h with h | h
                          · rw [decide_eq_false h]; rfl
                          · rw [h]; simp
                        rw [this, Bool.and_true]
                      refine fin_lp ⟨k + 1, by omega⟩ (by simp only [go_sem, Prod.eta, Option.isSome_none, Option.isSome_some, Int.toNat_zero, Nat.reduceAdd, Nat.reduceMul, Nat.reduceSub, Nat.reduceEqDiff, Nat.reduceLT, Nat.reduceLeDiff, Nat.reduceShiftRight, Nat.reduceMod, Nat.reduceBEq, reduceCtorEq, reduceIte, reduceDIte, Int.reduceNeg]; first | rfl | ((repeat' apply And.intro) <;> first | rfl | assumption | omega)) (by dsimp only; omega)
                  · have hki : k = i := by omega
                    subst hki
                    simp only [ek]
                    (repeat' (with_reducible (first | refine And.intro ?_ ?_ | intro _))) <;> (try (first | with_reducible (first | done | assumption | omega | contradiction) | decide))
                    · have h : (O.take k).all (frq p O[k] cs[j]) = true := by assumption
                      have hn : cs.find? (freeR (O.take k) p O[k]) = some cs[j] := by
                        rw [List.find?_eq_some_iff_getElem]
                        exact ⟨h, j, hj, rfl, fun m hm => by rw [e2 m (by omega) hm]; rfl⟩
                      have hs : stepR cs (O.take k) p O[k] = placeV p (O[k].1, cs[j]) := by unfold stepR; rw [hn]
                      rw [hs] at c3
                      have hpl := placeV_len p (O[k].1, cs[j])
                      refine fin_lp ⟨(k + 1, placeV p (O[k].1, cs[j])), by dsimp only; omega, by dsimp only; omega, c3⟩ (by simp only [go_sem, Prod.eta, Option.isSome_none, Option.isSome_some, Int.toNat_zero, Nat.reduceAdd, Nat.reduceMul, Nat.reduceSub, Nat.reduceEqDiff, Nat.reduceLT, Nat.reduceLeDiff, Nat.reduceShiftRight, Nat.reduceMod, Nat.reduceBEq, reduceCtorEq, reduceIte, reduceDIte, Int.reduceNeg]; first | rfl | ((repeat' apply And.intro) <;> first | rfl | assumption | omega)) (by dsimp only; omega)
                    · have h : (O.take k).all (frq p O[k] cs[j]) = false := by assumption
                      refine fin_lp ⟨j + 1, by omega, ?_⟩ (by simp only [go_sem, Prod.eta, Option.isSome_none, Option.isSome_some, Int.toNat_zero, Nat.reduceAdd, Nat.reduceMul, Nat.reduceSub, Nat.reduceEqDiff, Nat.reduceLT, Nat.reduceLeDiff, Nat.reduceShiftRight, Nat.reduceMod, Nat.reduceBEq, reduceCtorEq, reduceIte, reduceDIte, Int.reduceNeg]; first | rfl | ((repeat' apply And.intro) <;> first | rfl | assumption | omega)) (by dsimp only; omega)
                      · intro m hm hmj
                        rcases Nat.lt_or_eq_of_le (Nat.lt_succ_iff.1 hmj) with h1 | h1
                        · exact e2 m hm h1
                        · subst h1; exact h
              · have hn : cs.find? (freeR (O.take i) p O[i]) = none := by
                  rw [List.find?_eq_none]
                  intro c hc
                  obtain ⟨k, hk, rfl⟩ := List.getElem_of_mem hc
                  rw [e2 k hk (by omega)]; simp
                have hs : stepR cs (O.take i) p O[i] = p := by unfold stepR; rw [hn]
                rw [hs] at c3
                (repeat' (with_reducible (first | refine And.intro ?_ ?_ | intro _))) <;> (try (first | with_reducible (first | done | assumption | omega | contradiction) | decide))
                refine fin_lp ⟨(i + 1, p), by dsimp only; omega, by dsimp only; omega, c3⟩ (by simp only [go_sem, Prod.eta, Option.isSome_none, Option.isSome_some, Int.toNat_zero, Nat.reduceAdd, Nat.reduceMul, Nat.reduceSub, Nat.reduceEqDiff, Nat.reduceLT, Nat.reduceLeDiff, Nat.reduceShiftRight, Nat.reduceMod, Nat.reduceBEq, reduceCtorEq, reduceIte, reduceDIte, Int.reduceNeg]; first | rfl | ((repeat' apply And.intro) <;> first | rfl | assumption | omega)) (by dsimp only; omega)
          · rw [List.drop_of_length_le (by omega), List.take_of_length_le (by omega), refG] at c3
            rw [hv, c3]
            (repeat' (with_reducible (first | refine And.intro ?_ ?_ | intro _))) <;> (try (first | with_reducible (first | done | assumption | omega | contradiction) | decide))
            all_goals rfl
    · have hv : refP l cs = (([], 0, []), argsV l cs) := by
        unfold refP; rw [if_pos ha]
      rw [hv]
      (repeat' (with_reducible (first | refine And.intro ?_ ?_ | intro _))) <;> (try (first | with_reducible (first | done | assumption | omega | contradiction) | decide))
      all_goals rfl)
end Go.Proofs.YtdmgmdppejopcaaGreat
