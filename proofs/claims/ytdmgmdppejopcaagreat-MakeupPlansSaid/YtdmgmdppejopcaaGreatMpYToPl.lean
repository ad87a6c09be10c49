/- The contracts of the reference's functions: Plan. -/
import Derived.Test.YtdmgmdppejopcaaGreatMpSToX
import Derived.Test.YtdmgmdppejopcaaGreatMpMToR
import Derived.Test.YtdmgmdppejopcaaGreatMpFToV
set_option linter.unusedSimpArgs false
set_option linter.unusedVariables false
set_option maxRecDepth 100000
set_option maxHeartbeats 4000000
namespace Go.Proofs.YtdmgmdppejopcaaGreat
open Go.Ev

/-- A chute is free for a departure: no departure before that has it overlaps. -/
def frq (p : List All) (d : Dep) (c : Int) (e : Dep) : Bool := !(decide ((chV p e.1).1 = c) && overR e d)
def freeR (D : List Dep) (p : List All) (d : Dep) (c : Int) : Bool := D.all (frq p d c)
def stepR (cs : List Int) (D : List Dep) (p : List All) (d : Dep) : List All :=
  match cs.find? (freeR D p d) with
  | some c => placeV p (d.1, c)
  | none => p
def refG (cs : List Int) : List Dep → List Dep → List All → List All
  | _, [], p => p
  | D, d :: ds, p => refG cs (D ++ [d]) ds (stepR cs D p d)
def refP (l : List Dep) (cs : List Int) : Mk × Int :=
  if argsV l cs ≠ 0 then (([], 0, []), argsV l cs) else if (peakV l).2 > (cs.length : Int) then (([], (peakV l).1, openV l (peakV l).1), 0) else ((refG cs [] (isort (planV l)) [], 0, []), 0)
theorem placeV_len (p : List All) (a : All) : (placeV p a).length = p.length + 1 := by
  unfold placeV
  have := congrArg List.length (List.takeWhile_append_dropWhile (p := fun x : All => decide (fltC x.1 a.1 < 0)) (l := p))
  rw [List.length_append] at this
  rw [List.length_append, List.length_cons]
  omega
theorem args_len {l : List Dep} {cs : List Int} (h : argsV l cs = 0) : (planV l).length ≤ 16 ∧ cs.length ≤ 6 := by
  unfold argsV at h
  by_cases c1 : validateV l ≠ 0
  · rw [if_pos c1] at h; exact absurd h c1
  · rw [if_neg c1] at h
    by_cases c2 : ((planV l).length : Int) > 16 ∨ (cs.length : Int) > 6
    · rw [if_pos c2] at h; omega
    · omega
def con11 : Con := { ps := [.d false (.sl (.pair (.pair .str (.pair (.int .i64) (.pair .str (.int .i64)))) (.pair .str (.pair (.int .i64) (.pair (.int .i64) (.pair (.int .i64) (.pair (.int .i64) (.int .i64)))))))), .d false (.sl (.int .i64))], rs := [.d true (.pair (.sl (.pair (.pair .str (.pair (.int .i64) (.pair .str (.int .i64)))) (.int .i64))) (.pair (.int .i64) (.sl (.pair .str (.pair (.int .i64) (.pair .str (.int .i64))))))), .d false (.int .i64)], pre := fun (x : List Dep × List Int × Unit) => x.1.length ≤ 1048576, out := fun (x : List Dep × List Int × Unit) => ((refP x.1 x.2.1).1, (refP x.1 x.2.1).2, ()), nw := id }
theorem c11 : CtrOk Tryz.prog 11 con11.ctr :=
  con_sound (G := ⟨[(16, con16.ctr), (29, con29.ctr), (30, con30.ctr), (31, con31.ctr), (32, con32.ctr), (33, con33.ctr), (34, con34.ctr), (35, con35.ctr)], [], []⟩) tab_ok (EnvOk.cons c16 has16 (EnvOk.cons c29 has29 (EnvOk.cons c30 has30 (EnvOk.cons c31 has31 (EnvOk.cons c32 has32 (EnvOk.cons c33 has33 (EnvOk.cons c34 has34 (EnvOk.cons c35 has35 EnvOk.nil)))))))) rfl Tryz.func11 rfl con11 29014219747066011847880691 (by kernel_rfl) (by decide) (by decide) rfl (by decide) rfl (by
    rintro ⟨(l : List Dep), (cs : List Int), _⟩ hpre hwf X hT hG hk hK
    have hl : l.length ≤ 1048576 := hpre
    (simp only [go_sem, Prod.eta, Option.isSome_none, Option.isSome_some, Int.toNat_zero, Nat.reduceAdd, Nat.reduceMul, Nat.reduceSub, Nat.reduceEqDiff, Nat.reduceLT, Nat.reduceLeDiff, Nat.reduceShiftRight, Nat.reduceMod, Nat.reduceBEq, reduceCtorEq, reduceIte, reduceDIte, Int.reduceNeg, Bool.not_eq_true', Bool.not_eq_false', Bool.or_eq_true, Bool.or_eq_false_iff, Bool.and_eq_true, Bool.and_eq_false_iff, decide_eq_true_eq, decide_eq_false_iff_not, Classical.not_not, not_or, maxLen, con11, con16, con29, con30, con31, con32, con33, con34, con35, hT, hG, hk, hK, Tryz.results11] at hwf ⊢); (try simp (disch := decide +kernel) only [drawn, true_and, and_true])
    by_cases ha : argsV l cs = 0
    · by_cases hp : (peakV l).2 > (cs.length : Int)
      · have hv : refP l cs = (([], (peakV l).1, openV l (peakV l).1), 0) := by
          unfold refP; rw [if_neg (by omega), if_pos hp]
        rw [hv]
        (repeat' (with_reducible (first | refine And.intro ?_ ?_ | intro _))) <;> (try (first | with_reducible (first | done | assumption | omega | contradiction) | decide))
        all_goals rfl
      · obtain ⟨k5, k6⟩ := args_len ha
        have hv : refP l cs = ((refG cs [] (isort (planV l)) [], 0, []), 0) := by
          unfold refP; rw [if_neg (by omega), if_neg hp]
        have hO := isort_len (planV l)
        generalize isort (planV l) = O at hO hv ⊢
        (repeat' (with_reducible (first | refine And.intro ?_ ?_ | intro _))) <;> (try (first | with_reducible (first | done | assumption | omega | contradiction) | decide))
        have hst : ∀ i (hi : i < O.length) (p : List All), refG cs (O.take i) (O.drop i) p = refG cs (O.take (i + 1)) (O.drop (i + 1)) (stepR cs (O.take i) p O[i]) := fun i hi p => by
          rw [List.drop_eq_getElem_cons hi, refG, List.take_succ_eq_append_getElem hi]
        refine evk_loop ⟨{ q : Nat × List All // q.1 ≤ O.length ∧ q.2.length ≤ q.1 ∧ refG cs [] O [] = refG cs (O.take q.1) (O.drop q.1) q.2 }, 1000,
          fun q => [(1, .one (.sl (.int .i64) cs false)), (4, .one (.loc 70 0)), (9, .one (.row 66)), (10, .one (.loc 71 0)), (11, .one (.int .i64 q.1.1))],
          fun q => [(70, .cells 34 [.undef, .undef, .undef]), (66, .row 54 (.pair (.pair .str (.pair (.int .i64) (.pair .str (.int .i64)))) (.pair .str (.pair (.int .i64) (.pair (.int .i64) (.pair (.int .i64) (.pair (.int .i64) (.int .i64))))))) O), (71, .cells 34 [.row 72, .int .i64 0, .row 73]), (72, .row 62 (.pair (.pair .str (.pair (.int .i64) (.pair .str (.int .i64)))) (.int .i64)) q.1.2), (73, .row 50 (.pair .str (.pair (.int .i64) (.pair .str (.int .i64)))) [])], fun q => O.length - q.1.1⟩
          ⟨(0, []), by simp, by simp, by simp⟩ ?_ ?_
        · simp only [go_sem, Prod.eta, Option.isSome_none, Option.isSome_some, Int.toNat_zero, Nat.reduceAdd, Nat.reduceMul, Nat.reduceSub, Nat.reduceEqDiff, Nat.reduceLT, Nat.reduceLeDiff, Nat.reduceShiftRight, Nat.reduceMod, Nat.reduceBEq, reduceCtorEq, reduceIte, reduceDIte, Int.reduceNeg]
          rfl
        · rintro ⟨⟨i, p⟩, (c1 : i ≤ O.length), (c2 : p.length ≤ i), (c3 : refG cs [] O [] = refG cs (O.take i) (O.drop i) p)⟩
          (simp only [go_sem, Prod.eta, Option.isSome_none, Option.isSome_some, Int.toNat_zero, Nat.reduceAdd, Nat.reduceMul, Nat.reduceSub, Nat.reduceEqDiff, Nat.reduceLT, Nat.reduceLeDiff, Nat.reduceShiftRight, Nat.reduceMod, Nat.reduceBEq, reduceCtorEq, reduceIte, reduceDIte, Int.reduceNeg, Bool.not_eq_true', Bool.not_eq_false', Bool.or_eq_true, Bool.or_eq_false_iff, Bool.and_eq_true, Bool.and_eq_false_iff, decide_eq_true_eq, decide_eq_false_iff_not, Classical.not_not, not_or, maxLen, con11, con16, con29, con30, con31, con32, con33, con34, con35, hT, hG, hk, hK, Tryz.results11]); (try simp (disch := decide +kernel) only [drawn, true_and, and_true])
          refine fun _ => ⟨fun hlt => ?_, fun hge => ?_⟩
          · have hi' : i < O.length := by omega
            have ek : ∀ z, O.getD (i : Int).toNat z = O[i] := fun z => by simp [hi']
            rw [hst i hi' p] at c3
            refine fun _ => ?_
            refine evk_loop ⟨{ j : Nat // j ≤ cs.length ∧ ∀ k (h : k < cs.length), k < j → freeR (O.take i) p O[i] cs[k] = false }, 2000,
              fun q => [(1, .one (.sl (.int .i64) cs false)), (4, .one (.loc 70 0)), (9, .one (.row 66)), (10, .one (.loc 71 0)), (11, .one (.int .i64 i)), (48, .one (.sl (.int .i64) cs false)), (49, .one (.int .i64 cs.length)), (50, .one (.int .i64 q.1))],
              fun q => [(70, .cells 34 [.undef, .undef, .undef]), (66, .row 54 (.pair (.pair .str (.pair (.int .i64) (.pair .str (.int .i64)))) (.pair .str (.pair (.int .i64) (.pair (.int .i64) (.pair (.int .i64) (.pair (.int .i64) (.int .i64))))))) O), (71, .cells 34 [.row 72, .int .i64 0, .row 73]), (72, .row 62 (.pair (.pair .str (.pair (.int .i64) (.pair .str (.int .i64)))) (.int .i64)) p), (73, .row 50 (.pair .str (.pair (.int .i64) (.pair .str (.int .i64)))) [])], fun q => cs.length - q.1⟩ ⟨0, by simp, by intro k h hk; simp at hk⟩ ?_ ?_
            · simp only [go_sem, Prod.eta, Option.isSome_none, Option.isSome_some, Int.toNat_zero, Nat.reduceAdd, Nat.reduceMul, Nat.reduceSub, Nat.reduceEqDiff, Nat.reduceLT, Nat.reduceLeDiff, Nat.reduceShiftRight, Nat.reduceMod, Nat.reduceBEq, reduceCtorEq, reduceIte, reduceDIte, Int.reduceNeg]
              rfl
            · rintro ⟨j, (e1 : j ≤ cs.length), (e2 : ∀ k (h : k < cs.length), k < j → freeR (O.take i) p O[i] cs[k] = false)⟩
              (simp only [go_sem, Prod.eta, Option.isSome_none, Option.isSome_some, Int.toNat_zero, Nat.reduceAdd, Nat.reduceMul, Nat.reduceSub, Nat.reduceEqDiff, Nat.reduceLT, Nat.reduceLeDiff, Nat.reduceShiftRight, Nat.reduceMod, Nat.reduceBEq, reduceCtorEq, reduceIte, reduceDIte, Int.reduceNeg, Bool.not_eq_true', Bool.not_eq_false', Bool.or_eq_true, Bool.or_eq_false_iff, Bool.and_eq_true, Bool.and_eq_false_iff, decide_eq_true_eq, decide_eq_false_iff_not, Classical.not_not, not_or, maxLen, con11, con16, con29, con30, con31, con32, con33, con34, con35, hT, hG, hk, hK, Tryz.results11]); (try simp (disch := decide +kernel) only [drawn, true_and, and_true])
              refine ⟨fun hlt2 => ?_, fun hge2 => ?_⟩
              · have hj : j < cs.length := by omega
                have ekc : ∀ z, cs.getD (j : Int).toNat z = cs[j] := fun z => by simp [hj]
                simp only [ekc]
                refine ⟨by omega, fun _ _ => ?_⟩
                refine evk_loop ⟨{ k : Nat // k ≤ i }, 3000,
                  fun q => [(1, .one (.sl (.int .i64) cs false)), (4, .one (.loc 70 0)), (9, .one (.row 66)), (10, .one (.loc 71 0)), (11, .one (.int .i64 i)), (48, .one (.sl (.int .i64) cs false)), (49, .one (.int .i64 cs.length)), (50, .one (.int .i64 j)), (13, .one (.int .i64 cs[j])), (14, .one (.bool ((O.take q.1).all (frq p O[i] cs[j])))), (15, .one (.int .i64 q.1))],
                  fun q => [(70, .cells 34 [.undef, .undef, .undef]), (66, .row 54 (.pair (.pair .str (.pair (.int .i64) (.pair .str (.int .i64)))) (.pair .str (.pair (.int .i64) (.pair (.int .i64) (.pair (.int .i64) (.pair (.int .i64) (.int .i64))))))) O), (71, .cells 34 [.row 72, .int .i64 0, .row 73]), (72, .row 62 (.pair (.pair .str (.pair (.int .i64) (.pair .str (.int .i64)))) (.int .i64)) p), (73, .row 50 (.pair .str (.pair (.int .i64) (.pair .str (.int .i64)))) [])], fun q => i - q.1⟩ ⟨0, by simp⟩ ?_ ?_
                · simp only [go_sem, Prod.eta, Option.isSome_none, Option.isSome_some, Int.toNat_zero, Nat.reduceAdd, Nat.reduceMul, Nat.reduceSub, Nat.reduceEqDiff, Nat.reduceLT, Nat.reduceLeDiff, Nat.reduceShiftRight, Nat.reduceMod, Nat.reduceBEq, reduceCtorEq, reduceIte, reduceDIte, Int.reduceNeg]
                  rfl
                · rintro ⟨k, (f1 : k ≤ i)⟩
                  (simp only [go_sem, Prod.eta, Option.isSome_none, Option.isSome_some, Int.toNat_zero, Nat.reduceAdd, Nat.reduceMul, Nat.reduceSub, Nat.reduceEqDiff, Nat.reduceLT, Nat.reduceLeDiff, Nat.reduceShiftRight, Nat.reduceMod, Nat.reduceBEq, reduceCtorEq, reduceIte, reduceDIte, Int.reduceNeg, Bool.not_eq_true', Bool.not_eq_false', Bool.or_eq_true, Bool.or_eq_false_iff, Bool.and_eq_true, Bool.and_eq_false_iff, decide_eq_true_eq, decide_eq_false_iff_not, Classical.not_not, not_or, maxLen, con11, con16, con29, con30, con31, con32, con33, con34, con35, hT, hG, hk, hK, Tryz.results11]); (try simp (disch := decide +kernel) only [drawn, true_and, and_true])
                  refine ⟨fun hlt3 => ?_, fun hge3 => ?_⟩
                  · have hk' : k < O.length := by omega
                    have ekk : ∀ z, O.getD (k : Int).toNat z = O[k] := fun z => by simp [hk']
                    have hs3 : (O.take (k + 1)).all (frq p O[i] cs[j]) = ((O.take k).all (frq p O[i] cs[j]) && frq p O[i] cs[j] O[k]) := by
                      rw [List.take_succ_eq_append_getElem hk', List.all_append]; simp
                    simp only [ekk, ek]
                    (repeat' (with_reducible (first | refine And.intro ?_ ?_ | intro _))) <;> (try (first | with_reducible (first | done | assumption | omega | contradiction) | decide))
                    · have h : (chV p O[k].1).1 = cs[j] ∧ overR O[k] O[i] = true := by assumption
                      have h4 : false = (O.take (k + 1)).all (frq p O[i] cs[j]) := by
                        rw [hs3]; unfold frq; rw [h.2, decide_eq_true h.1]; simp
                      refine fin_lp ⟨k + 1, by omega⟩ (by simp only [go_sem, Prod.eta, Option.isSome_none, Option.isSome_some, Int.toNat_zero, Nat.reduceAdd, Nat.reduceMul, Nat.reduceSub, Nat.reduceEqDiff, Nat.reduceLT, Nat.reduceLeDiff, Nat.reduceShiftRight, Nat.reduceMod, Nat.reduceBEq, reduceCtorEq, reduceIte, reduceDIte, Int.reduceNeg]; first | rfl | ((repeat' apply And.intro) <;> first | rfl | assumption | omega)) (by dsimp only; omega)
                    · have h : ¬ (chV p O[k].1).1 = cs[j] ∨ overR O[k] O[i] = false := by assumption
                      have h4 : (O.take k).all (frq p O[i] cs[j]) = (O.take (k + 1)).all (frq p O[i] cs[j]) := by
                        rw [hs3]
                        have : frq p O[i] cs[j] O[k] = true := by
                          unfold frq
                          rcases h with h | h
                          · rw [decide_eq_false h]; rfl
                          · rw [h]; simp
                        rw [this, Bool.and_true]
                      refine fin_lp ⟨k + 1, by omega⟩ (by simp only [go_sem, Prod.eta, Option.isSome_none, Option.isSome_some, Int.toNat_zero, Nat.reduceAdd, Nat.reduceMul, Nat.reduceSub, Nat.reduceEqDiff, Nat.reduceLT, Nat.reduceLeDiff, Nat.reduceShiftRight, Nat.reduceMod, Nat.reduceBEq, reduceCtorEq, reduceIte, reduceDIte, Int.reduceNeg]; first | rfl | ((repeat' apply And.intro) <;> first | rfl | assumption | omega)) (by dsimp only; omega)
                  · have hki : k = i := by omega
                    subst hki
                    simp only [ek]
                    (repeat' (with_reducible (first | refine And.intro ?_ ?_ | intro _))) <;> (try (first | with_reducible (first | done | assumption | omega | contradiction) | decide))
                    · have h : (O.take k).all (frq p O[k] cs[j]) = true := by assumption
                      have hn : cs.find? (freeR (O.take k) p O[k]) = some cs[j] := by
                        rw [List.find?_eq_some_iff_getElem]
                        exact ⟨h, j, hj, rfl, fun m hm => by rw [e2 m (by omega) hm]; rfl⟩
                      have hs : stepR cs (O.take k) p O[k] = placeV p (O[k].1, cs[j]) := by unfold stepR; rw [hn]
                      rw [hs] at c3
                      have hpl := placeV_len p (O[k].1, cs[j])
                      refine fin_lp ⟨(k + 1, placeV p (O[k].1, cs[j])), by dsimp only; omega, by dsimp only; omega, c3⟩ (by simp only [go_sem, Prod.eta, Option.isSome_none, Option.isSome_some, Int.toNat_zero, Nat.reduceAdd, Nat.reduceMul, Nat.reduceSub, Nat.reduceEqDiff, Nat.reduceLT, Nat.reduceLeDiff, Nat.reduceShiftRight, Nat.reduceMod, Nat.reduceBEq, reduceCtorEq, reduceIte, reduceDIte, Int.reduceNeg]; first | rfl | ((repeat' apply And.intro) <;> first | rfl | assumption | omega)) (by dsimp only; omega)
                    · have h : (O.take k).all (frq p O[k] cs[j]) = false := by assumption
                      refine fin_lp ⟨j + 1, by omega, ?_⟩ (by simp only [go_sem, Prod.eta, Option.isSome_none, Option.isSome_some, Int.toNat_zero, Nat.reduceAdd, Nat.reduceMul, Nat.reduceSub, Nat.reduceEqDiff, Nat.reduceLT, Nat.reduceLeDiff, Nat.reduceShiftRight, Nat.reduceMod, Nat.reduceBEq, reduceCtorEq, reduceIte, reduceDIte, Int.reduceNeg]; first | rfl | ((repeat' apply And.intro) <;> first | rfl | assumption | omega)) (by dsimp only; omega)
                      · intro m hm hmj
                        rcases Nat.lt_or_eq_of_le (Nat.lt_succ_iff.1 hmj) with h1 | h1
                        · exact e2 m hm h1
                        · subst h1; exact h
              · have hn : cs.find? (freeR (O.take i) p O[i]) = none := by
                  rw [List.find?_eq_none]
                  intro c hc
                  obtain ⟨k, hk, rfl⟩ := List.getElem_of_mem hc
                  rw [e2 k hk (by omega)]; simp
                have hs : stepR cs (O.take i) p O[i] = p := by unfold stepR; rw [hn]
                rw [hs] at c3
                (repeat' (with_reducible (first | refine And.intro ?_ ?_ | intro _))) <;> (try (first | with_reducible (first | done | assumption | omega | contradiction) | decide))
                refine fin_lp ⟨(i + 1, p), by dsimp only; omega, by dsimp only; omega, c3⟩ (by simp only [go_sem, Prod.eta, Option.isSome_none, Option.isSome_some, Int.toNat_zero, Nat.reduceAdd, Nat.reduceMul, Nat.reduceSub, Nat.reduceEqDiff, Nat.reduceLT, Nat.reduceLeDiff, Nat.reduceShiftRight, Nat.reduceMod, Nat.reduceBEq, reduceCtorEq, reduceIte, reduceDIte, Int.reduceNeg]; first | rfl | ((repeat' apply And.intro) <;> first | rfl | assumption | omega)) (by dsimp only; omega)
          · rw [List.drop_of_length_le (by omega), List.take_of_length_le (by omega), refG] at c3
            rw [hv, c3]
            (repeat' (with_reducible (first | refine And.intro ?_ ?_ | intro _))) <;> (try (first | with_reducible (first | done | assumption | omega | contradiction) | decide))
            all_goals rfl
    · have hv : refP l cs = (([], 0, []), argsV l cs) := by
        unfold refP; rw [if_pos ha]
      rw [hv]
      (repeat' (with_reducible (first | refine And.intro ?_ ?_ | intro _))) <;> (try (first | with_reducible (first | done | assumption | omega | contradiction) | decide))
      all_goals rfl)
end Go.Proofs.YtdmgmdppejopcaaGreat

/- The plain laws: the reference's plan is the program's. -/
set_option linter.unusedSimpArgs false
set_option linter.unusedVariables false
set_option maxRecDepth 100000
set_option maxHeartbeats 4000000
namespace Go.Proofs.YtdmgmdppejopcaaGreat
open Go.Ev

theorem place_inv {d : Dep} : ∀ {cs fr : List Int} {c : Int} {fr' : List Int}, place d cs fr = some (c, fr') → ∃ (j : Nat) (h1 : j < cs.length) (h2 : j < fr.length), c = cs[j] ∧ fr' = fr.set j d.closes ∧ fr[j] ≤ d.opens ∧ ∀ k (h : k < fr.length), k < j → ¬ fr[k] ≤ d.opens
  | c :: cs, f :: fs, x, fr', h => by
    unfold place at h
    by_cases hf : f ≤ d.opens
    · rw [if_pos hf] at h
      cases h
      exact ⟨0, by simp, by simp, rfl, rfl, hf, by intro k _ hk; omega⟩
    · rw [if_neg hf] at h
      cases hp : place d cs fs with
      | none => rw [hp] at h; cases h
      | some r =>
        rw [hp] at h
        cases h
        obtain ⟨j, h1, h2, e1, e2, e3, e4⟩ := place_inv hp
        refine ⟨j + 1, by simpa using h1, by simpa using h2, by simpa using e1, by rw [e2]; rfl, by simpa using e3, ?_⟩
        intro k hk hkj
        cases k with
        | zero => simpa using hf
        | succ k => simpa using e4 k (by simpa using hk) (by omega)
  | [], _, _, _, h => by simp [place] at h
  | _ :: _, [], _, _, h => by simp [place] at h
theorem chV_of : ∀ (p : List All) (a : All), (keysOf p).Nodup → a ∈ p → chV p a.1 = (a.2, true)
  | [], a, _, h => by cases h
  | b :: p, a, hn, h => by
    unfold keysOf at hn
    rw [List.map_cons, List.nodup_cons] at hn
    unfold chV
    rcases List.mem_cons.1 h with rfl | h
    · rw [if_pos rfl]
    · rw [if_neg (fun e => hn.1 (List.mem_map.2 ⟨a, h, e.symm⟩))]
      exact chV_of p a hn.2 h
theorem placeV_perm (p : List All) (a : All) : (placeV p a).Perm (a :: p) := by
  unfold placeV
  refine List.perm_middle.trans ?_
  rw [List.takeWhile_append_dropWhile]
theorem placeV_sorted {p : List All} {a : All} (h : p.Pairwise (fun x y => fltC x.1 y.1 < 0)) (hn : ∀ x ∈ p, x.1 ≠ a.1) : (placeV p a).Pairwise (fun x y => fltC x.1 y.1 < 0) := by
  unfold placeV
  induction p with
  | nil => simp
  | cons b p ih =>
    obtain ⟨g1, g2⟩ := List.pairwise_cons.1 h
    have hb := hn b (by simp)
    by_cases hc : fltC b.1 a.1 < 0
    · rw [List.takeWhile_cons_of_pos (by simpa using hc), List.dropWhile_cons_of_pos (by simpa using hc), List.cons_append]
      refine List.pairwise_cons.2 ⟨fun x hx => ?_, ih g2 (fun x hx => hn x (by simp [hx]))⟩
      have hx' : x ∈ placeV p a := hx
      rcases List.mem_cons.1 ((placeV_perm p a).mem_iff.1 hx') with rfl | hx'
      · exact hc
      · exact g1 x hx'
    · rw [List.takeWhile_cons_of_neg (by simpa using hc), List.dropWhile_cons_of_neg (by simpa using hc), List.nil_append]
      have h0 : fltC b.1 a.1 ≠ 0 := fun e => hb ((fltC_cmp.eq _ _).1 e)
      have hab : fltC a.1 b.1 < 0 := (fltC_cmp.anti _ _).2 (by omega)
      refine List.pairwise_cons.2 ⟨fun x hx => ?_, h⟩
      rcases List.mem_cons.1 hx with rfl | hx
      · exact hab
      · exact fltC_cmp.trans _ _ _ hab (g1 x hx)
theorem asc_inj : ∀ {cs : List Int}, ascI cs = true → ∀ i j (h1 : i < cs.length) (h2 : j < cs.length), i < j → cs[i] < cs[j] := by
  intro cs
  induction cs with
  | nil => intro _ i j h1; simp at h1
  | cons a cs ih =>
    cases cs with
    | nil => intro _ i j h1 h2 hij; simp at h1 h2; omega
    | cons b cs =>
      intro h i j h1 h2 hij
      unfold ascI at h
      rw [Bool.and_eq_true, decide_eq_true_eq] at h
      have ihh := ih h.2
      cases j with
      | zero => omega
      | succ j =>
        cases i with
        | zero =>
          have hj2 : j < (b :: cs).length := by simpa using h2
          show a < (b :: cs)[j]
          cases j with
          | zero => exact h.1
          | succ j =>
            have := ihh 0 (j + 1) (by simp) (by simpa using h2) (by omega)
            have h3 : (b :: cs)[0] = b := rfl
            omega
        | succ i => exact ihh i j (by simpa using h1) (by simpa using h2) (by omega)
theorem asc_eq {cs : List Int} (h : ascI cs = true) {i j : Nat} (h1 : i < cs.length) (h2 : j < cs.length) (e : cs[i] = cs[j]) : i = j := by
  rcases Nat.lt_trichotomy i j with hij | hij | hij
  · have := asc_inj h i j h1 h2 hij; omega
  · exact hij
  · have := asc_inj h j i h2 h1 hij; omega
/-- What the reference's plan and the free times of the program have in common. -/
structure Both (cs : List Int) (D : List Dep) (A : List All) (fr : List Int) (p : List All) : Prop where
  keys : keysOf A = D.map (·.1)
  perm : p.Perm A
  sorted : p.Pairwise (fun x y => fltC x.1 y.1 < 0)
  len : fr.length = cs.length
  le : ∀ j (h1 : j < cs.length) (h2 : j < fr.length), ∀ e ∈ D, (e.1, cs[j]) ∈ A → e.closes ≤ fr[j]
  is : ∀ j (h1 : j < cs.length) (h2 : j < fr.length), fr[j] = 0 ∨ ∃ e ∈ D, (e.1, cs[j]) ∈ A ∧ e.closes = fr[j]
theorem both_free {cs : List Int} {D : List Dep} {A : List All} {fr : List Int} {p : List All} (b : Both cs D A fr p) (hn : (D.map (·.1)).Nodup) {d : Dep} (hd : d.state = 0 ∧ 0 ≤ d.opens ∧ d.opens < d.closes)
    (hD : ∀ e ∈ D, e.state = 0 ∧ 0 ≤ e.opens ∧ e.opens < e.closes ∧ e.opens ≤ d.opens) (j : Nat) (h1 : j < cs.length) (h2 : j < fr.length) : freeR D p d cs[j] = decide (fr[j] ≤ d.opens) := by
  have hnp : (keysOf p).Nodup := by
    have : (keysOf p).Perm (keysOf A) := b.perm.map _
    rw [this.nodup_iff, b.keys]; exact hn
  have hover : ∀ e ∈ D, overR e d = decide (d.opens < e.closes) := fun e he => by
    have he' := hD e he
    rw [overR_eq he'.1 hd.1 he'.2.2.1 hd.2.2]
    unfold overV
    rw [decide_eq_decide]
    (repeat' split) <;> omega
  have hch : ∀ e ∈ D, ((chV p e.1).1 = cs[j] ↔ (e.1, cs[j]) ∈ A) := fun e he => by
    have hm : e.1 ∈ keysOf A := by rw [b.keys]; exact List.mem_map.2 ⟨e, he, rfl⟩
    obtain ⟨a, ha, hae⟩ := List.mem_map.1 hm
    have hc := chV_of p a hnp (b.perm.mem_iff.2 ha)
    rw [hae] at hc
    rw [hc]
    constructor
    · intro h
      have : a = (e.1, cs[j]) := Prod.ext hae h
      rw [← this]; exact ha
    · intro h
      have hc2 := chV_of p (e.1, cs[j]) hnp (b.perm.mem_iff.2 h)
      rw [hc] at hc2
      exact congrArg Prod.fst hc2
  rw [Bool.eq_iff_iff, decide_eq_true_eq]
  unfold freeR
  rw [List.all_eq_true]
  unfold frq
  constructor
  · intro h
    rcases b.is j h1 h2 with h0 | ⟨e, he, ha, hf⟩
    · omega
    · have := h e he
      rw [decide_eq_true ((hch e he).2 ha), hover e he] at this
      simp at this
      omega
  · intro h e he
    by_cases hc : (e.1, cs[j]) ∈ A
    · have := b.le j h1 h2 e he hc
      rw [hover e he, decide_eq_false (p := d.opens < e.closes) (by omega)]
      simp
    · rw [decide_eq_false (p := (chV p e.1).1 = cs[j]) (fun k => hc ((hch e he).1 k))]
      rfl
theorem refG_greedy {cs : List Int} (hcs : ascI cs = true) : ∀ (ds D : List Dep) (A : List All) (fr : List Int) (p : List All), Both cs D A fr p → (greedy ds cs fr).length = ds.length → ((D ++ ds).map (·.1)).Nodup →
    (∀ e ∈ D ++ ds, e.state = 0 ∧ 0 ≤ e.opens ∧ e.opens < e.closes) → (∀ e ∈ D, ∀ d ∈ ds, e.opens ≤ d.opens) → ds.Pairwise (fun a b => a.opens ≤ b.opens) →
    (refG cs D ds p).Perm (A ++ greedy ds cs fr) ∧ (refG cs D ds p).Pairwise (fun x y => fltC x.1 y.1 < 0)
  | [], D, A, fr, p, b, _, _, _, _, _ => by
    unfold refG greedy
    rw [List.append_nil]
    exact ⟨b.perm, b.sorted⟩
  | d :: ds, D, A, fr, p, b, hg, hn, hs, hle, hpw => by
    obtain ⟨g1, g2⟩ := List.pairwise_cons.1 hpw
    have hd := hs d (by simp)
    have hnD : (D.map (·.1)).Nodup := by
      rw [List.map_append] at hn
      exact (List.nodup_append.1 hn).1
    have hdD : ∀ e ∈ D, e.1 ≠ d.1 := fun e he k => by
      rw [List.map_append] at hn
      exact (List.nodup_append.1 hn).2.2 e.1 (List.mem_map.2 ⟨e, he, rfl⟩) d.1 (by simp) k
    have hD : ∀ e ∈ D, e.state = 0 ∧ 0 ≤ e.opens ∧ e.opens < e.closes ∧ e.opens ≤ d.opens := fun e he => by
      have := hs e (by simp [he])
      exact ⟨this.1, this.2.1, this.2.2, hle e he d (by simp)⟩
    unfold greedy at hg ⊢
    unfold refG
    cases hp : place d cs fr with
    | none =>
      rw [hp] at hg
      dsimp only at hg
      have := greedy_len ds cs fr
      rw [List.length_cons] at hg
      omega
    | some r =>
      obtain ⟨c, fr'⟩ := r
      rw [hp] at hg
      dsimp only at hg ⊢
      obtain ⟨j, j1, j2, e1, e2, e3, e4⟩ := place_inv hp
      have hfind : cs.find? (freeR D p d) = some cs[j] := by
        rw [List.find?_eq_some_iff_getElem]
        refine ⟨?_, j, j1, rfl, fun m hm => ?_⟩
        · rw [both_free b hnD hd hD j j1 j2]; exact decide_eq_true e3
        · have hm2 : m < fr.length := by omega
          rw [both_free b hnD hd hD m (by omega) hm2, decide_eq_false (e4 m hm2 hm)]; rfl
      have hstep : stepR cs D p d = placeV p (d.1, cs[j]) := by unfold stepR; rw [hfind]
      rw [hstep]
      have hpk : ∀ x ∈ p, x.1 ≠ d.1 := fun x hx => by
        have : x.1 ∈ keysOf A := List.mem_map.2 ⟨x, b.perm.mem_iff.1 hx, rfl⟩
        rw [b.keys] at this
        obtain ⟨e, he, hee⟩ := List.mem_map.1 this
        rw [← hee]
        exact hdD e he
      have hAd : ∀ e ∈ D, ∀ x, ((e.1, x) ∈ A ++ [(d.1, cs[j])] ↔ (e.1, x) ∈ A) := fun e he x => by
        rw [List.mem_append, List.mem_singleton]
        exact ⟨fun h => h.elim id (fun k => absurd (congrArg Prod.fst k) (hdD e he)), .inl⟩
      have hdA : ∀ x, ((d.1, x) ∈ A ++ [(d.1, cs[j])] ↔ x = cs[j]) := fun x => by
        rw [List.mem_append, List.mem_singleton]
        constructor
        · rintro (h | h)
          · exact absurd rfl (hpk _ (b.perm.mem_iff.2 h))
          · exact congrArg Prod.snd h
        · intro h; right; rw [h]
      have b' : Both cs (D ++ [d]) (A ++ [(d.1, cs[j])]) fr' (placeV p (d.1, cs[j])) := by
        refine ⟨?_, ?_, placeV_sorted b.sorted hpk, ?_, ?_, ?_⟩
        · have := b.keys
          unfold keysOf at this ⊢
          rw [List.map_append, List.map_append, this]; rfl
        · refine (placeV_perm _ _).trans ?_
          refine (b.perm.cons _).trans ?_
          exact List.perm_append_comm (l₁ := [(d.1, cs[j])])
        · rw [e2, List.length_set]; exact b.len
        · intro m m1 m2 e he hm
          subst e2
          rw [List.length_set] at m2
          rw [List.getElem_set]
          rcases List.mem_append.1 he with he | he
          · rw [hAd e he] at hm
            have := b.le m m1 m2 e he hm
            split
            · rename_i hjm
              subst hjm
              omega
            · exact this
          · rw [List.mem_singleton] at he
            subst he
            rw [hdA] at hm
            have := asc_eq hcs m1 j1 hm
            subst this
            rw [if_pos rfl]
            exact Int.le_refl _
        · intro m m1 m2
          subst e2
          rw [List.length_set] at m2
          rw [List.getElem_set]
          split
          · rename_i hjm
            subst hjm
            exact .inr ⟨d, by simp, by rw [hdA], rfl⟩
          · rcases b.is m m1 m2 with h | ⟨e, he, ha, hf⟩
            · exact .inl h
            · exact .inr ⟨e, by simp [he], (hAd e he _).2 ha, hf⟩
      have e : D ++ d :: ds = (D ++ [d]) ++ ds := by simp
      rw [e] at hn hs
      have ih := refG_greedy hcs ds (D ++ [d]) (A ++ [(d.1, cs[j])]) fr' (placeV p (d.1, cs[j])) b' (by
        rw [List.length_cons] at hg
        simpa using hg) hn hs (fun x hx y hy => by
        rcases List.mem_append.1 hx with hx | hx
        · exact hle x hx y (List.mem_cons_of_mem _ hy)
        · rw [List.mem_singleton.1 hx]; exact g1 y hy) g2
      rw [e1]
      have e9 : A ++ (d.1, cs[j]) :: greedy ds cs fr' = A ++ [(d.1, cs[j])] ++ greedy ds cs fr' := by simp
      rw [e9]
      exact ih
theorem refP_eq (l : List Dep) (cs : List Int) : refP l cs = planO l cs := by
  unfold refP planO
  by_cases ha : argsV l cs = 0
  · have ha2 : ¬ argsV l cs ≠ 0 := by omega
    rw [if_neg ha2, if_neg ha2]
    by_cases hp : (peakV l).2 > (cs.length : Int)
    · rw [if_pos hp, if_pos hp]
    · rw [if_neg hp, if_neg hp]
      obtain ⟨k1, k2, k3, k4⟩ := plan_keys ha
      obtain ⟨a1, a2, a3, a4, a5⟩ := args_ok ha
      have hperm := isort_perm (planV l)
      have hfull := plan_full ha hp
      have hlen : (greedy (isort (planV l)) cs (List.replicate cs.length 0)).length = (isort (planV l)).length := by
        have := hfull.length_eq
        unfold keysOf greedyV at this
        rw [List.length_map, List.length_map] at this
        rw [this, isort_len]
      obtain ⟨g1, g2, g3⟩ := valid_ok a1
      have hnd := nodup_flts (g3.sublist (List.filter_sublist : (planV l).Sublist l))
      have hnd2 : ((isort (planV l)).map (fun d => d.1)).Nodup := (hperm.map _).nodup_iff.2 hnd
      obtain ⟨r1, r2⟩ := refG_greedy a5 (isort (planV l)) [] [] (List.replicate cs.length 0) [] ⟨rfl, List.Perm.refl _, List.Pairwise.nil, by simp, (by intro j _ _ e he; cases he), fun j h1 h2 => .inl (by simp)⟩ hlen (by simpa using hnd2) (fun e he => by
        have he' : e ∈ planV l := hperm.mem_iff.1 (by simpa using he)
        have h1 := k4 e he'
        have h2 : e.state = 0 := by
          unfold planV at he'
          have := (List.mem_filter.1 he').2
          simpa using this
        exact ⟨h2, h1.1, h1.2.1⟩) (by simp) (isort_sorted _)
      rw [List.nil_append] at r1
      have := sortAl_eq (l := greedyV l cs) (z := refG cs [] (isort (planV l)) []) k1 r1 (r2.imp (fun {a b} h k => by
        have := (fltC_cmp.anti a.1 b.1).1 h
        omega))
      rw [this]
  · rw [if_pos ha, if_pos ha]
end Go.Proofs.YtdmgmdppejopcaaGreat

/- The contracts of the functions that the statements reach: a schedule in which one thing is changed. -/
set_option linter.unusedSimpArgs false
set_option linter.unusedVariables false
set_option maxRecDepth 100000
set_option maxHeartbeats 4000000
namespace Go.Proofs.YtdmgmdppejopcaaGreat
open Go.Ev

def zDep : Dep := ((ByteArray.empty, 0, ByteArray.empty, 0), ByteArray.empty, 0, 0, 0, 0, 0)
def spoiltB (s : Src) (l : List Dep) (i : Nat) (k : Int) (d e : Dep) : List Dep × Src :=
  if k = 0 then (l.set i (d.1, d.2.1, d.2.2.2.1, d.2.2.2), s.step.step)
  else if k = 1 then (l.set i (d.1, d.2.1, d.2.2.1, d.2.2.2.1, d.2.2.2.1 - 1, d.2.2.2.2.2), s.step.step)
  else if k = 2 then (l.set i (d.1, d.2.1, d.2.2.1, d.2.2.2.1, d.2.2.2.2.1, s.step.step.raw, d.2.2.2.2.2.2), s.step.step.step)
  else if k = 3 then (l.set i (d.1, d.2.1, d.2.2.1, d.2.2.2.1, d.2.2.2.2.1, d.2.2.2.2.2.1, s.step.step.raw), s.step.step.step)
  else if k = 4 then (l.set i (e.1, d.2), s.step.step)
  else if k = 5 then ((l.set i e).set 0 d, s.step.step)
  else if k = 6 then (l.set i (d.1, d.2.1, s.step.step.raw, d.2.2.2), s.step.step.step)
  else if k = 7 then (l.set i (d.1, ByteArray.mk #[120], d.2.2), s.step.step)
  else (l.set i ((d.1.1, s.step.step.raw, d.1.2.2), d.2), s.step.step.step)
def spoiltV (s : Src) (l : List Dep) : List Dep × Src :=
  if (l.length : Int) = 0 then (l ++ [zDep], s) else spoiltB s l (goMod s.raw l.length).toNat (goMod s.step.raw 9) (l.getD (goMod s.raw l.length).toNat zDep) (l.getD 0 zDep)
theorem spoiltV_len (s : Src) (l : List Dep) : (spoiltV s l).1.length ≤ l.length + 1 := by
  unfold spoiltV
  split
  · simp
  · unfold spoiltB
    (repeat' split) <;> simp
theorem spoiltV_src (s : Src) (l : List Dep) (h : 0 ≤ s.2) : 0 ≤ (spoiltV s l).2.2 := by
  have h1 := Src.step_pos s h
  have h2 := Src.step_pos _ h1
  have h3 := Src.step_pos _ h2
  unfold spoiltV
  split
  · exact h
  · unfold spoiltB
    (repeat' split) <;> assumption
def con8 : Con := { ps := [.p 48 (.pair (.sl (.int .i64)) (.int .i64)), .d false (.sl (.pair (.pair .str (.pair (.int .i64) (.pair .str (.int .i64)))) (.pair .str (.pair (.int .i64) (.pair (.int .i64) (.pair (.int .i64) (.pair (.int .i64) (.int .i64))))))))], rs := [.d false (.sl (.pair (.pair .str (.pair (.int .i64) (.pair .str (.int .i64)))) (.pair .str (.pair (.int .i64) (.pair (.int .i64) (.pair (.int .i64) (.pair (.int .i64) (.int .i64))))))))], pre := fun (x : Src × List Dep × Unit) => 0 ≤ x.1.2 ∧ x.2.1.length ≤ 1000 ∧ ∀ d ∈ x.2.1, 0 ≤ d.closes, out := fun (x : Src × List Dep × Unit) => ((spoiltV x.1 x.2.1).1, ()), nw := fun (x : Src × List Dep × Unit) => ((spoiltV x.1 x.2.1).2, x.2) }
theorem c8 : CtrOk Tryz.prog 8 con8.ctr :=
  con_sound (G := ⟨[(15, con15.ctr), (21, con21.ctr)], [], []⟩) tab_ok (EnvOk.cons c15 has15 (EnvOk.cons c21 has21 EnvOk.nil)) rfl Tryz.func8 rfl con8 2545205325826262315274462040179 (by kernel_rfl) (by decide) (by decide) rfl (by decide) rfl (by
    rintro ⟨(s : Src), (l : List Dep), _⟩ hpre hwf X hT hG hk hK
    obtain ⟨hs, hl, hc⟩ : 0 ≤ s.2 ∧ l.length ≤ 1000 ∧ ∀ d ∈ l, 0 ≤ d.closes := hpre
    (simp only [go_sem, Prod.eta, Option.isSome_none, Option.isSome_some, Int.toNat_zero, Nat.reduceAdd, Nat.reduceMul, Nat.reduceSub, Nat.reduceEqDiff, Nat.reduceLT, Nat.reduceLeDiff, Nat.reduceShiftRight, Nat.reduceMod, Nat.reduceBEq, reduceCtorEq, reduceIte, reduceDIte, Int.reduceNeg, Bool.not_eq_true', Bool.not_eq_false', Bool.or_eq_true, Bool.or_eq_false_iff, Bool.and_eq_true, Bool.and_eq_false_iff, decide_eq_true_eq, decide_eq_false_iff_not, Classical.not_not, not_or, maxLen, con8, con15, con21, hT, hG, hk, hK, Tryz.results8] at hwf ⊢); (try simp (disch := decide +kernel) only [drawn, true_and, and_true])
    by_cases h0 : (l.length : Int) = 0
    · have hv : spoiltV s l = (l ++ [((ByteArray.empty, 0, ByteArray.empty, 0), ByteArray.empty, 0, 0, 0, 0, 0)], s) := by
        unfold spoiltV; rw [if_pos h0]; rfl
      rw [hv]
      (repeat' (with_reducible (first | refine And.intro ?_ ?_ | intro _))) <;> (try (first | with_reducible (first | done | assumption | omega | contradiction) | decide))
      all_goals rfl
    · have hv : spoiltV s l = spoiltB s l (goMod s.raw l.length).toNat (goMod s.step.raw 9) (l.getD (goMod s.raw l.length).toNat ((ByteArray.empty, 0, ByteArray.empty, 0), ByteArray.empty, 0, 0, 0, 0, 0)) (l.getD 0 ((ByteArray.empty, 0, ByteArray.empty, 0), ByteArray.empty, 0, 0, 0, 0, 0)) := by
        unfold spoiltV; rw [if_neg h0]; rfl
      rw [hv]
      have hi := goMod_bd s.raw l.length (by omega)
      have hk := goMod_bd s.step.raw 9 (by omega)
      have hs1 := Src.step_pos s hs
      have hs2 := Src.step_pos _ hs1
      have hc1 : 0 ≤ (l.getD (goMod s.raw l.length).toNat ((ByteArray.empty, 0, ByteArray.empty, 0), ByteArray.empty, 0, 0, 0, 0, 0)).2.2.2.1 := by
        have hlt : (goMod s.raw l.length).toNat < l.length := by omega
        have := hc _ (List.getElem_mem hlt)
        have e : ∀ z, l.getD (goMod s.raw l.length).toNat z = l[(goMod s.raw l.length).toNat] := fun z => by simp [hlt]
        rw [e]
        exact this
      generalize goMod s.raw l.length = i at *
      generalize goMod s.step.raw 9 = k at *
      generalize l.getD i.toNat ((ByteArray.empty, 0, ByteArray.empty, 0), ByteArray.empty, 0, 0, 0, 0, 0) = d at *
      (repeat' (with_reducible (first | refine And.intro ?_ ?_ | intro _))) <;> (try (first | with_reducible (first | done | assumption | omega | contradiction) | decide))

      all_goals (try simp (disch := assumption) only [spoiltB, if_pos, if_neg])
      all_goals (rw [List.length_set]; omega))
end Go.Proofs.YtdmgmdppejopcaaGreat

/- The law: the plan. -/
set_option linter.unusedSimpArgs false
set_option linter.unusedVariables false
set_option maxRecDepth 100000
set_option maxHeartbeats 4000000
namespace Go.Proofs.YtdmgmdppejopcaaGreat
open Go.Ev

theorem schedL_pos : ∀ (n : Nat) (s : Src) (k : Int), 0 ≤ s.2 → 0 ≤ (schedL n s k).2.2
  | 0, _, _, h => h
  | n + 1, s, k, h => by
    have h1 := Src.step_pos s h
    unfold schedL
    split
    · split
      · exact h1
      · exact schedL_pos n _ _ (Src.step_pos _ (Src.step_pos _ (Src.step_pos _ (Src.step_pos _ (Src.step_pos _ (Src.step_pos _ h1))))))
    · exact h
theorem schedV_pos (s : Src) (n : Int) (h : 0 ≤ s.2) : 0 ≤ (schedV s n).2.2 := schedL_pos _ _ _ (Src.step_pos s h)
theorem chL_pos : ∀ (n : Nat) (s : Src) (c : Int), 0 ≤ s.2 → 0 ≤ (chL n s c).2.2
  | 0, _, _, h => h
  | n + 1, s, c, h => chL_pos n s.step _ (Src.step_pos s h)
theorem chutesV_pos (s : Src) (n : Int) (h : 0 ≤ s.2) : 0 ≤ (chutesV s n).2.2 := chL_pos _ _ _ (Src.step_pos s h)
def con3 : Con := { ps := [.d false (.sl (.pair (.pair .str (.pair (.int .i64) (.pair .str (.int .i64)))) (.pair .str (.pair (.int .i64) (.pair (.int .i64) (.pair (.int .i64) (.pair (.int .i64) (.int .i64)))))))), .d false (.sl (.int .i64)), .d false (.sl (.int .i64))], rs := [.d false .bool], pre := fun _ => True, out := fun _ => (true, ()), nw := id }
theorem c3 : CtrOk Tryz.prog 3 con3.ctr :=
  con_sound (G := ⟨[(5, con5.ctr), (6, con6.ctr), (7, con7.ctr), (8, con8.ctr), (9, con9.ctr), (10, con10.ctr), (11, con11.ctr), (12, con12.ctr), (13, con13.ctr)], [], []⟩) tab_ok (EnvOk.cons c5 has5 (EnvOk.cons c6 has6 (EnvOk.cons c7 has7 (EnvOk.cons c8 has8 (EnvOk.cons c9 has9 (EnvOk.cons c10 has10 (EnvOk.cons c11 has11 (EnvOk.cons c12 has12 (EnvOk.cons c13 has13 EnvOk.nil))))))))) rfl Tryz.func3 rfl con3 1180591884608255161799 (by kernel_rfl) (by decide) (by decide) rfl (by decide) rfl (by
    rintro ⟨(l : List Dep), (ns : List Int), (os : List Int), _⟩ hpre hwf X hT hG hk hK
    have h30 : (l.take 30).length ≤ 30 := by rw [List.length_take]; omega
    have hgl := schedV_len (ns.take 2000, 0) 14 (by omega)
    have hg1 : ∀ d ∈ (schedV (ns.take 2000, 0) 14).1, 0 ≤ d.closes := fun d hd => by
      have := validV_times ((sched_asc (ns.take 2000, 0) 14).1 d hd)
      omega
    have hs1 := schedV_pos (ns.take 2000, 0) 14 (by simp)
    (simp only [go_sem, Prod.eta, Option.isSome_none, Option.isSome_some, Int.toNat_zero, Nat.reduceAdd, Nat.reduceMul, Nat.reduceSub, Nat.reduceEqDiff, Nat.reduceLT, Nat.reduceLeDiff, Nat.reduceShiftRight, Nat.reduceMod, Nat.reduceBEq, reduceCtorEq, reduceIte, reduceDIte, Int.reduceNeg, Bool.not_eq_true', Bool.not_eq_false', Bool.or_eq_true, Bool.or_eq_false_iff, Bool.and_eq_true, Bool.and_eq_false_iff, decide_eq_true_eq, decide_eq_false_iff_not, Classical.not_not, not_or, maxLen, con3, con5, con6, con7, con8, con9, con10, con11, con12, con13, hT, hG, hk, hK, Tryz.results3] at hwf ⊢); (try simp (disch := decide +kernel) only [drawn, true_and, and_true])
    generalize schedV (ns.take 2000, 0) 14 = g at *
    have hsl := spoiltV_len g.2 g.1
    have hs2 := spoiltV_src g.2 g.1 hs1
    generalize spoiltV g.2 g.1 = sp at *
    have hgl2 := schedV_len sp.2 24 (by omega)
    have hs3 := schedV_pos sp.2 24 hs2
    generalize schedV sp.2 24 = g2 at *
    (repeat' (with_reducible (first | refine And.intro ?_ ?_ | intro _))) <;> (try (first | with_reducible (first | done | assumption | omega | contradiction) | decide))
    · rename_i d hd
      exact hg1 d hd
    · generalize hxs : [l.take 30, g.1, sp.1, g2.1] = xs
      have hx2 : xs.length = 4 := by rw [← hxs]; rfl
      have hxl : ∀ e ∈ xs, e.length ≤ 1000 := by
        intro e he
        rw [← hxs] at he
        simp only [List.mem_cons, List.not_mem_nil, or_false] at he
        rcases he with rfl | rfl | rfl | rfl <;> omega
      refine evk_loop ⟨{ q : Src × Nat // 0 ≤ q.1.2 ∧ q.2 ≤ 4 }, 1000,
        fun q => [(2, .one (.sl (.int .i64) os false)), (7, .one (.loc 70 0)), (29, .one (.row 66)), (30, .one (.int .i64 4)), (31, .one (.int .i64 q.1.2))],
        fun q => [(70, .cells 48 [.sl (.int .i64) q.1.1.1 false, .int .i64 q.1.1.2]), (66, .row 22 (.sl (.pair (.pair .str (.pair (.int .i64) (.pair .str (.int .i64)))) (.pair .str (.pair (.int .i64) (.pair (.int .i64) (.pair (.int .i64) (.pair (.int .i64) (.int .i64)))))))) xs)], fun q => 4 - q.1.2⟩ ⟨(g2.2, 0), hs3, by simp⟩ ?_ ?_
      · simp only [go_sem, Prod.eta, Option.isSome_none, Option.isSome_some, Int.toNat_zero, Nat.reduceAdd, Nat.reduceMul, Nat.reduceSub, Nat.reduceEqDiff, Nat.reduceLT, Nat.reduceLeDiff, Nat.reduceShiftRight, Nat.reduceMod, Nat.reduceBEq, reduceCtorEq, reduceIte, reduceDIte, Int.reduceNeg]
        first
          | exact ⟨rfl, rfl⟩
          | rfl
      · rintro ⟨⟨⟨sl, sa⟩, i⟩, (hsa : 0 ≤ sa), (hi : i ≤ 4)⟩
        (simp only [go_sem, Prod.eta, Option.isSome_none, Option.isSome_some, Int.toNat_zero, Nat.reduceAdd, Nat.reduceMul, Nat.reduceSub, Nat.reduceEqDiff, Nat.reduceLT, Nat.reduceLeDiff, Nat.reduceShiftRight, Nat.reduceMod, Nat.reduceBEq, reduceCtorEq, reduceIte, reduceDIte, Int.reduceNeg, Bool.not_eq_true', Bool.not_eq_false', Bool.or_eq_true, Bool.or_eq_false_iff, Bool.and_eq_true, Bool.and_eq_false_iff, decide_eq_true_eq, decide_eq_false_iff_not, Classical.not_not, not_or, maxLen, con3, con5, con6, con7, con8, con9, con10, con11, con12, con13, hT, hG, hk, hK, Tryz.results3]); (try simp (disch := decide +kernel) only [drawn, true_and, and_true])
        intro hlt
        have hi' : i < xs.length := by omega
        have ek : ∀ z, xs.getD (i : Int).toNat z = xs[i] := fun z => by simp [hi']
        simp only [ek]
        have hel := hxl _ (List.getElem_mem hi')
        generalize xs[i] = e at hel ⊢
        have b1 := chutesV_pos (sl, sa) 6 hsa
        generalize chutesV (sl, sa) 6 = c1 at *
        have b2 := chutesV_pos c1.2 8 b1
        generalize chutesV c1.2 8 = c2 at *
        (repeat' (with_reducible (first | refine And.intro ?_ ?_ | intro _))) <;> (try (first | with_reducible (first | done | assumption | omega | contradiction) | decide))
        obtain ⟨cc1, sl2, sa2⟩ := c2
        generalize hys : [c1.1, cc1, List.take (if 10 < (os.length : Int) then 10 else (os.length : Int)).toNat os] = ys
        have hy3 : ys.length = 3 := by rw [← hys]; rfl
        refine evk_loop ⟨{ j : Nat // j ≤ 3 }, 2000,
          fun q => [(2, .one (.sl (.int .i64) os false)), (7, .one (.loc 70 0)), (29, .one (.row 66)), (30, .one (.int .i64 4)), (31, .one (.int .i64 i)), (10, .one (.sl (.pair (.pair .str (.pair (.int .i64) (.pair .str (.int .i64)))) (.pair .str (.pair (.int .i64) (.pair (.int .i64) (.pair (.int .i64) (.pair (.int .i64) (.int .i64))))))) e false)), (44, .one (.row 67)), (45, .one (.int .i64 3)), (46, .one (.int .i64 q.1))],
          fun q => [(70, .cells 48 [.sl (.int .i64) sl2 false, .int .i64 sa2]), (66, .row 22 (.sl (.pair (.pair .str (.pair (.int .i64) (.pair .str (.int .i64)))) (.pair .str (.pair (.int .i64) (.pair (.int .i64) (.pair (.int .i64) (.pair (.int .i64) (.int .i64)))))))) xs), (67, .row 23 (.sl (.int .i64)) ys)], fun q => 3 - q.1⟩ ⟨0, by simp⟩ ?_ ?_
        · simp only [go_sem, Prod.eta, Option.isSome_none, Option.isSome_some, Int.toNat_zero, Nat.reduceAdd, Nat.reduceMul, Nat.reduceSub, Nat.reduceEqDiff, Nat.reduceLT, Nat.reduceLeDiff, Nat.reduceShiftRight, Nat.reduceMod, Nat.reduceBEq, reduceCtorEq, reduceIte, reduceDIte, Int.reduceNeg]
          first
            | exact ⟨rfl, rfl⟩
            | rfl
        · rintro ⟨j, (hj : j ≤ 3)⟩
          (simp only [go_sem, Prod.eta, Option.isSome_none, Option.isSome_some, Int.toNat_zero, Nat.reduceAdd, Nat.reduceMul, Nat.reduceSub, Nat.reduceEqDiff, Nat.reduceLT, Nat.reduceLeDiff, Nat.reduceShiftRight, Nat.reduceMod, Nat.reduceBEq, reduceCtorEq, reduceIte, reduceDIte, Int.reduceNeg, Bool.not_eq_true', Bool.not_eq_false', Bool.or_eq_true, Bool.or_eq_false_iff, Bool.and_eq_true, Bool.and_eq_false_iff, decide_eq_true_eq, decide_eq_false_iff_not, Classical.not_not, not_or, maxLen, con3, con5, con6, con7, con8, con9, con10, con11, con12, con13, hT, hG, hk, hK, Tryz.results3]); (try simp (disch := decide +kernel) only [drawn, true_and, and_true])
          refine ⟨fun hlt2 => ?_, fun hge2 => ?_⟩
          · have hj' : j < ys.length := by omega
            have ek2 : ∀ z, ys.getD (j : Int).toNat z = ys[j] := fun z => by simp [hj']
            simp only [ek2, refP_eq]
            generalize ys[j] = c
            generalize hpl : planO e c = m
            (repeat' (with_reducible (first | refine And.intro ?_ ?_ | intro _))) <;> (try (first | with_reducible (first | done | assumption | omega | contradiction) | decide))
            refine fin_lp ⟨j + 1, by omega⟩ (by simp only [go_sem, Prod.eta, Option.isSome_none, Option.isSome_some, Int.toNat_zero, Nat.reduceAdd, Nat.reduceMul, Nat.reduceSub, Nat.reduceEqDiff, Nat.reduceLT, Nat.reduceLeDiff, Nat.reduceShiftRight, Nat.reduceMod, Nat.reduceBEq, reduceCtorEq, reduceIte, reduceDIte, Int.reduceNeg]; first | rfl | ((repeat' apply And.intro) <;> first | rfl | assumption | omega)) (by dsimp only; omega)
          · (repeat' (with_reducible (first | refine And.intro ?_ ?_ | intro _))) <;> (try (first | with_reducible (first | done | assumption | omega | contradiction) | decide))
            refine fin_lp ⟨((sl2, sa2), i + 1), by assumption, by dsimp only; omega⟩ (by simp only [go_sem, Prod.eta, Option.isSome_none, Option.isSome_some, Int.toNat_zero, Nat.reduceAdd, Nat.reduceMul, Nat.reduceSub, Nat.reduceEqDiff, Nat.reduceLT, Nat.reduceLeDiff, Nat.reduceShiftRight, Nat.reduceMod, Nat.reduceBEq, reduceCtorEq, reduceIte, reduceDIte, Int.reduceNeg]; first | rfl | ((repeat' apply And.intro) <;> first | rfl | assumption | omega)) (by dsimp only; omega))
end Go.Proofs.YtdmgmdppejopcaaGreat
