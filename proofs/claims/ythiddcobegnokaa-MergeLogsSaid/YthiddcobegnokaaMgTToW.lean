/- The contracts of the specification's Place, Places, Conflicts, and of Same, SamePlates, In. -/
import Derived.Test.YthiddcobegnokaaMgKToS
set_option linter.unusedSimpArgs false
set_option linter.unusedVariables false
set_option maxRecDepth 100000
set_option maxHeartbeats 4000000
namespace Go.Proofs.Ythiddcobegnokaa
open Go.Ev

theorem aboutP_succ {l : List Opn} {p : Plt} {i : Nat} {o : Opn} (h : i < l.length) (ho : l[i] = o) : (aboutP (l.take (i + 1)) p).foldl stepP z0 = if o.plate = p then stepP ((aboutP (l.take i) p).foldl stepP z0) o else (aboutP (l.take i) p).foldl stepP z0 := by
  rw [List.take_succ_eq_append_getElem h, ho]
  unfold aboutP
  rw [List.filter_append, List.foldl_append]
  by_cases e : o.plate = p <;> simp [e]
def con48 : Con := { ps := [.d false (.sl (.pair (.int .i64) (.pair (.int .i64) (.pair (.int .i64) (.pair (.int .i64) (.pair (.int .i64) (.pair (.pair (.int .i64) (.pair (.int .i64) (.int .i64))) (.pair (.int .i64) (.int .i64))))))))), .d true (.pair (.int .i64) (.pair (.int .i64) (.int .i64)))], rs := [.d true (.pair (.pair (.pair (.int .i64) (.pair (.int .i64) (.int .i64))) (.pair (.int .i64) (.int .i64))) (.pair (.int .i64) (.sl (.int .i64))))], pre := fun (x : List Opn × Plt × Unit) => x.1.length ≤ 100000, out := fun (x : List Opn × Plt × Unit) => ((aboutP x.1 x.2.1).foldl stepP z0, ()), nw := id }
theorem c48 : CtrOk Try.prog 48 con48.ctr :=
  con_sound (G := ⟨[(74, con74.ctr)], [], [], []⟩) tab_ok (EnvOk.cons c74 has74 EnvOk.nil) rfl Try.func48 rfl con48 8590984315 (by kernel_rfl) (by decide) (by decide) rfl (by decide) rfl (by
    rintro ⟨(l : List Opn), ⟨(p1 : Int), (p2 : Int), (p3 : Int)⟩, _⟩ hpre hwf X hT hG hk hK
    (simp -implicitDefEqProofs only [go_sem, Prod.eta, Option.isSome_none, Option.isSome_some, Int.toNat_zero, Nat.reduceAdd, Nat.reduceMul, Nat.reduceSub, Nat.reduceEqDiff, Nat.reduceLT, Nat.reduceLeDiff, Nat.reduceShiftRight, Nat.reduceMod, Nat.reduceBEq, reduceCtorEq, reduceIte, reduceDIte, Int.reduceNeg, Bool.not_eq_true', Bool.not_eq_false', Bool.or_eq_true, Bool.or_eq_false_iff, Bool.and_eq_true, Bool.and_eq_false_iff, decide_eq_true_eq, decide_eq_false_iff_not, Classical.not_not, not_or, maxLen, con48, con74, hT, hG, hk, hK, Try.results48] at hwf ⊢); (try simp (disch := decide +kernel) only [drawn, true_and, and_true])
    have h1 : l.length ≤ 100000 := hpre
    obtain ⟨V, hV⟩ : ∃ V : Nat → Plc, V = fun i => (aboutP (l.take i) (p1, p2, p3)).foldl stepP z0 := ⟨_, rfl⟩
    have hVl : ∀ i, i ≤ l.length → (V i).2.2.length ≤ i := fun i hi => by
      rw [hV]
      refine Nat.le_trans (placeR_len _) (Nat.le_trans (about_len _ _) ?_)
      simp; omega
    have hV0 : V 0 = z0 := by rw [hV]; rfl
    refine evk_loop ⟨{ i : Nat // i ≤ l.length }, 1000, fun q => [(0, .one (.sl (.pair (.int .i64) (.pair (.int .i64) (.pair (.int .i64) (.pair (.int .i64) (.pair (.int .i64) (.pair (.pair (.int .i64) (.pair (.int .i64) (.int .i64))) (.pair (.int .i64) (.int .i64)))))))) l false)), (3, .one (.loc 70 0)), (4, .one (.loc 71 0)), (5, .one (.loc 72 0)), (6, .one (.int .i64 q.1))], fun q => [(70, .cells 33 [.int .i64 p1, .int .i64 p2, .int .i64 p3]), (71, .cells 55 [.undef, .undef, .undef, .undef, .undef, .undef, .undef]), (72, .cells 55 [.int .i64 (V q.1).1.1.1, .int .i64 (V q.1).1.1.2.1, .int .i64 (V q.1).1.1.2.2, .int .i64 (V q.1).1.2.1, .int .i64 (V q.1).1.2.2, .int .i64 (V q.1).2.1, .sl (.int .i64) (V q.1).2.2 false])], fun q => l.length - q.1⟩ ⟨0, by omega⟩ ?_ ?_
    · simp only [go_sem, Prod.eta, Option.isSome_none, Option.isSome_some, Int.toNat_zero, Nat.reduceAdd, Nat.reduceMul, Nat.reduceSub, Nat.reduceEqDiff, Nat.reduceLT, Nat.reduceLeDiff, Nat.reduceShiftRight, Nat.reduceMod, Nat.reduceBEq, reduceCtorEq, reduceIte, reduceDIte, Int.reduceNeg]
      simp only [hV0, z0]
      try (first | rfl | exact ⟨rfl, rfl⟩ | (and_intros <;> first | trivial | rfl))
    · rintro ⟨i, (hi : i ≤ l.length)⟩
      (simp -implicitDefEqProofs only [go_sem, Prod.eta, Option.isSome_none, Option.isSome_some, Int.toNat_zero, Nat.reduceAdd, Nat.reduceMul, Nat.reduceSub, Nat.reduceEqDiff, Nat.reduceLT, Nat.reduceLeDiff, Nat.reduceShiftRight, Nat.reduceMod, Nat.reduceBEq, reduceCtorEq, reduceIte, reduceDIte, Int.reduceNeg, Bool.not_eq_true', Bool.not_eq_false', Bool.or_eq_true, Bool.or_eq_false_iff, Bool.and_eq_true, Bool.and_eq_false_iff, decide_eq_true_eq, decide_eq_false_iff_not, Classical.not_not, not_or, maxLen, con48, con74, hT, hG, hk, hK, Try.results48]); (try simp (disch := decide +kernel) only [drawn, true_and, and_true])
      refine fun _ => ⟨fun hc => ?_, fun hc => ?_⟩
      · have hil : i < l.length := by omega
        obtain ⟨o, ho⟩ : ∃ o, l[i] = o := ⟨_, rfl⟩
        have eo : l.getD (i : Int).toNat (0, 0, 0, 0, 0, (0, 0, 0), 0, 0) = o := by rw [← ho]; simp [hil]
        have hst : V (i + 1) = if o.plate = (p1, p2, p3) then stepP (V i) o else V i := by rw [hV]; exact aboutP_succ hil ho
        have hli := hVl i (by omega)
        rw [eo]
        have hA : (¬o.2.2.2.2.2.1.1 = p1 ∨ ¬o.2.2.2.2.2.1.2.1 = p2 ∨ ¬o.2.2.2.2.2.1.2.2 = p3) → V (i + 1) = V i := fun q => by
          rw [hst, if_neg]
          intro e
          have e1 : o.2.2.2.2.2.1 = (p1, p2, p3) := e
          rw [e1] at q
          simp at q
        have hP : (o.2.2.2.2.2.1.1 = p1 ∧ o.2.2.2.2.2.1.2.1 = p2 ∧ o.2.2.2.2.2.1.2.2 = p3) → o.plate = (p1, p2, p3) := fun q => Prod.ext q.1 (Prod.ext q.2.1 q.2.2)
        have hB : (o.2.2.2.2.2.1.1 = p1 ∧ o.2.2.2.2.2.1.2.1 = p2 ∧ o.2.2.2.2.2.1.2.2 = p3) → o.2.2.2.1 = 2 → V (i + 1) = (o.2.2.2.2.2, 0, []) := fun q h => by
          rw [hst, if_pos (hP q), stepP, if_pos h]
        have hC : (o.2.2.2.2.2.1.1 = p1 ∧ o.2.2.2.2.2.1.2.1 = p2 ∧ o.2.2.2.2.2.1.2.2 = p3) → ¬ o.2.2.2.1 = 2 → V (i + 1) = (o.2.2.2.2.2, o.2.2.2.2.1, insC cmpV (V i).2.2 o.2.2.2.2.1) := fun q h => by
          rw [hst, if_pos (hP q), stepP, if_neg h]
        clear hst hP
        (repeat' (with_reducible (first | refine And.intro ?_ ?_ | intro _))) <;> (try (first | with_reducible (first | done | assumption | omega | contradiction) | decide))
        · have e := hA (by assumption)
          refine fin_lp ⟨i + 1, by omega⟩ ?_ (by dsimp only; omega)
          simp only [go_sem, Prod.eta, Option.isSome_none, Option.isSome_some, Int.toNat_zero, Nat.reduceAdd, Nat.reduceMul, Nat.reduceSub, Nat.reduceEqDiff, Nat.reduceLT, Nat.reduceLeDiff, Nat.reduceShiftRight, Nat.reduceMod, Nat.reduceBEq, reduceCtorEq, reduceIte, reduceDIte, Int.reduceNeg]
          simp only [e]
          try (first | rfl | exact ⟨rfl, rfl⟩ | (and_intros <;> first | trivial | rfl | omega))
        · have e := hB (by first | assumption | (and_intros <;> assumption)) (by assumption)
          refine fin_lp ⟨i + 1, by omega⟩ ?_ (by dsimp only; omega)
          simp only [go_sem, Prod.eta, Option.isSome_none, Option.isSome_some, Int.toNat_zero, Nat.reduceAdd, Nat.reduceMul, Nat.reduceSub, Nat.reduceEqDiff, Nat.reduceLT, Nat.reduceLeDiff, Nat.reduceShiftRight, Nat.reduceMod, Nat.reduceBEq, reduceCtorEq, reduceIte, reduceDIte, Int.reduceNeg]
          simp only [e]
          try (first | rfl | exact ⟨rfl, rfl⟩ | (and_intros <;> first | trivial | rfl | omega))
        · have e := hC (by first | assumption | (and_intros <;> assumption)) (by assumption)
          refine fin_lp ⟨i + 1, by omega⟩ ?_ (by dsimp only; omega)
          simp only [go_sem, Prod.eta, Option.isSome_none, Option.isSome_some, Int.toNat_zero, Nat.reduceAdd, Nat.reduceMul, Nat.reduceSub, Nat.reduceEqDiff, Nat.reduceLT, Nat.reduceLeDiff, Nat.reduceShiftRight, Nat.reduceMod, Nat.reduceBEq, reduceCtorEq, reduceIte, reduceDIte, Int.reduceNeg]
          simp only [e]
          try (first | rfl | exact ⟨rfl, rfl⟩ | (and_intros <;> first | trivial | rfl | omega))
      · have e : V i = (aboutP l (p1, p2, p3)).foldl stepP z0 := by rw [hV]; dsimp only; rw [List.take_of_length_le (by omega)]
        rw [← e]
        try (first | rfl | exact ⟨rfl, rfl⟩ | (and_intros <;> first | trivial | rfl | omega)))
def con24 : Con := { ps := [.d false (.sl (.pair (.int .i64) (.pair (.int .i64) (.pair (.int .i64) (.pair (.int .i64) (.pair (.int .i64) (.pair (.pair (.int .i64) (.pair (.int .i64) (.int .i64))) (.pair (.int .i64) (.int .i64)))))))))], rs := [.d false (.sl (.pair (.pair (.pair (.int .i64) (.pair (.int .i64) (.int .i64))) (.pair (.int .i64) (.int .i64))) (.pair (.int .i64) (.sl (.int .i64)))))], pre := fun _ => True, out := fun (x : List Opn × Unit) => (placesV x.1, ()), nw := id }
theorem c24 : CtrOk Try.prog 24 con24.ctr :=
  con_sound (G := ⟨[(14, con14.ctr), (29, con29.ctr), (48, con48.ctr)], [], [], []⟩) tab_ok (EnvOk.cons c14 has14 (EnvOk.cons c29 has29 (EnvOk.cons c48 has48 EnvOk.nil))) rfl Try.func24 rfl con24 16701 (by kernel_rfl) (by decide) (by decide) rfl (by decide) rfl (by
    rintro ⟨(l : List Opn), _⟩ hpre hwf X hT hG hk hK
    (simp -implicitDefEqProofs only [go_sem, Prod.eta, Option.isSome_none, Option.isSome_some, Int.toNat_zero, Nat.reduceAdd, Nat.reduceMul, Nat.reduceSub, Nat.reduceEqDiff, Nat.reduceLT, Nat.reduceLeDiff, Nat.reduceShiftRight, Nat.reduceMod, Nat.reduceBEq, reduceCtorEq, reduceIte, reduceDIte, Int.reduceNeg, Bool.not_eq_true', Bool.not_eq_false', Bool.or_eq_true, Bool.or_eq_false_iff, Bool.and_eq_true, Bool.and_eq_false_iff, decide_eq_true_eq, decide_eq_false_iff_not, Classical.not_not, not_or, maxLen, con24, con13, con14, con29, con48, hT, hG, hk, hK, Try.results24] at hwf ⊢); (try simp (disch := decide +kernel) only [drawn, true_and, and_true])
    rw [← placesR_eq]
    refine fun _ => ⟨fun h => ?_, fun h => ?_⟩
    · unfold placesR; rw [if_pos h]
    · obtain ⟨hl, _⟩ := valV_zero h
      have hpl := platesR_len l
      refine ⟨by omega, fun _ => ?_⟩
      refine evk_loop ⟨{ i : Nat // i ≤ (platesR l).length }, 1000, fun q => [(0, .one (.sl (.pair (.int .i64) (.pair (.int .i64) (.pair (.int .i64) (.pair (.int .i64) (.pair (.int .i64) (.pair (.pair (.int .i64) (.pair (.int .i64) (.int .i64))) (.pair (.int .i64) (.int .i64)))))))) l false)), (3, .one (.row 64)), (4, .one (.sl (.pair (.int .i64) (.pair (.int .i64) (.int .i64))) (platesR l) false)), (5, .one (.int .i64 q.1))], fun q => [(64, .row 55 (.pair (.pair (.pair (.int .i64) (.pair (.int .i64) (.int .i64))) (.pair (.int .i64) (.int .i64))) (.pair (.int .i64) (.sl (.int .i64)))) (((platesR l).take q.1).map (fun p => (aboutP l p).foldl stepP z0)))], fun q => (platesR l).length - q.1⟩ ⟨0, by omega⟩ ?_ ?_
      · simp only [go_sem, Prod.eta, Option.isSome_none, Option.isSome_some, Int.toNat_zero, Nat.reduceAdd, Nat.reduceMul, Nat.reduceSub, Nat.reduceEqDiff, Nat.reduceLT, Nat.reduceLeDiff, Nat.reduceShiftRight, Nat.reduceMod, Nat.reduceBEq, reduceCtorEq, reduceIte, reduceDIte, Int.reduceNeg]
        try (first | rfl | exact ⟨rfl, rfl⟩)
      · rintro ⟨i, (hi : i ≤ (platesR l).length)⟩
        (simp -implicitDefEqProofs only [go_sem, Prod.eta, Option.isSome_none, Option.isSome_some, Int.toNat_zero, Nat.reduceAdd, Nat.reduceMul, Nat.reduceSub, Nat.reduceEqDiff, Nat.reduceLT, Nat.reduceLeDiff, Nat.reduceShiftRight, Nat.reduceMod, Nat.reduceBEq, reduceCtorEq, reduceIte, reduceDIte, Int.reduceNeg, Bool.not_eq_true', Bool.not_eq_false', Bool.or_eq_true, Bool.or_eq_false_iff, Bool.and_eq_true, Bool.and_eq_false_iff, decide_eq_true_eq, decide_eq_false_iff_not, Classical.not_not, not_or, maxLen, con24, con13, con14, con29, con48, hT, hG, hk, hK, Try.results24]); (try simp (disch := decide +kernel) only [drawn, true_and, and_true])
        refine fun _ => ⟨fun hc => ?_, fun hc => ?_⟩
        · have hil : i < (platesR l).length := by omega
          obtain ⟨p, hp⟩ : ∃ p, (platesR l)[i] = p := ⟨_, rfl⟩
          have ep : (platesR l).getD (i : Int).toNat (0, 0, 0) = p := by rw [← hp]; simp [hil]
          have hst : ((platesR l).take (i + 1)).map (fun p => (aboutP l p).foldl stepP z0) = ((platesR l).take i).map (fun p => (aboutP l p).foldl stepP z0) ++ [(aboutP l p).foldl stepP z0] := by
            rw [List.take_succ_eq_append_getElem hil, List.map_append, hp]; rfl
          have hml : (((platesR l).take i).map (fun p => (aboutP l p).foldl stepP z0)).length ≤ 360 := by simp; omega
          rw [ep]
          (repeat' (with_reducible (first | refine And.intro ?_ ?_ | intro _))) <;> (try (first | with_reducible (first | done | assumption | omega | contradiction) | decide))
          refine fin_lp ⟨i + 1, by omega⟩ ?_ (by dsimp only; omega)
          simp only [go_sem, Prod.eta, Option.isSome_none, Option.isSome_some, Int.toNat_zero, Nat.reduceAdd, Nat.reduceMul, Nat.reduceSub, Nat.reduceEqDiff, Nat.reduceLT, Nat.reduceLeDiff, Nat.reduceShiftRight, Nat.reduceMod, Nat.reduceBEq, reduceCtorEq, reduceIte, reduceDIte, Int.reduceNeg]
          rw [hst]
          try (first | rfl | exact ⟨rfl, rfl⟩ | (and_intros <;> first | trivial | rfl | omega))
        · rw [← placesR_eq]
          unfold placesR
          rw [if_neg (by simp [h]), List.take_of_length_le (by omega)])
def con27 : Con := { ps := [.d false (.sl (.pair (.int .i64) (.pair (.int .i64) (.pair (.int .i64) (.pair (.int .i64) (.pair (.int .i64) (.pair (.pair (.int .i64) (.pair (.int .i64) (.int .i64))) (.pair (.int .i64) (.int .i64)))))))))], rs := [.d false (.sl (.pair (.int .i64) (.pair (.int .i64) (.int .i64))))], pre := fun _ => True, out := fun (x : List Opn × Unit) => (confV x.1, ()), nw := id }
theorem c27 : CtrOk Try.prog 27 con27.ctr :=
  con_sound (G := ⟨[(24, con24.ctr)], [], [], []⟩) tab_ok (EnvOk.cons c24 has24 EnvOk.nil) rfl Try.func27 rfl con27 1050685 (by kernel_rfl) (by decide) (by decide) rfl (by decide) rfl (by
    rintro ⟨(l : List Opn), _⟩ hpre hwf X hT hG hk hK
    (simp -implicitDefEqProofs only [go_sem, Prod.eta, Option.isSome_none, Option.isSome_some, Int.toNat_zero, Nat.reduceAdd, Nat.reduceMul, Nat.reduceSub, Nat.reduceEqDiff, Nat.reduceLT, Nat.reduceLeDiff, Nat.reduceShiftRight, Nat.reduceMod, Nat.reduceBEq, reduceCtorEq, reduceIte, reduceDIte, Int.reduceNeg, Bool.not_eq_true', Bool.not_eq_false', Bool.or_eq_true, Bool.or_eq_false_iff, Bool.and_eq_true, Bool.and_eq_false_iff, decide_eq_true_eq, decide_eq_false_iff_not, Classical.not_not, not_or, maxLen, con27, con24, hT, hG, hk, hK, Try.results27] at hwf ⊢); (try simp (disch := decide +kernel) only [drawn, true_and, and_true])
    have hpl := placesV_len l
    intro _
    refine evk_loop ⟨{ i : Nat // i ≤ (placesV l).length }, 1000, fun i => [(3, .one (.row 71)), (4, .one (.sl (.pair (.pair (.pair (.int .i64) (.pair (.int .i64) (.int .i64))) (.pair (.int .i64) (.int .i64))) (.pair (.int .i64) (.sl (.int .i64)))) (placesV l) false)), (5, .one (.int .i64 i.1))], fun i => [(71, .row 33 (.pair (.int .i64) (.pair (.int .i64) (.int .i64))) ((((placesV l).take i.1).filter (fun x => decide (1 < x.2.2.length))).map (fun x => x.1.1)))], fun i => (placesV l).length - i.1⟩ ⟨0, by omega⟩ ?_ ?_
    · simp only [go_sem, Prod.eta, Option.isSome_none, Option.isSome_some, Int.toNat_zero, Nat.reduceAdd, Nat.reduceMul, Nat.reduceSub, Nat.reduceEqDiff, Nat.reduceLT, Nat.reduceLeDiff, Nat.reduceShiftRight, Nat.reduceMod, Nat.reduceBEq, reduceCtorEq, reduceIte, reduceDIte, Int.reduceNeg]
      try (first | rfl | exact ⟨rfl, rfl⟩)
    · rintro ⟨i, (hi : i ≤ (placesV l).length)⟩
      (simp -implicitDefEqProofs only [go_sem, Prod.eta, Option.isSome_none, Option.isSome_some, Int.toNat_zero, Nat.reduceAdd, Nat.reduceMul, Nat.reduceSub, Nat.reduceEqDiff, Nat.reduceLT, Nat.reduceLeDiff, Nat.reduceShiftRight, Nat.reduceMod, Nat.reduceBEq, reduceCtorEq, reduceIte, reduceDIte, Int.reduceNeg, Bool.not_eq_true', Bool.not_eq_false', Bool.or_eq_true, Bool.or_eq_false_iff, Bool.and_eq_true, Bool.and_eq_false_iff, decide_eq_true_eq, decide_eq_false_iff_not, Classical.not_not, not_or, maxLen, con27, con24, hT, hG, hk, hK, Try.results27]); (try simp (disch := decide +kernel) only [drawn, true_and, and_true])
      refine fun _ => ⟨fun hlt => ?_, fun hge => ?_⟩
      · have hil : i < (placesV l).length := by omega
        obtain ⟨p, hp⟩ : ∃ p, (placesV l)[i] = p := ⟨_, rfl⟩
        have ep : ∀ z, (placesV l).getD (i : Int).toNat z = p := fun z => by rw [← hp]; simp [hil]
        simp only [ep]
        have hst : (((placesV l).take (i + 1)).filter (fun x => decide (1 < x.2.2.length))).map (fun x => x.1.1) = (((placesV l).take i).filter (fun x => decide (1 < x.2.2.length))).map (fun x => x.1.1) ++ if 1 < p.2.2.length then [p.1.1] else [] := by
          rw [List.take_succ_eq_append_getElem hil, List.filter_append, List.map_append, hp]
          by_cases q : 1 < p.2.2.length <;> simp [q]
        have hml : ((((placesV l).take i).filter (fun x => decide (1 < x.2.2.length))).map (fun x => x.1.1)).length ≤ 360 := by
          rw [List.length_map]
          exact Nat.le_trans (List.length_filter_le _ _) (by simp; omega)
        (repeat' (with_reducible (first | refine And.intro ?_ ?_ | intro _))) <;> (try (first | with_reducible (first | done | assumption | omega | contradiction) | decide))
        · have hq : (p.2.2.length : Int) > 1 := by assumption
          rw [if_pos (by omega)] at hst
          refine fin_lp ⟨i + 1, by omega⟩ ?_ (by dsimp only; omega)
          simp only [go_sem, Prod.eta, Option.isSome_none, Option.isSome_some, Int.toNat_zero, Nat.reduceAdd, Nat.reduceMul, Nat.reduceSub, Nat.reduceEqDiff, Nat.reduceLT, Nat.reduceLeDiff, Nat.reduceShiftRight, Nat.reduceMod, Nat.reduceBEq, reduceCtorEq, reduceIte, reduceDIte, Int.reduceNeg]
          rw [hst]
          try (first | rfl | exact ⟨rfl, rfl⟩ | (and_intros <;> first | trivial | rfl | omega))
        · have hq : ¬ (p.2.2.length : Int) > 1 := by assumption
          rw [if_neg (by omega), List.append_nil] at hst
          refine fin_lp ⟨i + 1, by omega⟩ ?_ (by dsimp only; omega)
          simp only [go_sem, Prod.eta, Option.isSome_none, Option.isSome_some, Int.toNat_zero, Nat.reduceAdd, Nat.reduceMul, Nat.reduceSub, Nat.reduceEqDiff, Nat.reduceLT, Nat.reduceLeDiff, Nat.reduceShiftRight, Nat.reduceMod, Nat.reduceBEq, reduceCtorEq, reduceIte, reduceDIte, Int.reduceNeg]
          rw [hst]
          try (first | rfl | exact ⟨rfl, rfl⟩ | (and_intros <;> first | trivial | rfl | omega))
      · unfold confV
        rw [List.take_of_length_le (by omega)])
theorem pl_ne3 (x o : Plt) : (¬x.1 = o.1 ∨ ¬x.2.1 = o.2.1 ∨ ¬x.2.2 = o.2.2) = (x ≠ o) := by
  obtain ⟨a, b, c⟩ := x
  obtain ⟨d, e, f⟩ := o
  simp only [ne_eq, Prod.mk.injEq, eq_iff_iff]
  omega
theorem pl_eq3 (x o : Plt) : (x.1 = o.1 ∧ x.2.1 = o.2.1 ∧ x.2.2 = o.2.2) = (x = o) := by
  obtain ⟨a, b, c⟩ := x
  obtain ⟨d, e, f⟩ := o
  simp only [Prod.mk.injEq]
def con25 : Con := { ps := [.d false (.sl (.pair (.int .i64) (.pair (.int .i64) (.int .i64)))), .d false (.sl (.pair (.int .i64) (.pair (.int .i64) (.int .i64))))], rs := [.d false .bool], pre := fun x => True, out := fun (x : List Plt × List Plt × Unit) => (decide (x.1 = x.2.1), ()), nw := id }
theorem c25 : CtrOk Try.prog 25 con25.ctr :=
  con_sound (G := ⟨[], [], [], []⟩) tab_ok EnvOk.nil rfl Try.func25 rfl con25 33571891 (by kernel_rfl) (by decide) (by decide) rfl (by decide) rfl (by
    rintro ⟨(a : List Plt), (b : List Plt), _⟩ hpre hwf X hT hG hk hK
    (simp -implicitDefEqProofs only [go_sem, Prod.eta, Option.isSome_none, Option.isSome_some, Int.toNat_zero, Nat.reduceAdd, Nat.reduceMul, Nat.reduceSub, Nat.reduceEqDiff, Nat.reduceLT, Nat.reduceLeDiff, Nat.reduceShiftRight, Nat.reduceMod, Nat.reduceBEq, reduceCtorEq, reduceIte, reduceDIte, Int.reduceNeg, Bool.not_eq_true', Bool.not_eq_false', Bool.or_eq_true, Bool.or_eq_false_iff, Bool.and_eq_true, Bool.and_eq_false_iff, decide_eq_true_eq, decide_eq_false_iff_not, Classical.not_not, not_or, maxLen, con25, hT, hG, hk, hK, Try.results25] at hwf ⊢); (try simp (disch := decide +kernel) only [drawn, true_and, and_true])
    refine fun _ _ => ⟨fun hne => ?_, fun hq => ?_⟩
    · rw [eq_comm, decide_eq_false_iff_not]; intro q; subst q; exact hne rfl
    · have hq : a.length = b.length := by omega
      refine evk_loop ⟨{ i : Nat // i ≤ a.length ∧ a.take i = b.take i }, 1000, fun q => [(0, .one (.sl (.pair (.int .i64) (.pair (.int .i64) (.int .i64))) a false)), (1, .one (.sl (.pair (.int .i64) (.pair (.int .i64) (.int .i64))) b false)), (5, .one (.int .i64 q.1))], fun q => [], fun q => a.length - q.1⟩ ⟨0, by simp, by simp⟩ ?_ ?_
      · simp only [go_sem, Prod.eta, Option.isSome_none, Option.isSome_some, Int.toNat_zero, Nat.reduceAdd, Nat.reduceMul, Nat.reduceSub, Nat.reduceEqDiff, Nat.reduceLT, Nat.reduceLeDiff, Nat.reduceShiftRight, Nat.reduceMod, Nat.reduceBEq, reduceCtorEq, reduceIte, reduceDIte, Int.reduceNeg]
        try (first | rfl | exact ⟨rfl, rfl⟩)
      · rintro ⟨i, (hi : i ≤ a.length), (he : a.take i = b.take i)⟩
        (simp -implicitDefEqProofs only [go_sem, Prod.eta, Option.isSome_none, Option.isSome_some, Int.toNat_zero, Nat.reduceAdd, Nat.reduceMul, Nat.reduceSub, Nat.reduceEqDiff, Nat.reduceLT, Nat.reduceLeDiff, Nat.reduceShiftRight, Nat.reduceMod, Nat.reduceBEq, reduceCtorEq, reduceIte, reduceDIte, Int.reduceNeg, Bool.not_eq_true', Bool.not_eq_false', Bool.or_eq_true, Bool.or_eq_false_iff, Bool.and_eq_true, Bool.and_eq_false_iff, decide_eq_true_eq, decide_eq_false_iff_not, Classical.not_not, not_or, maxLen, con25, hT, hG, hk, hK, Try.results25]); (try simp (disch := decide +kernel) only [drawn, true_and, and_true])
        refine fun _ => ⟨fun hlt => ?_, fun hge => ?_⟩
        · have hil : i < a.length := by omega
          have hil2 : i < b.length := by omega
          obtain ⟨o, ho⟩ : ∃ o, a[i] = o := ⟨_, rfl⟩
          obtain ⟨u, hu⟩ : ∃ u, b[i] = u := ⟨_, rfl⟩
          have eo : a.getD (i : Int).toNat (0, 0, 0) = o := by rw [← ho]; simp [hil]
          have eu : b.getD (i : Int).toNat (0, 0, 0) = u := by rw [← hu]; simp [hil2]
          rw [eo, eu]
          simp only [pl_ne3, pl_eq3]
          (repeat' (with_reducible (first | refine And.intro ?_ ?_ | intro _))) <;> (try (first | with_reducible (first | done | assumption | omega | contradiction) | decide))
          · have hne : o ≠ u := by assumption
            rw [eq_comm, decide_eq_false_iff_not]
            intro q
            subst q
            exact hne (ho.symm.trans hu)
          · have hne : o = u := by first | assumption | (apply Decidable.byContradiction; assumption)
            refine fin_lp ⟨i + 1, hil, ?_⟩ ?_ (by dsimp only; omega)
            · show a.take (i + 1) = b.take (i + 1)
              rw [List.take_succ_eq_append_getElem hil, List.take_succ_eq_append_getElem hil2, he, ho, hu, hne]
            · simp only [go_sem, Prod.eta, Option.isSome_none, Option.isSome_some, Int.toNat_zero, Nat.reduceAdd, Nat.reduceMul, Nat.reduceSub, Nat.reduceEqDiff, Nat.reduceLT, Nat.reduceLeDiff, Nat.reduceShiftRight, Nat.reduceMod, Nat.reduceBEq, reduceCtorEq, reduceIte, reduceDIte, Int.reduceNeg]
              try (first | rfl | exact ⟨rfl, rfl⟩ | (and_intros <;> first | rfl | omega))
        · rw [eq_comm, decide_eq_true_eq]
          rw [List.take_of_length_le (by omega), List.take_of_length_le (by omega)] at he
          exact he)
def con30 : Con := { ps := [.d false (.sl (.int .i64)), .d false (.int .i64)], rs := [.d false .bool], pre := fun x => True, out := fun (x : List Int × Int × Unit) => (decide (x.2.1 ∈ x.1), ()), nw := id }
theorem c30 : CtrOk Try.prog 30 con30.ctr :=
  con_sound (G := ⟨[], [], [], []⟩) tab_ok EnvOk.nil rfl Try.func30 rfl con30 131635 (by kernel_rfl) (by decide) (by decide) rfl (by decide) rfl (by
    rintro ⟨(l : List Int), (n : Int), _⟩ hpre hwf X hT hG hk hK
    (simp -implicitDefEqProofs only [go_sem, Prod.eta, Option.isSome_none, Option.isSome_some, Int.toNat_zero, Nat.reduceAdd, Nat.reduceMul, Nat.reduceSub, Nat.reduceEqDiff, Nat.reduceLT, Nat.reduceLeDiff, Nat.reduceShiftRight, Nat.reduceMod, Nat.reduceBEq, reduceCtorEq, reduceIte, reduceDIte, Int.reduceNeg, Bool.not_eq_true', Bool.not_eq_false', Bool.or_eq_true, Bool.or_eq_false_iff, Bool.and_eq_true, Bool.and_eq_false_iff, decide_eq_true_eq, decide_eq_false_iff_not, Classical.not_not, not_or, maxLen, con30, hT, hG, hk, hK, Try.results30] at hwf ⊢); (try simp (disch := decide +kernel) only [drawn, true_and, and_true])
    refine evk_loop ⟨{ i : Nat // i ≤ l.length ∧ ¬ n ∈ l.take i }, 1000, fun q => [(0, .one (.sl (.int .i64) l false)), (1, .one (.int .i64 n)), (5, .one (.int .i64 q.1))], fun q => [], fun q => l.length - q.1⟩ ⟨0, by simp, by simp⟩ ?_ ?_
    · simp only [go_sem, Prod.eta, Option.isSome_none, Option.isSome_some, Int.toNat_zero, Nat.reduceAdd, Nat.reduceMul, Nat.reduceSub, Nat.reduceEqDiff, Nat.reduceLT, Nat.reduceLeDiff, Nat.reduceShiftRight, Nat.reduceMod, Nat.reduceBEq, reduceCtorEq, reduceIte, reduceDIte, Int.reduceNeg]
      try (first | rfl | exact ⟨rfl, rfl⟩)
    · rintro ⟨i, (hi : i ≤ l.length), (hn : ¬ n ∈ l.take i)⟩
      (simp -implicitDefEqProofs only [go_sem, Prod.eta, Option.isSome_none, Option.isSome_some, Int.toNat_zero, Nat.reduceAdd, Nat.reduceMul, Nat.reduceSub, Nat.reduceEqDiff, Nat.reduceLT, Nat.reduceLeDiff, Nat.reduceShiftRight, Nat.reduceMod, Nat.reduceBEq, reduceCtorEq, reduceIte, reduceDIte, Int.reduceNeg, Bool.not_eq_true', Bool.not_eq_false', Bool.or_eq_true, Bool.or_eq_false_iff, Bool.and_eq_true, Bool.and_eq_false_iff, decide_eq_true_eq, decide_eq_false_iff_not, Classical.not_not, not_or, maxLen, con30, hT, hG, hk, hK, Try.results30]); (try simp (disch := decide +kernel) only [drawn, true_and, and_true])
      refine fun _ => ⟨fun hlt => ?_, fun hge => ?_⟩
      · have hil : i < l.length := by omega
        have eo : l.getD (i : Int).toNat 0 = l[i] := by simp [hil]
        rw [eo]
        have hts : l.take (i + 1) = l.take i ++ [l[i]] := List.take_succ_eq_append_getElem hil
        (repeat' (with_reducible (first | refine And.intro ?_ ?_ | intro _))) <;> (try (first | with_reducible (first | done | assumption | omega | contradiction) | decide))
        · have e : l[i] = n := by assumption
          rw [eq_comm, decide_eq_true_eq, ← e]
          exact List.getElem_mem hil
        · have e : ¬ l[i] = n := by assumption
          refine fin_lp ⟨i + 1, hil, ?_⟩ ?_ (by dsimp only; omega)
          · show ¬ n ∈ l.take (i + 1)
            rw [hts, List.mem_append]
            rintro (q | q)
            · exact hn q
            · have q : n = l[i] := by simpa using q
              exact e q.symm
          · simp only [go_sem, Prod.eta, Option.isSome_none, Option.isSome_some, Int.toNat_zero, Nat.reduceAdd, Nat.reduceMul, Nat.reduceSub, Nat.reduceEqDiff, Nat.reduceLT, Nat.reduceLeDiff, Nat.reduceShiftRight, Nat.reduceMod, Nat.reduceBEq, reduceCtorEq, reduceIte, reduceDIte, Int.reduceNeg]
            try (first | rfl | exact ⟨rfl, rfl⟩ | (and_intros <;> first | rfl | omega))
      · rw [List.take_of_length_le (by omega)] at hn
        rw [eq_comm, decide_eq_false_iff_not]
        exact hn)
end Go.Proofs.Ythiddcobegnokaa

/- The contracts of Same and of MergePlaces. -/
set_option linter.unusedSimpArgs false
set_option linter.unusedVariables false
set_option maxRecDepth 100000
set_option maxHeartbeats 4000000
namespace Go.Proofs.Ythiddcobegnokaa
open Go.Ev

theorem getD_i {α : Type} {l : List α} {i : Nat} {z o : α} (h : i < l.length) (ho : l[i] = o) : l.getD (i : Int).toNat z = o := by rw [← ho]; simp [h]
instance decPlc : DecidableEq Plc := instDecidableEqProd
def sameP (a b : List Plc) : Bool := decide (a = b)
theorem pc_eq5 (x o : Pce) : (x.1.1 = o.1.1 ∧ x.1.2.1 = o.1.2.1 ∧ x.1.2.2 = o.1.2.2 ∧ x.2.1 = o.2.1 ∧ x.2.2 = o.2.2) = (x = o) := by
  obtain ⟨⟨a, b, c⟩, e, f⟩ := x
  obtain ⟨⟨a', b', c'⟩, e', f'⟩ := o
  simp only [Prod.mk.injEq, eq_iff_iff]
  omega
theorem pc_ne5 (x o : Pce) : (¬x.1.1 = o.1.1 ∨ ¬x.1.2.1 = o.1.2.1 ∨ ¬x.1.2.2 = o.1.2.2 ∨ ¬x.2.1 = o.2.1 ∨ ¬x.2.2 = o.2.2) = (¬ x = o) := by
  obtain ⟨⟨a, b, c⟩, e, f⟩ := x
  obtain ⟨⟨a', b', c'⟩, e', f'⟩ := o
  simp only [Prod.mk.injEq, eq_iff_iff]
  omega
def con22 : Con := { ps := [.d false (.sl (.pair (.pair (.pair (.int .i64) (.pair (.int .i64) (.int .i64))) (.pair (.int .i64) (.int .i64))) (.pair (.int .i64) (.sl (.int .i64))))), .d false (.sl (.pair (.pair (.pair (.int .i64) (.pair (.int .i64) (.int .i64))) (.pair (.int .i64) (.int .i64))) (.pair (.int .i64) (.sl (.int .i64)))))], rs := [.d false .bool], pre := fun x => True, out := fun (x : List Plc × List Plc × Unit) => (sameP x.1 x.2.1, ()), nw := id }
theorem c22 : CtrOk Try.prog 22 con22.ctr :=
  con_sound (G := ⟨[], [], [], []⟩) tab_ok EnvOk.nil rfl Try.func22 rfl con22 9671425075718701145163891 (by kernel_rfl) (by decide) (by decide) rfl (by decide) rfl (by
    rintro ⟨(a : List Plc), (b : List Plc), _⟩ hpre hwf X hT hG hk hK
    (simp -implicitDefEqProofs only [go_sem, Prod.eta, Option.isSome_none, Option.isSome_some, Int.toNat_zero, Nat.reduceAdd, Nat.reduceMul, Nat.reduceSub, Nat.reduceEqDiff, Nat.reduceLT, Nat.reduceLeDiff, Nat.reduceShiftRight, Nat.reduceMod, Nat.reduceBEq, reduceCtorEq, reduceIte, reduceDIte, Int.reduceNeg, Bool.not_eq_true', Bool.not_eq_false', Bool.or_eq_true, Bool.or_eq_false_iff, Bool.and_eq_true, Bool.and_eq_false_iff, decide_eq_true_eq, decide_eq_false_iff_not, Classical.not_not, not_or, maxLen, con22, hT, hG, hk, hK, Try.results22] at hwf ⊢); (try simp (disch := decide +kernel) only [drawn, true_and, and_true])
    refine fun _ _ => ⟨fun hne => ?_, fun hq => ?_⟩
    · unfold sameP; rw [eq_comm, decide_eq_false_iff_not]; intro q; subst q; exact hne rfl
    · have hq : a.length = b.length := by omega
      refine evk_loop ⟨{ i : Nat // i ≤ a.length ∧ a.take i = b.take i }, 1000, fun q => [(0, .one (.sl (.pair (.pair (.pair (.int .i64) (.pair (.int .i64) (.int .i64))) (.pair (.int .i64) (.int .i64))) (.pair (.int .i64) (.sl (.int .i64)))) a false)), (1, .one (.sl (.pair (.pair (.pair (.int .i64) (.pair (.int .i64) (.int .i64))) (.pair (.int .i64) (.int .i64))) (.pair (.int .i64) (.sl (.int .i64)))) b false)), (5, .one (.int .i64 q.1))], fun q => [], fun q => a.length - q.1⟩ ⟨0, by simp, by simp⟩ ?_ ?_
      · simp only [go_sem, Prod.eta, Option.isSome_none, Option.isSome_some, Int.toNat_zero, Nat.reduceAdd, Nat.reduceMul, Nat.reduceSub, Nat.reduceEqDiff, Nat.reduceLT, Nat.reduceLeDiff, Nat.reduceShiftRight, Nat.reduceMod, Nat.reduceBEq, reduceCtorEq, reduceIte, reduceDIte, Int.reduceNeg]
        try (first | rfl | exact ⟨rfl, rfl⟩)
      · rintro ⟨i, (hi : i ≤ a.length), (he : a.take i = b.take i)⟩
        (simp -implicitDefEqProofs only [go_sem, Prod.eta, Option.isSome_none, Option.isSome_some, Int.toNat_zero, Nat.reduceAdd, Nat.reduceMul, Nat.reduceSub, Nat.reduceEqDiff, Nat.reduceLT, Nat.reduceLeDiff, Nat.reduceShiftRight, Nat.reduceMod, Nat.reduceBEq, reduceCtorEq, reduceIte, reduceDIte, Int.reduceNeg, Bool.not_eq_true', Bool.not_eq_false', Bool.or_eq_true, Bool.or_eq_false_iff, Bool.and_eq_true, Bool.and_eq_false_iff, decide_eq_true_eq, decide_eq_false_iff_not, Classical.not_not, not_or, maxLen, con22, hT, hG, hk, hK, Try.results22]); (try simp (disch := decide +kernel) only [drawn, true_and, and_true])
        refine fun _ => ⟨fun hlt => ?_, fun hge => ?_⟩
        · have hil : i < a.length := by omega
          have hil2 : i < b.length := by omega
          obtain ⟨o, ho⟩ : ∃ o, a[i] = o := ⟨_, rfl⟩
          obtain ⟨u, hu⟩ : ∃ u, b[i] = u := ⟨_, rfl⟩
          simp only [getD_i hil ho, getD_i hil2 hu, pc_eq5, pc_ne5]
          (repeat' (with_reducible (first | refine And.intro ?_ ?_ | intro _))) <;> (try (first | with_reducible (first | done | assumption | omega | contradiction) | decide))
          · have hne : (¬ o.1 = u.1 ∨ ¬ o.2.1 = u.2.1) ∨ ¬ (o.2.2.length : Int) = u.2.2.length := by assumption
            unfold sameP
            rw [eq_comm, decide_eq_false_iff_not]
            intro q
            subst q
            have e : o = u := ho.symm.trans hu
            subst e
            simp at hne
          · have hq2 : (o.1 = u.1 ∧ o.2.1 = u.2.1) ∧ (o.2.2.length : Int) = u.2.2.length := by assumption
            refine evk_loop ⟨{ k : Nat // k ≤ o.2.2.length ∧ o.2.2.take k = u.2.2.take k }, 1000, fun q => [(0, .one (.sl (.pair (.pair (.pair (.int .i64) (.pair (.int .i64) (.int .i64))) (.pair (.int .i64) (.int .i64))) (.pair (.int .i64) (.sl (.int .i64)))) a false)), (1, .one (.sl (.pair (.pair (.pair (.int .i64) (.pair (.int .i64) (.int .i64))) (.pair (.int .i64) (.int .i64))) (.pair (.int .i64) (.sl (.int .i64)))) b false)), (5, .one (.int .i64 i)), (6, .one (.int .i64 q.1))], fun q => [], fun q => o.2.2.length - q.1⟩ ⟨0, by simp, by simp⟩ ?_ ?_
            · simp only [go_sem, Prod.eta, Option.isSome_none, Option.isSome_some, Int.toNat_zero, Nat.reduceAdd, Nat.reduceMul, Nat.reduceSub, Nat.reduceEqDiff, Nat.reduceLT, Nat.reduceLeDiff, Nat.reduceShiftRight, Nat.reduceMod, Nat.reduceBEq, reduceCtorEq, reduceIte, reduceDIte, Int.reduceNeg]
              try (first | rfl | exact ⟨rfl, rfl⟩)
            · rintro ⟨k, (hkl : k ≤ o.2.2.length), (hek : o.2.2.take k = u.2.2.take k)⟩
              (simp -implicitDefEqProofs only [go_sem, Prod.eta, Option.isSome_none, Option.isSome_some, Int.toNat_zero, Nat.reduceAdd, Nat.reduceMul, Nat.reduceSub, Nat.reduceEqDiff, Nat.reduceLT, Nat.reduceLeDiff, Nat.reduceShiftRight, Nat.reduceMod, Nat.reduceBEq, reduceCtorEq, reduceIte, reduceDIte, Int.reduceNeg, Bool.not_eq_true', Bool.not_eq_false', Bool.or_eq_true, Bool.or_eq_false_iff, Bool.and_eq_true, Bool.and_eq_false_iff, decide_eq_true_eq, decide_eq_false_iff_not, Classical.not_not, not_or, maxLen, con22, hT, hG, hk, hK, Try.results22]); (try simp (disch := decide +kernel) only [drawn, true_and, and_true])
              simp only [getD_i hil ho, getD_i hil2 hu]
              have hlen : o.2.2.length = u.2.2.length := by omega
              by_cases hlt2 : k < o.2.2.length
              · have hlt3 : k < u.2.2.length := by omega
                obtain ⟨v, hv⟩ : ∃ v, o.2.2[k] = v := ⟨_, rfl⟩
                obtain ⟨w, hw⟩ : ∃ w, u.2.2[k] = w := ⟨_, rfl⟩
                simp only [getD_i hlt2 hv, getD_i hlt3 hw]
                (repeat' (with_reducible (first | refine And.intro ?_ ?_ | intro _))) <;> (try (first | with_reducible (first | done | assumption | omega | contradiction) | decide))
                · have hne : ¬ v = w := by assumption
                  unfold sameP
                  rw [eq_comm, decide_eq_false_iff_not]
                  intro q
                  subst q
                  have e : o = u := ho.symm.trans hu
                  subst e
                  exact hne (hv.symm.trans hw)
                · have hvw : v = w := by first | assumption | (apply Decidable.byContradiction; assumption)
                  refine fin_lp ⟨k + 1, hlt2, ?_⟩ ?_ (by dsimp only; omega)
                  · show o.2.2.take (k + 1) = u.2.2.take (k + 1)
                    rw [List.take_succ_eq_append_getElem hlt2, List.take_succ_eq_append_getElem hlt3, hek, hv, hw, hvw]
                  · simp only [go_sem, Prod.eta, Option.isSome_none, Option.isSome_some, Int.toNat_zero, Nat.reduceAdd, Nat.reduceMul, Nat.reduceSub, Nat.reduceEqDiff, Nat.reduceLT, Nat.reduceLeDiff, Nat.reduceShiftRight, Nat.reduceMod, Nat.reduceBEq, reduceCtorEq, reduceIte, reduceDIte, Int.reduceNeg]
                    try (first | rfl | exact ⟨rfl, rfl⟩ | (and_intros <;> first | rfl | omega))
              · rw [List.take_of_length_le (by omega), List.take_of_length_le (by omega)] at hek
                have hou : o = u := Prod.ext hq2.1.1 (Prod.ext hq2.1.2 hek)
                (repeat' (with_reducible (first | refine And.intro ?_ ?_ | intro _))) <;> (try (first | with_reducible (first | done | assumption | omega | contradiction) | decide))
                refine fin_lp ⟨i + 1, hil, ?_⟩ ?_ (by dsimp only; omega)
                · show a.take (i + 1) = b.take (i + 1)
                  rw [List.take_succ_eq_append_getElem hil, List.take_succ_eq_append_getElem hil2, he, ho, hu, hou]
                · simp only [go_sem, Prod.eta, Option.isSome_none, Option.isSome_some, Int.toNat_zero, Nat.reduceAdd, Nat.reduceMul, Nat.reduceSub, Nat.reduceEqDiff, Nat.reduceLT, Nat.reduceLeDiff, Nat.reduceShiftRight, Nat.reduceMod, Nat.reduceBEq, reduceCtorEq, reduceIte, reduceDIte, Int.reduceNeg]
                  try (first | rfl | exact ⟨rfl, rfl⟩ | (and_intros <;> first | rfl | omega))
        · unfold sameP
          rw [eq_comm, decide_eq_true_eq]
          rw [List.take_of_length_le (by omega), List.take_of_length_le (by omega)] at he
          exact he)
theorem sameP_refl (l : List Plc) : sameP l l = true := by unfold sameP; rw [decide_eq_true_eq]
def con5 : Con := { ps := [.d false (.sl (.pair (.int .i64) (.pair (.int .i64) (.pair (.int .i64) (.pair (.int .i64) (.pair (.int .i64) (.pair (.pair (.int .i64) (.pair (.int .i64) (.int .i64))) (.pair (.int .i64) (.int .i64))))))))), .d false (.sl (.int .i64))], rs := [.d false .bool], pre := fun _ => True, out := fun x => (true, ()), nw := id }
theorem c5 : CtrOk Try.prog 5 con5.ctr :=
  con_sound (G := ⟨[(10, con10.ctr), (17, con17.ctr), (22, con22.ctr), (23, con23.ctr), (24, con24.ctr), (25, con25.ctr), (26, con26.ctr), (27, con27.ctr)], [(11, con11.rctr), (12, con12.rctr), (18, con18.rctr)], [], []⟩) tab_ok (EnvOk.cons c10 has10 (EnvOk.cons c17 has17 (EnvOk.cons c22 has22 (EnvOk.cons c23 has23 (EnvOk.cons c24 has24 (EnvOk.cons c25 has25 (EnvOk.cons c26 has26 (EnvOk.cons c27 has27 (EnvOk.rcons c11 has11 (EnvOk.rcons c12 has12 (EnvOk.rcons c18 has18 EnvOk.nil))))))))))) rfl Try.func5 rfl con5 8796344682867 (by kernel_rfl) (by decide) (by decide) rfl (by decide) rfl (by
    rintro ⟨(raw : List Opn), (l : List Int), _⟩ hpre hwf X hT hG hk hK
    (simp -implicitDefEqProofs only [go_sem, Prod.eta, Option.isSome_none, Option.isSome_some, Int.toNat_zero, Nat.reduceAdd, Nat.reduceMul, Nat.reduceSub, Nat.reduceEqDiff, Nat.reduceLT, Nat.reduceLeDiff, Nat.reduceShiftRight, Nat.reduceMod, Nat.reduceBEq, reduceCtorEq, reduceIte, reduceDIte, Int.reduceNeg, Bool.not_eq_true', Bool.not_eq_false', Bool.or_eq_true, Bool.or_eq_false_iff, Bool.and_eq_true, Bool.and_eq_false_iff, decide_eq_true_eq, decide_eq_false_iff_not, Classical.not_not, not_or, maxLen, con5, con10, con17, con22, con23, con24, con25, con26, con27, con11, con12, con18, hT, hG, hk, hK, Try.results5] at hwf ⊢); (try simp (disch := decide +kernel) only [drawn, true_and, and_true])
    refine fun _ _ _ => ⟨⟨by omega, by omega, by omega, by omega, by omega⟩, ?_⟩
    rintro ⟨⟨(good : List Opn), u1⟩, ⟨⟨(s1 : List Int), (a1 : Int)⟩, z1⟩⟩ ⟨⟨(g1 : 0 ≤ a1), (g2 : OpsR 4 good)⟩, _⟩
    have g3 := g2.len
    refine ⟨⟨g1, (show good.length ≤ 1000 by omega)⟩, ?_⟩
    rintro ⟨⟨(sp1 : List Opn), u2⟩, ⟨⟨(s2 : List Int), (a2 : Int)⟩, z2⟩⟩ ⟨⟨(g4 : 0 ≤ a2), _⟩, _⟩
    refine ⟨⟨g4, (show good.length ≤ 1000 by omega)⟩, ?_⟩
    rintro ⟨⟨(sp2 : List Opn), u3⟩, ⟨⟨(s3 : List Int), (a3 : Int)⟩, z3⟩⟩ ⟨⟨(g5 : 0 ≤ a3), _⟩, _⟩
    intro _
    refine evk_loop ⟨{ i : Nat // i ≤ 4 }, 1000, fun q => [(24, .one (.row 64)), (25, .one (.int .i64 4)), (26, .one (.int .i64 q.1))], fun q => [(64, .row 22 (.sl (.pair (.int .i64) (.pair (.int .i64) (.pair (.int .i64) (.pair (.int .i64) (.pair (.int .i64) (.pair (.pair (.int .i64) (.pair (.int .i64) (.int .i64))) (.pair (.int .i64) (.int .i64))))))))) [raw, good, sp1, sp2])], fun q => 4 - q.1⟩ ⟨0, by omega⟩ ?_ ?_
    · simp only [go_sem, Prod.eta, Option.isSome_none, Option.isSome_some, Int.toNat_zero, Nat.reduceAdd, Nat.reduceMul, Nat.reduceSub, Nat.reduceEqDiff, Nat.reduceLT, Nat.reduceLeDiff, Nat.reduceShiftRight, Nat.reduceMod, Nat.reduceBEq, reduceCtorEq, reduceIte, reduceDIte, Int.reduceNeg]
      try (first | rfl | exact ⟨rfl, rfl⟩)
    · rintro ⟨i, (hi : i ≤ 4)⟩
      (simp -implicitDefEqProofs only [go_sem, Prod.eta, Option.isSome_none, Option.isSome_some, Int.toNat_zero, Nat.reduceAdd, Nat.reduceMul, Nat.reduceSub, Nat.reduceEqDiff, Nat.reduceLT, Nat.reduceLeDiff, Nat.reduceShiftRight, Nat.reduceMod, Nat.reduceBEq, reduceCtorEq, reduceIte, reduceDIte, Int.reduceNeg, Bool.not_eq_true', Bool.not_eq_false', Bool.or_eq_true, Bool.or_eq_false_iff, Bool.and_eq_true, Bool.and_eq_false_iff, decide_eq_true_eq, decide_eq_false_iff_not, Classical.not_not, not_or, maxLen, con5, con10, con17, con22, con23, con24, con25, con26, con27, con11, con12, con18, hT, hG, hk, hK, Try.results5]); (try simp (disch := decide +kernel) only [drawn, true_and, and_true])
      obtain ⟨x, hx⟩ : ∃ x, [raw, good, sp1, sp2].getD (i : Int).toNat [] = x := ⟨_, rfl⟩
      simp only [hx, sameP_refl]
      (repeat' (with_reducible (first | refine And.intro ?_ ?_ | intro _))) <;> (try (first | with_reducible (first | done | assumption | omega | contradiction) | decide))
      refine fin_lp ⟨i + 1, by omega⟩ ?_ (by dsimp only; omega)
      simp only [go_sem, Prod.eta, Option.isSome_none, Option.isSome_some, Int.toNat_zero, Nat.reduceAdd, Nat.reduceMul, Nat.reduceSub, Nat.reduceEqDiff, Nat.reduceLT, Nat.reduceLeDiff, Nat.reduceShiftRight, Nat.reduceMod, Nat.reduceBEq, reduceCtorEq, reduceIte, reduceDIte, Int.reduceNeg]
      try (first | rfl | exact ⟨rfl, rfl⟩ | (and_intros <;> first | rfl | omega)))
end Go.Proofs.Ythiddcobegnokaa

/- What MergeMay says of places: the plain law. -/
set_option linter.unusedSimpArgs false
set_option linter.unusedVariables false
set_option maxRecDepth 100000
set_option maxHeartbeats 4000000
namespace Go.Proofs.Ythiddcobegnokaa
open Go.Ev

theorem compV_len2 (t : List Int) : (compV (sortI t)).length ≤ t.length := by
  have := compV_le (sortI t)
  rwa [sortI_len] at this
theorem compV_pos {t : List Int} (h : t ≠ []) : 0 < (compV (sortI t)).length := by
  obtain ⟨x, hx⟩ := List.exists_mem_of_ne_nil t h
  exact List.length_pos_of_mem (((compV_spec t).2 x).2 hx)
theorem compV_nil : compV (sortI []) = [] := List.eq_nil_of_length_eq_zero (Nat.le_zero.1 (compV_len2 []))
theorem placeV_snoc (m : List Opn) (o : Opn) : placeV (m ++ [o]) = (o.2.2.2.2.2, if o.kind = 1 then o.box else 0, compV (sortI (if o.kind = 1 then o.box :: trail m else []))) := by
  have hl : (m ++ [o]).getD ((m ++ [o]).length - 1) o0 = o := by simp [List.getD_eq_getElem?_getD]
  unfold placeV
  rw [hl, trail_snoc]
theorem snoc_of {m : List Opn} (h : m ≠ []) : ∃ m' o, m = m' ++ [o] := ⟨m.dropLast, m.getLast h, (List.dropLast_concat_getLast h).symm⟩
theorem okOp_box {o : Opn} (h : okOp o = true) : 1 ≤ o.box ∧ o.box ≤ 999 := by
  unfold okOp inV at h
  simp only [Bool.and_eq_true, Bool.or_eq_true, decide_eq_true_eq] at h
  exact h.1.2
theorem okOp_pc {o : Opn} (h : okOp o = true) : okPc o.2.2.2.2.2 = true := by
  unfold okOp at h
  simp only [Bool.and_eq_true] at h
  exact h.2
/-- The containers and the place of a bag. -/
theorem place_may {m : List Opn} (hk : ∀ o ∈ m, okOp o = true) (hm : m ≠ []) :
    ((placeV m).2.1 ≠ 0 ↔ 0 < (placeV m).2.2.length) ∧ ((placeV m).2.1 ≠ 0 → (placeV m).2.1 ∈ (placeV m).2.2) ∧ (placeV m).2.2.length ≤ (trail m).length := by
  obtain ⟨m', o, rfl⟩ := snoc_of hm
  have ho := okOp_box (hk o (by simp))
  rw [placeV_snoc, trail_snoc]
  dsimp only
  by_cases e : o.kind = 1
  · simp only [if_pos e]
    have h1 : o.box ≠ 0 := by omega
    exact ⟨⟨fun _ => compV_pos (by simp), fun _ => h1⟩, fun _ => ((compV_spec _).2 _).2 (by simp), compV_len2 _⟩
  · simp only [if_neg e, compV_nil]
    simp
/-- How many loads came since the last unload. -/
def loadsV (l : List Opn) (p : Plt) (i : Nat) : Nat := (trail (aboutP (l.take i) p)).length
theorem loadsV_zero (l : List Opn) (p : Plt) : loadsV l p 0 = 0 := by simp [loadsV, aboutP, trail]
theorem loadsV_ne {l : List Opn} {p : Plt} {i : Nat} {o : Opn} (hi : i < l.length) (ho : l.getD i o0 = o) (h : o.plate ≠ p) : loadsV l p (i + 1) = loadsV l p i := by
  rw [getD_at hi] at ho
  unfold loadsV aboutP
  rw [List.take_succ_eq_append_getElem hi, ho, List.filter_append]
  simp [h]
theorem loadsV_eq {l : List Opn} {p : Plt} {i : Nat} {o : Opn} (hi : i < l.length) (ho : l.getD i o0 = o) (h : o.plate = p) : loadsV l p (i + 1) = if o.kind = 1 then loadsV l p i + 1 else 0 := by
  rw [getD_at hi] at ho
  unfold loadsV aboutP
  rw [List.take_succ_eq_append_getElem hi, ho, List.filter_append]
  simp only [h, decide_true, List.filter_cons_of_pos, List.filter_nil]
  rw [trail_snoc]
  split <;> simp
theorem loadsV_le (l : List Opn) (p : Plt) : ∀ i, loadsV l p i ≤ l.length := fun i => by
  unfold loadsV trail aboutP
  rw [List.length_map]
  refine Nat.le_trans (List.takeWhile_sublist _).length_le ?_
  rw [List.length_reverse]
  exact Nat.le_trans (List.length_filter_le _ _) (by simp; omega)
theorem loadsV_all (l : List Opn) (p : Plt) : loadsV l p l.length = (trail (aboutP l p)).length := by unfold loadsV; rw [List.take_length]
/-- An operation after all others. -/
structure Late (l : List Opn) (o : Opn) : Prop where
  okl : OkL l
  oko : okOp o = true
  len : l.length ≤ 300
  tm : ∀ z ∈ l, z.1 < o.1
  dv : ∀ z ∈ l, z.2.1 < o.2.1
theorem Late.all {l : List Opn} {o : Opn} (h : Late l o) : OkL (l ++ [o]) := by
  refine ⟨fun z hz => ?_, List.pairwise_append.2 ⟨h.okl.pw, by simp, fun z hz u hu => ?_⟩⟩
  · rcases List.mem_append.1 hz with k | k
    · exact h.okl.ok z k
    · have : z = o := by simpa using k
      subst this; exact h.oko
  · have hu : u = o := by simpa using hu
    subst hu
    have h1 := h.tm z hz
    have h2 := h.dv z hz
    refine ⟨?_, fun q => by omega⟩
    unfold bfV; rw [decide_eq_true_eq]; omega
theorem Late.mg {l : List Opn} {o : Opn} (h : Late l o) : mergeV l [o] = (l ++ [o], 0) := by
  have ha := h.all
  have hl : (l ++ [o]).length ≤ 360 := by have := h.len; simp; omega
  have p : PartOf (l ++ [o]) l := PartOf.of ha (List.sublist_append_left _ _)
  have q : PartOf (l ++ [o]) [o] := PartOf.of ha (List.sublist_append_right _ _)
  obtain ⟨h1, h2⟩ := p.mg ha hl q
  rw [h1, srt_ext h2.srt ha.srt fun x => by rw [mg_mem, List.mem_append]]
theorem abK_same {l : List Opn} {o : Opn} (h : ∃ z ∈ l, z.plate = o.plate) : abK (l ++ [o]) = abK l := by
  rw [abK_snoc]
  have := (abK_mem o.plate l).2 h
  unfold kput
  rw [if_pos (kidx_lt.2 this)]
theorem about_snoc (l : List Opn) (o : Opn) (p : Plt) : aboutP (l ++ [o]) p = if o.plate = p then aboutP l p ++ [o] else aboutP l p := by
  unfold aboutP
  rw [List.filter_append]
  by_cases h : o.plate = p <;> simp [h]
/-- The keys that places are about. -/
def keysV (l : List Opn) : List Plt := sortBy pltC (abK l)
theorem placesV_ok {l : List Opn} (h : OkL l) (hl : l.length ≤ 360) : placesV l = (keysV l).map (fun p => placeV (aboutP l p)) := by
  unfold placesV keysV
  rw [if_neg (by rw [h.val hl]; simp)]
theorem about_ok {l : List Opn} (h : OkL l) (p : Plt) : ∀ o ∈ aboutP l p, okOp o = true := fun o ho => h.ok o (List.mem_filter.1 ho).1
theorem place_plate {l : List Opn} {p : Plt} (h : p ∈ keysV l) : (placeV (aboutP l p)).1.1 = p := by
  obtain ⟨m, o, e⟩ := snoc_of (about_ne h)
  rw [e, placeV_snoc]
  have ho : o ∈ aboutP l p := by rw [e]; simp
  have := (List.mem_filter.1 ho).2
  exact of_decide_eq_true this
theorem place_pc {l : List Opn} (h : OkL l) {p : Plt} (hp : p ∈ keysV l) : okPc (placeV (aboutP l p)).1 = true := by
  obtain ⟨m, o, e⟩ := snoc_of (about_ne hp)
  rw [e, placeV_snoc]
  have ho : o ∈ aboutP l p := by rw [e]; simp
  exact okOp_pc (h.ok o (List.mem_filter.1 ho).1)
/-- An unload at the end. -/
theorem late_places {l : List Opn} {o : Opn} (h : Late l o) (hk : o.kind = 2) {p : Plt} (hp : p ∈ keysV l) (ho : o.plate = p) :
    placesV (l ++ [o]) = (keysV l).map (fun q => if q = p then (o.2.2.2.2.2, 0, []) else placeV (aboutP l q)) := by
  have hex : ∃ z ∈ l, z.plate = o.plate := by
    rw [ho]; exact (abK_mem p l).1 ((sortBy_perm pltC (abK l)).mem_iff.1 hp)
  rw [placesV_ok h.all (by have := h.len; simp; omega)]
  unfold keysV
  rw [abK_same hex]
  refine List.map_congr_left fun q hq => ?_
  rw [about_snoc, ho]
  by_cases e : q = p
  · subst e
    rw [if_pos rfl, if_pos rfl, placeV_snoc, if_neg (by rw [hk]; decide), if_neg (by rw [hk]; decide), compV_nil]
  · rw [if_neg e, if_neg (fun k => e k.symm)]
theorem keysV_len (l : List Opn) : (keysV l).length ≤ l.length := sortBy_len l
theorem keysV_nodup (l : List Opn) : (keysV l).Nodup := (sortBy_perm pltC (abK l)).nodup_iff.2 (abK_nodup l)
end Go.Proofs.Ythiddcobegnokaa
