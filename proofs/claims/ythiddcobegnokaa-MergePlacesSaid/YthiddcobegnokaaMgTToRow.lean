/- The contracts of the specification's Place, Places, Conflicts, and of Same, SamePlates, In. -/
import Derived.Test.YthiddcobegnokaaMgKToS
import Derived.Test.YthiddcobegnokaaEvTab
import Derived.OpenShut
import Derived.JoinedCond
import Derived.Below
import Derived.ChangeSame
import Derived.ChangeArms
import Derived.WideKeyArgs
set_option linter.unusedSimpArgs false
set_option linter.unusedVariables false
set_option maxRecDepth 100000
set_option maxHeartbeats 4000000
namespace Go.Proofs.Ythiddcobegnokaa
open Go.Ev

theorem aboutP_succ {l : List Opn} {p : Plt} {i : Nat} {o : Opn} (h : i < l.length) (ho : l[i] = o) : (aboutP (l.take (i + 1)) p).foldl stepP z0 = if o.plate = p then stepP ((aboutP (l.take i) p).foldl stepP z0) o else (aboutP (l.take i) p).foldl stepP z0 := by
  rw [List.take_succ_eq_append_getElem h, ho]
  unfold aboutP
  rw [List.filter_append, List.foldl_append]
  by_cases e : o.plate = p <;> simp [e]
def con48 : Con := { ps := [.d false (.sl (.pair (.int .i64) (.pair (.int .i64) (.pair (.int .i64) (.pair (.int .i64) (.pair (.int .i64) (.pair (.pair (.int .i64) (.pair (.int .i64) (.int .i64))) (.pair (.int .i64) (.int .i64))))))))), .d true (.pair (.int .i64) (.pair (.int .i64) (.int .i64)))], rs := [.d true (.pair (.pair (.pair (.int .i64) (.pair (.int .i64) (.int .i64))) (.pair (.int .i64) (.int .i64))) (.pair (.int .i64) (.sl (.int .i64))))], pre := fun (x : List Opn × Plt × Unit) => x.1.length ≤ 100000, out := fun (x : List Opn × Plt × Unit) => ((aboutP x.1 x.2.1).foldl stepP z0, ()), nw := id }
theorem c48 : CtrOk Try.prog 48 con48.ctr :=
  con_sound (G := ⟨[(74, con74.ctr)], [], [], []⟩) tab_ok (EnvOk.cons c74 has74 EnvOk.nil) rfl Try.func48 rfl con48 8590984315 (by kernel_rfl) (by decide) (by decide) rfl (by decide) rfl (by
    rintro ⟨(l : List Opn), ⟨(p1 : Int), (p2 : Int), (p3 : Int)⟩, _⟩ hpre hwf X hT hG hk hK
    (simp -implicitDefEqProofs only [go_sem, Prod.eta, Option.isSome_none, Option.isSome_some, Int.toNat_zero, Nat.reduceAdd, Nat.reduceMul, Nat.reduceSub, Nat.reduceEqDiff, Nat.reduceLT, Nat.reduceLeDiff, Nat.reduceShiftRight, Nat.reduceMod, Nat.reduceBEq, reduceCtorEq, reduceIte, reduceDIte, Int.reduceNeg, Bool.not_eq_true', Bool.not_eq_false', Bool.or_eq_true, Bool.or_eq_false_iff, Bool.and_eq_true, Bool.and_eq_false_iff, decide_eq_true_eq, decide_eq_false_iff_not, Classical.not_not, not_or, maxLen, con48, con74, hT, hG, hk, hK, Try.results48] at hwf ⊢); (try simp (disch := decide +kernel) only [drawn, true_and, and_true])
    have h1 : l.length ≤ 100000 := hpre
    obtain ⟨V, hV⟩ : ∃ V : Nat → Plc, V = fun i => (aboutP (l.take i) (p1, p2, p3)).foldl stepP z0 := ⟨_, rfl⟩
    have hVl : ∀ i, i ≤ l.length → (V i).2.2.length ≤ i := fun i hi => by
      rw [hV]
      refine Nat.le_trans (placeR_len _) (Nat.le_trans (about_len _ _) ?_)
      simp; omega
    have hV0 : V 0 = z0 := by rw [hV]; rfl
    refine evk_loop ⟨{ i : Nat // i ≤ l.length }, 1000, fun q => [(0, .one (.sl (.pair (.int .i64) (.pair (.int .i64) (.pair (.int .i64) (.pair (.int .i64) (.pair (.int .i64) (.pair (.pair (.int .i64) (.pair (.int .i64) (.int .i64))) (.pair (.int .i64) (.int .i64)))))))) l false)), (3, .one (.loc 70 0)), (4, .one (.loc 71 0)), (5, .one (.loc 72 0)), (6, .one (.int .i64 q.1))], fun q => [(70, .cells 33 [.int .i64 p1, .int .i64 p2, .int .i64 p3]), (71, .cells 55 [.undef, .undef, .undef, .undef, .undef, .undef, .undef]), (72, .cells 55 [.int .i64 (V q.1).1.1.1, .int .i64 (V q.1).1.1.2.1, .int .i64 (V q.1).1.1.2.2, .int .i64 (V q.1).1.2.1, .int .i64 (V q.1).1.2.2, .int .i64 (V q.1).2.1, .sl (.int .i64) (V q.1).2.2 false])], fun q => l.length - q.1⟩ ⟨0, by omega⟩ ?_ ?_
    · simp only [go_sem, Prod.eta, Option.isSome_none, Option.isSome_some, Int.toNat_zero, Nat.reduceAdd, Nat.reduceMul, Nat.reduceSub, Nat.reduceEqDiff, Nat.reduceLT, Nat.reduceLeDiff, Nat.reduceShiftRight, Nat.reduceMod, Nat.reduceBEq, reduceCtorEq, reduceIte, reduceDIte, Int.reduceNeg]
      simp only [hV0, z0]
      try (first | rfl | exact ⟨rfl, rfl⟩ | (and_intros <;> first | trivial | rfl))
    · rintro ⟨i, (hi : i ≤ l.length)⟩
      (simp -implicitDefEqProofs only [go_sem, Prod.eta, Option.isSome_none, Option.isSome_some, Int.toNat_zero, Nat.reduceAdd, Nat.reduceMul, Nat.reduceSub, Nat.reduceEqDiff, Nat.reduceLT, Nat.reduceLeDiff, Nat.reduceShiftRight, Nat.reduceMod, Nat.reduceBEq, reduceCtorEq, reduceIte, reduceDIte, Int.reduceNeg, Bool.not_eq_true', Bool.not_eq_false', Bool.or_eq_true, Bool.or_eq_false_iff, Bool.and_eq_true, Bool.and_eq_false_iff, decide_eq_true_eq, decide_eq_false_iff_not, Classical.not_not, not_or, maxLen, con48, con74, hT, hG, hk, hK, Try.results48]); (try simp (disch := decide +kernel) only [drawn, true_and, and_true])
      refine fun _ => ⟨fun hc => ?_, fun hc => ?_⟩
      · have hil : i < l.length := by omega
        obtain ⟨o, ho⟩ : ∃ o, l[i] = o := ⟨_, rfl⟩
        have eo : l.getD (i : Int).toNat (0, 0, 0, 0, 0, (0, 0, 0), 0, 0) = o := by rw [← ho]; simp [hil]
        have hst : V (i + 1) = if o.plate = (p1, p2, p3) then stepP (V i) o else V i := by rw [hV]; exact aboutP_succ hil ho
        have hli := hVl i (by omega)
        rw [eo]
        have hA : (¬o.2.2.2.2.2.1.1 = p1 ∨ ¬o.2.2.2.2.2.1.2.1 = p2 ∨ ¬o.2.2.2.2.2.1.2.2 = p3) → V (i + 1) = V i := fun q => by
          rw [hst, if_neg]
          intro e
          have e1 : o.2.2.2.2.2.1 = (p1, p2, p3) := e
          rw [e1] at q
          simp at q
        have hP : (o.2.2.2.2.2.1.1 = p1 ∧ o.2.2.2.2.2.1.2.1 = p2 ∧ o.2.2.2.2.2.1.2.2 = p3) → o.plate = (p1, p2, p3) := fun q => Prod.ext q.1 (Prod.ext q.2.1 q.2.2)
        have hB : (o.2.2.2.2.2.1.1 = p1 ∧ o.2.2.2.2.2.1.2.1 = p2 ∧ o.2.2.2.2.2.1.2.2 = p3) → o.2.2.2.1 = 2 → V (i + 1) = (o.2.2.2.2.2, 0, []) := fun q h => by
          rw [hst, if_pos (hP q), stepP, if_pos h]
        have hC : (o.2.2.2.2.2.1.1 = p1 ∧ o.2.2.2.2.2.1.2.1 = p2 ∧ o.2.2.2.2.2.1.2.2 = p3) → ¬ o.2.2.2.1 = 2 → V (i + 1) = (o.2.2.2.2.2, o.2.2.2.2.1, insC cmpV (V i).2.2 o.2.2.2.2.1) := fun q h => by
          rw [hst, if_pos (hP q), stepP, if_neg h]
        clear hst hP
        (repeat' (with_reducible (first | refine And.intro ?_ ?_ | intro _))) <;> (try (first | with_reducible (first | done | assumption | omega | contradiction) | decide))
        · have e := hA (by assumption)
          refine fin_lp ⟨i + 1, by omega⟩ ?_ (by dsimp only; omega)
          simp only [go_sem, Prod.eta, Option.isSome_none, Option.isSome_some, Int.toNat_zero, Nat.reduceAdd, Nat.reduceMul, Nat.reduceSub, Nat.reduceEqDiff, Nat.reduceLT, Nat.reduceLeDiff, Nat.reduceShiftRight, Nat.reduceMod, Nat.reduceBEq, reduceCtorEq, reduceIte, reduceDIte, Int.reduceNeg]
          simp only [e]
          try (first | rfl | exact ⟨rfl, rfl⟩ | (and_intros <;> first | trivial | rfl | omega))
        · have e := hB (by first | assumption | (and_intros <;> assumption)) (by assumption)
          refine fin_lp ⟨i + 1, by omega⟩ ?_ (by dsimp only; omega)
          simp only [go_sem, Prod.eta, Option.isSome_none, Option.isSome_some, Int.toNat_zero, Nat.reduceAdd, Nat.reduceMul, Nat.reduceSub, Nat.reduceEqDiff, Nat.reduceLT, Nat.reduceLeDiff, Nat.reduceShiftRight, Nat.reduceMod, Nat.reduceBEq, reduceCtorEq, reduceIte, reduceDIte, Int.reduceNeg]
          simp only [e]
          try (first | rfl | exact ⟨rfl, rfl⟩ | (and_intros <;> first | trivial | rfl | omega))
        · have e := hC (by first | assumption | (and_intros <;> assumption)) (by assumption)
          refine fin_lp ⟨i + 1, by omega⟩ ?_ (by dsimp only; omega)
          simp only [go_sem, Prod.eta, Option.isSome_none, Option.isSome_some, Int.toNat_zero, Nat.reduceAdd, Nat.reduceMul, Nat.reduceSub, Nat.reduceEqDiff, Nat.reduceLT, Nat.reduceLeDiff, Nat.reduceShiftRight, Nat.reduceMod, Nat.reduceBEq, reduceCtorEq, reduceIte, reduceDIte, Int.reduceNeg]
          simp only [e]
          try (first | rfl | exact ⟨rfl, rfl⟩ | (and_intros <;> first | trivial | rfl | omega))
      · have e : V i = (aboutP l (p1, p2, p3)).foldl stepP z0 := by rw [hV]; dsimp only; rw [List.take_of_length_le (by omega)]
        rw [← e]
        try (first | rfl | exact ⟨rfl, rfl⟩ | (and_intros <;> first | trivial | rfl | omega)))
def con24 : Con := { ps := [.d false (.sl (.pair (.int .i64) (.pair (.int .i64) (.pair (.int .i64) (.pair (.int .i64) (.pair (.int .i64) (.pair (.pair (.int .i64) (.pair (.int .i64) (.int .i64))) (.pair (.int .i64) (.int .i64)))))))))], rs := [.d false (.sl (.pair (.pair (.pair (.int .i64) (.pair (.int .i64) (.int .i64))) (.pair (.int .i64) (.int .i64))) (.pair (.int .i64) (.sl (.int .i64)))))], pre := fun _ => True, out := fun (x : List Opn × Unit) => (placesV x.1, ()), nw := id }
theorem c24 : CtrOk Try.prog 24 con24.ctr :=
  con_sound (G := ⟨[(14, con14.ctr), (29, con29.ctr), (48, con48.ctr)], [], [], []⟩) tab_ok (EnvOk.cons c14 has14 (EnvOk.cons c29 has29 (EnvOk.cons c48 has48 EnvOk.nil))) rfl Try.func24 rfl con24 16701 (by kernel_rfl) (by decide) (by decide) rfl (by decide) rfl (by
    rintro ⟨(l : List Opn), _⟩ hpre hwf X hT hG hk hK
    (simp -implicitDefEqProofs only [go_sem, Prod.eta, Option.isSome_none, Option.isSome_some, Int.toNat_zero, Nat.reduceAdd, Nat.reduceMul, Nat.reduceSub, Nat.reduceEqDiff, Nat.reduceLT, Nat.reduceLeDiff, Nat.reduceShiftRight, Nat.reduceMod, Nat.reduceBEq, reduceCtorEq, reduceIte, reduceDIte, Int.reduceNeg, Bool.not_eq_true', Bool.not_eq_false', Bool.or_eq_true, Bool.or_eq_false_iff, Bool.and_eq_true, Bool.and_eq_false_iff, decide_eq_true_eq, decide_eq_false_iff_not, Classical.not_not, not_or, maxLen, con24, con13, con14, con29, con48, hT, hG, hk, hK, Try.results24] at hwf ⊢); (try simp (disch := decide +kernel) only [drawn, true_and, and_true])
    rw [← placesR_eq]
    refine fun _ => ⟨fun h => ?_, fun h => ?_⟩
    · unfold placesR; rw [if_pos h]
    · obtain ⟨hl, _⟩ := valV_zero h
      have hpl := platesR_len l
      refine ⟨by omega, fun _ => ?_⟩
      refine evk_loop ⟨{ i : Nat // i ≤ (platesR l).length }, 1000, fun q => [(0, .one (.sl (.pair (.int .i64) (.pair (.int .i64) (.pair (.int .i64) (.pair (.int .i64) (.pair (.int .i64) (.pair (.pair (.int .i64) (.pair (.int .i64) (.int .i64))) (.pair (.int .i64) (.int .i64)))))))) l false)), (3, .one (.row 64)), (4, .one (.sl (.pair (.int .i64) (.pair (.int .i64) (.int .i64))) (platesR l) false)), (5, .one (.int .i64 q.1))], fun q => [(64, .row 55 (.pair (.pair (.pair (.int .i64) (.pair (.int .i64) (.int .i64))) (.pair (.int .i64) (.int .i64))) (.pair (.int .i64) (.sl (.int .i64)))) (((platesR l).take q.1).map (fun p => (aboutP l p).foldl stepP z0)))], fun q => (platesR l).length - q.1⟩ ⟨0, by omega⟩ ?_ ?_
      · simp only [go_sem, Prod.eta, Option.isSome_none, Option.isSome_some, Int.toNat_zero, Nat.reduceAdd, Nat.reduceMul, Nat.reduceSub, Nat.reduceEqDiff, Nat.reduceLT, Nat.reduceLeDiff, Nat.reduceShiftRight, Nat.reduceMod, Nat.reduceBEq, reduceCtorEq, reduceIte, reduceDIte, Int.reduceNeg]
        try (first | rfl | exact ⟨rfl, rfl⟩)
      · rintro ⟨i, (hi : i ≤ (platesR l).length)⟩
        (simp -implicitDefEqProofs only [go_sem, Prod.eta, Option.isSome_none, Option.isSome_some, Int.toNat_zero, Nat.reduceAdd, Nat.reduceMul, Nat.reduceSub, Nat.reduceEqDiff, Nat.reduceLT, Nat.reduceLeDiff, Nat.reduceShiftRight, Nat.reduceMod, Nat.reduceBEq, reduceCtorEq, reduceIte, reduceDIte, Int.reduceNeg, Bool.not_eq_true', Bool.not_eq_false', Bool.or_eq_true, Bool.or_eq_false_iff, Bool.and_eq_true, Bool.and_eq_false_iff, decide_eq_true_eq, decide_eq_false_iff_not, Classical.not_not, not_or, maxLen, con24, con13, con14, con29, con48, hT, hG, hk, hK, Try.results24]); (try simp (disch := decide +kernel) only [drawn, true_and, and_true])
        refine fun _ => ⟨fun hc => ?_, fun hc => ?_⟩
        · have hil : i < (platesR l).length := by omega
          obtain ⟨p, hp⟩ : ∃ p, (platesR l)[i] = p := ⟨_, rfl⟩
          have ep : (platesR l).getD (i : Int).toNat (0, 0, 0) = p := by rw [← hp]; simp [hil]
          have hst : ((platesR l).take (i + 1)).map (fun p => (aboutP l p).foldl stepP z0) = ((platesR l).take i).map (fun p => (aboutP l p).foldl stepP z0) ++ [(aboutP l p).foldl stepP z0] := by
            rw [List.take_succ_eq_append_getElem hil, List.map_append, hp]; rfl
          have hml : (((platesR l).take i).map (fun p => (aboutP l p).foldl stepP z0)).length ≤ 360 := by simp; omega
          rw [ep]
          (repeat' (with_reducible (first | refine And.intro ?_ ?_ | intro _))) <;> (try (first | with_reducible (first | done | assumption | omega | contradiction) | decide))
          refine fin_lp ⟨i + 1, by omega⟩ ?_ (by dsimp only; omega)
          simp only [go_sem, Prod.eta, Option.isSome_none, Option.isSome_some, Int.toNat_zero, Nat.reduceAdd, Nat.reduceMul, Nat.reduceSub, Nat.reduceEqDiff, Nat.reduceLT, Nat.reduceLeDiff, Nat.reduceShiftRight, Nat.reduceMod, Nat.reduceBEq, reduceCtorEq, reduceIte, reduceDIte, Int.reduceNeg]
          rw [hst]
          try (first | rfl | exact ⟨rfl, rfl⟩ | (and_intros <;> first | trivial | rfl | omega))
        · rw [← placesR_eq]
          unfold placesR
          rw [if_neg (by simp [h]), List.take_of_length_le (by omega)])
def con27 : Con := { ps := [.d false (.sl (.pair (.int .i64) (.pair (.int .i64) (.pair (.int .i64) (.pair (.int .i64) (.pair (.int .i64) (.pair (.pair (.int .i64) (.pair (.int .i64) (.int .i64))) (.pair (.int .i64) (.int .i64)))))))))], rs := [.d false (.sl (.pair (.int .i64) (.pair (.int .i64) (.int .i64))))], pre := fun _ => True, out := fun (x : List Opn × Unit) => (confV x.1, ()), nw := id }
theorem c27 : CtrOk Try.prog 27 con27.ctr :=
  con_sound (G := ⟨[(24, con24.ctr)], [], [], []⟩) tab_ok (EnvOk.cons c24 has24 EnvOk.nil) rfl Try.func27 rfl con27 1050685 (by kernel_rfl) (by decide) (by decide) rfl (by decide) rfl (by
    rintro ⟨(l : List Opn), _⟩ hpre hwf X hT hG hk hK
    (simp -implicitDefEqProofs only [go_sem, Prod.eta, Option.isSome_none, Option.isSome_some, Int.toNat_zero, Nat.reduceAdd, Nat.reduceMul, Nat.reduceSub, Nat.reduceEqDiff, Nat.reduceLT, Nat.reduceLeDiff, Nat.reduceShiftRight, Nat.reduceMod, Nat.reduceBEq, reduceCtorEq, reduceIte, reduceDIte, Int.reduceNeg, Bool.not_eq_true', Bool.not_eq_false', Bool.or_eq_true, Bool.or_eq_false_iff, Bool.and_eq_true, Bool.and_eq_false_iff, decide_eq_true_eq, decide_eq_false_iff_not, Classical.not_not, not_or, maxLen, con27, con24, hT, hG, hk, hK, Try.results27] at hwf ⊢); (try simp (disch := decide +kernel) only [drawn, true_and, and_true])
    have hpl := placesV_len l
    intro _
    refine evk_loop ⟨{ i : Nat // i ≤ (placesV l).length }, 1000, fun i => [(3, .one (.row 71)), (4, .one (.sl (.pair (.pair (.pair (.int .i64) (.pair (.int .i64) (.int .i64))) (.pair (.int .i64) (.int .i64))) (.pair (.int .i64) (.sl (.int .i64)))) (placesV l) false)), (5, .one (.int .i64 i.1))], fun i => [(71, .row 33 (.pair (.int .i64) (.pair (.int .i64) (.int .i64))) ((((placesV l).take i.1).filter (fun x => decide (1 < x.2.2.length))).map (fun x => x.1.1)))], fun i => (placesV l).length - i.1⟩ ⟨0, by omega⟩ ?_ ?_
    · simp only [go_sem, Prod.eta, Option.isSome_none, Option.isSome_some, Int.toNat_zero, Nat.reduceAdd, Nat.reduceMul, Nat.reduceSub, Nat.reduceEqDiff, Nat.reduceLT, Nat.reduceLeDiff, Nat.reduceShiftRight, Nat.reduceMod, Nat.reduceBEq, reduceCtorEq, reduceIte, reduceDIte, Int.reduceNeg]
      try (first | rfl | exact ⟨rfl, rfl⟩)
    · rintro ⟨i, (hi : i ≤ (placesV l).length)⟩
      (simp -implicitDefEqProofs only [go_sem, Prod.eta, Option.isSome_none, Option.isSome_some, Int.toNat_zero, Nat.reduceAdd, Nat.reduceMul, Nat.reduceSub, Nat.reduceEqDiff, Nat.reduceLT, Nat.reduceLeDiff, Nat.reduceShiftRight, Nat.reduceMod, Nat.reduceBEq, reduceCtorEq, reduceIte, reduceDIte, Int.reduceNeg, Bool.not_eq_true', Bool.not_eq_false', Bool.or_eq_true, Bool.or_eq_false_iff, Bool.and_eq_true, Bool.and_eq_false_iff, decide_eq_true_eq, decide_eq_false_iff_not, Classical.not_not, not_or, maxLen, con27, con24, hT, hG, hk, hK, Try.results27]); (try simp (disch := decide +kernel) only [drawn, true_and, and_true])
      refine fun _ => ⟨fun hlt => ?_, fun hge => ?_⟩
      · have hil : i < (placesV l).length := by omega
        obtain ⟨p, hp⟩ : ∃ p, (placesV l)[i] = p := ⟨_, rfl⟩
        have ep : ∀ z, (placesV l).getD (i : Int).toNat z = p := fun z => by rw [← hp]; simp [hil]
        simp only [ep]
        have hst : (((placesV l).take (i + 1)).filter (fun x => decide (1 < x.2.2.length))).map (fun x => x.1.1) = (((placesV l).take i).filter (fun x => decide (1 < x.2.2.length))).map (fun x => x.1.1) ++ if 1 < p.2.2.length then [p.1.1] else [] := by
          rw [List.take_succ_eq_append_getElem hil, List.filter_append, List.map_append, hp]
          by_cases q : 1 < p.2.2.length <;> simp [q]
        have hml : ((((placesV l).take i).filter (fun x => decide (1 < x.2.2.length))).map (fun x => x.1.1)).length ≤ 360 := by
          rw [List.length_map]
          exact Nat.le_trans (List.length_filter_le _ _) (by simp; omega)
        (repeat' (with_reducible (first | refine And.intro ?_ ?_ | intro _))) <;> (try (first | with_reducible (first | done | assumption | omega | contradiction) | decide))
        · have hq : (p.2.2.length : Int) > 1 := by assumption
          rw [if_pos (by omega)] at hst
          refine fin_lp ⟨i + 1, by omega⟩ ?_ (by dsimp only; omega)
          simp only [go_sem, Prod.eta, Option.isSome_none, Option.isSome_some, Int.toNat_zero, Nat.reduceAdd, Nat.reduceMul, Nat.reduceSub, Nat.reduceEqDiff, Nat.reduceLT, Nat.reduceLeDiff, Nat.reduceShiftRight, Nat.reduceMod, Nat.reduceBEq, reduceCtorEq, reduceIte, reduceDIte, Int.reduceNeg]
          rw [hst]
          try (first | rfl | exact ⟨rfl, rfl⟩ | (and_intros <;> first | trivial | rfl | omega))
        · have hq : ¬ (p.2.2.length : Int) > 1 := by assumption
          rw [if_neg (by omega), List.append_nil] at hst
          refine fin_lp ⟨i + 1, by omega⟩ ?_ (by dsimp only; omega)
          simp only [go_sem, Prod.eta, Option.isSome_none, Option.isSome_some, Int.toNat_zero, Nat.reduceAdd, Nat.reduceMul, Nat.reduceSub, Nat.reduceEqDiff, Nat.reduceLT, Nat.reduceLeDiff, Nat.reduceShiftRight, Nat.reduceMod, Nat.reduceBEq, reduceCtorEq, reduceIte, reduceDIte, Int.reduceNeg]
          rw [hst]
          try (first | rfl | exact ⟨rfl, rfl⟩ | (and_intros <;> first | trivial | rfl | omega))
      · unfold confV
        rw [List.take_of_length_le (by omega)])
theorem pl_ne3 (x o : Plt) : (¬x.1 = o.1 ∨ ¬x.2.1 = o.2.1 ∨ ¬x.2.2 = o.2.2) = (x ≠ o) := by
  obtain ⟨a, b, c⟩ := x
  obtain ⟨d, e, f⟩ := o
  simp only [ne_eq, Prod.mk.injEq, eq_iff_iff]
  omega
theorem pl_eq3 (x o : Plt) : (x.1 = o.1 ∧ x.2.1 = o.2.1 ∧ x.2.2 = o.2.2) = (x = o) := by
  obtain ⟨a, b, c⟩ := x
  obtain ⟨d, e, f⟩ := o
  simp only [Prod.mk.injEq]
def con25 : Con := { ps := [.d false (.sl (.pair (.int .i64) (.pair (.int .i64) (.int .i64)))), .d false (.sl (.pair (.int .i64) (.pair (.int .i64) (.int .i64))))], rs := [.d false .bool], pre := fun x => True, out := fun (x : List Plt × List Plt × Unit) => (decide (x.1 = x.2.1), ()), nw := id }
theorem c25 : CtrOk Try.prog 25 con25.ctr :=
  con_sound (G := ⟨[], [], [], []⟩) tab_ok EnvOk.nil rfl Try.func25 rfl con25 33571891 (by kernel_rfl) (by decide) (by decide) rfl (by decide) rfl (by
    rintro ⟨(a : List Plt), (b : List Plt), _⟩ hpre hwf X hT hG hk hK
    (simp -implicitDefEqProofs only [go_sem, Prod.eta, Option.isSome_none, Option.isSome_some, Int.toNat_zero, Nat.reduceAdd, Nat.reduceMul, Nat.reduceSub, Nat.reduceEqDiff, Nat.reduceLT, Nat.reduceLeDiff, Nat.reduceShiftRight, Nat.reduceMod, Nat.reduceBEq, reduceCtorEq, reduceIte, reduceDIte, Int.reduceNeg, Bool.not_eq_true', Bool.not_eq_false', Bool.or_eq_true, Bool.or_eq_false_iff, Bool.and_eq_true, Bool.and_eq_false_iff, decide_eq_true_eq, decide_eq_false_iff_not, Classical.not_not, not_or, maxLen, con25, hT, hG, hk, hK, Try.results25] at hwf ⊢); (try simp (disch := decide +kernel) only [drawn, true_and, and_true])
    refine fun _ _ => ⟨fun hne => ?_, fun hq => ?_⟩
    · rw [eq_comm, decide_eq_false_iff_not]; intro q; subst q; exact hne rfl
    · have hq : a.length = b.length := by omega
      refine evk_loop ⟨{ i : Nat // i ≤ a.length ∧ a.take i = b.take i }, 1000, fun q => [(0, .one (.sl (.pair (.int .i64) (.pair (.int .i64) (.int .i64))) a false)), (1, .one (.sl (.pair (.int .i64) (.pair (.int .i64) (.int .i64))) b false)), (5, .one (.int .i64 q.1))], fun q => [], fun q => a.length - q.1⟩ ⟨0, by simp, by simp⟩ ?_ ?_
      · simp only [go_sem, Prod.eta, Option.isSome_none, Option.isSome_some, Int.toNat_zero, Nat.reduceAdd, Nat.reduceMul, Nat.reduceSub, Nat.reduceEqDiff, Nat.reduceLT, Nat.reduceLeDiff, Nat.reduceShiftRight, Nat.reduceMod, Nat.reduceBEq, reduceCtorEq, reduceIte, reduceDIte, Int.reduceNeg]
        try (first | rfl | exact ⟨rfl, rfl⟩)
      · rintro ⟨i, (hi : i ≤ a.length), (he : a.take i = b.take i)⟩
        (simp -implicitDefEqProofs only [go_sem, Prod.eta, Option.isSome_none, Option.isSome_some, Int.toNat_zero, Nat.reduceAdd, Nat.reduceMul, Nat.reduceSub, Nat.reduceEqDiff, Nat.reduceLT, Nat.reduceLeDiff, Nat.reduceShiftRight, Nat.reduceMod, Nat.reduceBEq, reduceCtorEq, reduceIte, reduceDIte, Int.reduceNeg, Bool.not_eq_true', Bool.not_eq_false', Bool.or_eq_true, Bool.or_eq_false_iff, Bool.and_eq_true, Bool.and_eq_false_iff, decide_eq_true_eq, decide_eq_false_iff_not, Classical.not_not, not_or, maxLen, con25, hT, hG, hk, hK, Try.results25]); (try simp (disch := decide +kernel) only [drawn, true_and, and_true])
        refine fun _ => ⟨fun hlt => ?_, fun hge => ?_⟩
        · have hil : i < a.length := by omega
          have hil2 : i < b.length := by omega
          obtain ⟨o, ho⟩ : ∃ o, a[i] = o := ⟨_, rfl⟩
          obtain ⟨u, hu⟩ : ∃ u, b[i] = u := ⟨_, rfl⟩
          have eo : a.getD (i : Int).toNat (0, 0, 0) = o := by rw [← ho]; simp [hil]
          have eu : b.getD (i : Int).toNat (0, 0, 0) = u := by rw [← hu]; simp [hil2]
          rw [eo, eu]
          simp only [pl_ne3, pl_eq3]
          (repeat' (with_reducible (first | refine And.intro ?_ ?_ | intro _))) <;> (try (first | with_reducible (first | done | assumption | omega | contradiction) | decide))
          · have hne : o ≠ u := by assumption
            rw [eq_comm, decide_eq_false_iff_not]
            intro q
            subst q
            exact hne (ho.symm.trans hu)
          · have hne : o = u := by first | assumption | (apply Decidable.byContradiction; assumption)
            refine fin_lp ⟨i + 1, hil, ?_⟩ ?_ (by dsimp only; omega)
            · show a.take (i + 1) = b.take (i + 1)
              rw [List.take_succ_eq_append_getElem hil, List.take_succ_eq_append_getElem hil2, he, ho, hu, hne]
            · simp only [go_sem, Prod.eta, Option.isSome_none, Option.isSome_some, Int.toNat_zero, Nat.reduceAdd, Nat.reduceMul, Nat.reduceSub, Nat.reduceEqDiff, Nat.reduceLT, Nat.reduceLeDiff, Nat.reduceShiftRight, Nat.reduceMod, Nat.reduceBEq, reduceCtorEq, reduceIte, reduceDIte, Int.reduceNeg]
              try (first | rfl | exact ⟨rfl, rfl⟩ | (and_intros <;> first | rfl | omega))
        · rw [eq_comm, decide_eq_true_eq]
          rw [List.take_of_length_le (by omega), List.take_of_length_le (by omega)] at he
          exact he)
def con30 : Con := { ps := [.d false (.sl (.int .i64)), .d false (.int .i64)], rs := [.d false .bool], pre := fun x => True, out := fun (x : List Int × Int × Unit) => (decide (x.2.1 ∈ x.1), ()), nw := id }
theorem c30 : CtrOk Try.prog 30 con30.ctr :=
  con_sound (G := ⟨[], [], [], []⟩) tab_ok EnvOk.nil rfl Try.func30 rfl con30 131635 (by kernel_rfl) (by decide) (by decide) rfl (by decide) rfl (by
    rintro ⟨(l : List Int), (n : Int), _⟩ hpre hwf X hT hG hk hK
    (simp -implicitDefEqProofs only [go_sem, Prod.eta, Option.isSome_none, Option.isSome_some, Int.toNat_zero, Nat.reduceAdd, Nat.reduceMul, Nat.reduceSub, Nat.reduceEqDiff, Nat.reduceLT, Nat.reduceLeDiff, Nat.reduceShiftRight, Nat.reduceMod, Nat.reduceBEq, reduceCtorEq, reduceIte, reduceDIte, Int.reduceNeg, Bool.not_eq_true', Bool.not_eq_false', Bool.or_eq_true, Bool.or_eq_false_iff, Bool.and_eq_true, Bool.and_eq_false_iff, decide_eq_true_eq, decide_eq_false_iff_not, Classical.not_not, not_or, maxLen, con30, hT, hG, hk, hK, Try.results30] at hwf ⊢); (try simp (disch := decide +kernel) only [drawn, true_and, and_true])
    refine evk_loop ⟨{ i : Nat // i ≤ l.length ∧ ¬ n ∈ l.take i }, 1000, fun q => [(0, .one (.sl (.int .i64) l false)), (1, .one (.int .i64 n)), (5, .one (.int .i64 q.1))], fun q => [], fun q => l.length - q.1⟩ ⟨0, by simp, by simp⟩ ?_ ?_
    · simp only [go_sem, Prod.eta, Option.isSome_none, Option.isSome_some, Int.toNat_zero, Nat.reduceAdd, Nat.reduceMul, Nat.reduceSub, Nat.reduceEqDiff, Nat.reduceLT, Nat.reduceLeDiff, Nat.reduceShiftRight, Nat.reduceMod, Nat.reduceBEq, reduceCtorEq, reduceIte, reduceDIte, Int.reduceNeg]
      try (first | rfl | exact ⟨rfl, rfl⟩)
    · rintro ⟨i, (hi : i ≤ l.length), (hn : ¬ n ∈ l.take i)⟩
      (simp -implicitDefEqProofs only [go_sem, Prod.eta, Option.isSome_none, Option.isSome_some, Int.toNat_zero, Nat.reduceAdd, Nat.reduceMul, Nat.reduceSub, Nat.reduceEqDiff, Nat.reduceLT, Nat.reduceLeDiff, Nat.reduceShiftRight, Nat.reduceMod, Nat.reduceBEq, reduceCtorEq, reduceIte, reduceDIte, Int.reduceNeg, Bool.not_eq_true', Bool.not_eq_false', Bool.or_eq_true, Bool.or_eq_false_iff, Bool.and_eq_true, Bool.and_eq_false_iff, decide_eq_true_eq, decide_eq_false_iff_not, Classical.not_not, not_or, maxLen, con30, hT, hG, hk, hK, Try.results30]); (try simp (disch := decide +kernel) only [drawn, true_and, and_true])
      refine fun _ => ⟨fun hlt => ?_, fun hge => ?_⟩
      · have hil : i < l.length := by omega
        have eo : l.getD (i : Int).toNat 0 = l[i] := by simp [hil]
        rw [eo]
        have hts : l.take (i + 1) = l.take i ++ [l[i]] := List.take_succ_eq_append_getElem hil
        (repeat' (with_reducible (first | refine And.intro ?_ ?_ | intro _))) <;> (try (first | with_reducible (first | done | assumption | omega | contradiction) | decide))
        · have e : l[i] = n := by assumption
          rw [eq_comm, decide_eq_true_eq, ← e]
          exact List.getElem_mem hil
        · have e : ¬ l[i] = n := by assumption
          refine fin_lp ⟨i + 1, hil, ?_⟩ ?_ (by dsimp only; omega)
          · show ¬ n ∈ l.take (i + 1)
            rw [hts, List.mem_append]
            rintro (q | q)
            · exact hn q
            · have q : n = l[i] := by simpa using q
              exact e q.symm
          · simp only [go_sem, Prod.eta, Option.isSome_none, Option.isSome_some, Int.toNat_zero, Nat.reduceAdd, Nat.reduceMul, Nat.reduceSub, Nat.reduceEqDiff, Nat.reduceLT, Nat.reduceLeDiff, Nat.reduceShiftRight, Nat.reduceMod, Nat.reduceBEq, reduceCtorEq, reduceIte, reduceDIte, Int.reduceNeg]
            try (first | rfl | exact ⟨rfl, rfl⟩ | (and_intros <;> first | rfl | omega))
      · rw [List.take_of_length_le (by omega)] at hn
        rw [eq_comm, decide_eq_false_iff_not]
        exact hn)
end Go.Proofs.Ythiddcobegnokaa

/- The contracts of Same and of MergePlaces. -/
set_option linter.unusedSimpArgs false
set_option linter.unusedVariables false
set_option maxRecDepth 100000
set_option maxHeartbeats 4000000
namespace Go.Proofs.Ythiddcobegnokaa
open Go.Ev

theorem getD_i {α : Type} {l : List α} {i : Nat} {z o : α} (h : i < l.length) (ho : l[i] = o) : l.getD (i : Int).toNat z = o := by rw [← ho]; simp [h]
instance decPlc : DecidableEq Plc := instDecidableEqProd
def sameP (a b : List Plc) : Bool := decide (a = b)
theorem pc_eq5 (x o : Pce) : (x.1.1 = o.1.1 ∧ x.1.2.1 = o.1.2.1 ∧ x.1.2.2 = o.1.2.2 ∧ x.2.1 = o.2.1 ∧ x.2.2 = o.2.2) = (x = o) := by
  obtain ⟨⟨a, b, c⟩, e, f⟩ := x
  obtain ⟨⟨a', b', c'⟩, e', f'⟩ := o
  simp only [Prod.mk.injEq, eq_iff_iff]
  omega
theorem pc_ne5 (x o : Pce) : (¬x.1.1 = o.1.1 ∨ ¬x.1.2.1 = o.1.2.1 ∨ ¬x.1.2.2 = o.1.2.2 ∨ ¬x.2.1 = o.2.1 ∨ ¬x.2.2 = o.2.2) = (¬ x = o) := by
  obtain ⟨⟨a, b, c⟩, e, f⟩ := x
  obtain ⟨⟨a', b', c'⟩, e', f'⟩ := o
  simp only [Prod.mk.injEq, eq_iff_iff]
  omega
def con22 : Con := { ps := [.d false (.sl (.pair (.pair (.pair (.int .i64) (.pair (.int .i64) (.int .i64))) (.pair (.int .i64) (.int .i64))) (.pair (.int .i64) (.sl (.int .i64))))), .d false (.sl (.pair (.pair (.pair (.int .i64) (.pair (.int .i64) (.int .i64))) (.pair (.int .i64) (.int .i64))) (.pair (.int .i64) (.sl (.int .i64)))))], rs := [.d false .bool], pre := fun x => True, out := fun (x : List Plc × List Plc × Unit) => (sameP x.1 x.2.1, ()), nw := id }
theorem c22 : CtrOk Try.prog 22 con22.ctr :=
  con_sound (G := ⟨[], [], [], []⟩) tab_ok EnvOk.nil rfl Try.func22 rfl con22 9671425075718701145163891 (by kernel_rfl) (by decide) (by decide) rfl (by decide) rfl (by
    rintro ⟨(a : List Plc), (b : List Plc), _⟩ hpre hwf X hT hG hk hK
    (simp -implicitDefEqProofs only [go_sem, Prod.eta, Option.isSome_none, Option.isSome_some, Int.toNat_zero, Nat.reduceAdd, Nat.reduceMul, Nat.reduceSub, Nat.reduceEqDiff, Nat.reduceLT, Nat.reduceLeDiff, Nat.reduceShiftRight, Nat.reduceMod, Nat.reduceBEq, reduceCtorEq, reduceIte, reduceDIte, Int.reduceNeg, Bool.not_eq_true', Bool.not_eq_false', Bool.or_eq_true, Bool.or_eq_false_iff, Bool.and_eq_true, Bool.and_eq_false_iff, decide_eq_true_eq, decide_eq_false_iff_not, Classical.not_not, not_or, maxLen, con22, hT, hG, hk, hK, Try.results22] at hwf ⊢); (try simp (disch := decide +kernel) only [drawn, true_and, and_true])
    refine fun _ _ => ⟨fun hne => ?_, fun hq => ?_⟩
    · unfold sameP; rw [eq_comm, decide_eq_false_iff_not]; intro q; subst q; exact hne rfl
    · have hq : a.length = b.length := by omega
      refine evk_loop ⟨{ i : Nat // i ≤ a.length ∧ a.take i = b.take i }, 1000, fun q => [(0, .one (.sl (.pair (.pair (.pair (.int .i64) (.pair (.int .i64) (.int .i64))) (.pair (.int .i64) (.int .i64))) (.pair (.int .i64) (.sl (.int .i64)))) a false)), (1, .one (.sl (.pair (.pair (.pair (.int .i64) (.pair (.int .i64) (.int .i64))) (.pair (.int .i64) (.int .i64))) (.pair (.int .i64) (.sl (.int .i64)))) b false)), (5, .one (.int .i64 q.1))], fun q => [], fun q => a.length - q.1⟩ ⟨0, by simp, by simp⟩ ?_ ?_
      · simp only [go_sem, Prod.eta, Option.isSome_none, Option.isSome_some, Int.toNat_zero, Nat.reduceAdd, Nat.reduceMul, Nat.reduceSub, Nat.reduceEqDiff, Nat.reduceLT, Nat.reduceLeDiff, Nat.reduceShiftRight, Nat.reduceMod, Nat.reduceBEq, reduceCtorEq, reduceIte, reduceDIte, Int.reduceNeg]
        try (first | rfl | exact ⟨rfl, rfl⟩)
      · rintro ⟨i, (hi : i ≤ a.length), (he : a.take i = b.take i)⟩
        (simp -implicitDefEqProofs only [go_sem, Prod.eta, Option.isSome_none, Option.isSome_some, Int.toNat_zero, Nat.reduceAdd, Nat.reduceMul, Nat.reduceSub, Nat.reduceEqDiff, Nat.reduceLT, Nat.reduceLeDiff, Nat.reduceShiftRight, Nat.reduceMod, Nat.reduceBEq, reduceCtorEq, reduceIte, reduceDIte, Int.reduceNeg, Bool.not_eq_true', Bool.not_eq_false', Bool.or_eq_true, Bool.or_eq_false_iff, Bool.and_eq_true, Bool.and_eq_false_iff, decide_eq_true_eq, decide_eq_false_iff_not, Classical.not_not, not_or, maxLen, con22, hT, hG, hk, hK, Try.results22]); (try simp (disch := decide +kernel) only [drawn, true_and, and_true])
        refine fun _ => ⟨fun hlt => ?_, fun hge => ?_⟩
        · have hil : i < a.length := by omega
          have hil2 : i < b.length := by omega
          obtain ⟨o, ho⟩ : ∃ o, a[i] = o := ⟨_, rfl⟩
          obtain ⟨u, hu⟩ : ∃ u, b[i] = u := ⟨_, rfl⟩
          simp only [getD_i hil ho, getD_i hil2 hu, pc_eq5, pc_ne5]
          (repeat' (with_reducible (first | refine And.intro ?_ ?_ | intro _))) <;> (try (first | with_reducible (first | done | assumption | omega | contradiction) | decide))
          · have hne : (¬ o.1 = u.1 ∨ ¬ o.2.1 = u.2.1) ∨ ¬ (o.2.2.length : Int) = u.2.2.length := by assumption
            unfold sameP
            rw [eq_comm, decide_eq_false_iff_not]
            intro q
            subst q
            have e : o = u := ho.symm.trans hu
            subst e
            simp at hne
          · have hq2 : (o.1 = u.1 ∧ o.2.1 = u.2.1) ∧ (o.2.2.length : Int) = u.2.2.length := by assumption
            refine evk_loop ⟨{ k : Nat // k ≤ o.2.2.length ∧ o.2.2.take k = u.2.2.take k }, 1000, fun q => [(0, .one (.sl (.pair (.pair (.pair (.int .i64) (.pair (.int .i64) (.int .i64))) (.pair (.int .i64) (.int .i64))) (.pair (.int .i64) (.sl (.int .i64)))) a false)), (1, .one (.sl (.pair (.pair (.pair (.int .i64) (.pair (.int .i64) (.int .i64))) (.pair (.int .i64) (.int .i64))) (.pair (.int .i64) (.sl (.int .i64)))) b false)), (5, .one (.int .i64 i)), (6, .one (.int .i64 q.1))], fun q => [], fun q => o.2.2.length - q.1⟩ ⟨0, by simp, by simp⟩ ?_ ?_
            · simp only [go_sem, Prod.eta, Option.isSome_none, Option.isSome_some, Int.toNat_zero, Nat.reduceAdd, Nat.reduceMul, Nat.reduceSub, Nat.reduceEqDiff, Nat.reduceLT, Nat.reduceLeDiff, Nat.reduceShiftRight, Nat.reduceMod, Nat.reduceBEq, reduceCtorEq, reduceIte, reduceDIte, Int.reduceNeg]
              try (first | rfl | exact ⟨rfl, rfl⟩)
            · rintro ⟨k, (hkl : k ≤ o.2.2.length), (hek : o.2.2.take k = u.2.2.take k)⟩
              (simp -implicitDefEqProofs only [go_sem, Prod.eta, Option.isSome_none, Option.isSome_some, Int.toNat_zero, Nat.reduceAdd, Nat.reduceMul, Nat.reduceSub, Nat.reduceEqDiff, Nat.reduceLT, Nat.reduceLeDiff, Nat.reduceShiftRight, Nat.reduceMod, Nat.reduceBEq, reduceCtorEq, reduceIte, reduceDIte, Int.reduceNeg, Bool.not_eq_true', Bool.not_eq_false', Bool.or_eq_true, Bool.or_eq_false_iff, Bool.and_eq_true, Bool.and_eq_false_iff, decide_eq_true_eq, decide_eq_false_iff_not, Classical.not_not, not_or, maxLen, con22, hT, hG, hk, hK, Try.results22]); (try simp (disch := decide +kernel) only [drawn, true_and, and_true])
              simp only [getD_i hil ho, getD_i hil2 hu]
              have hlen : o.2.2.length = u.2.2.length := by omega
              by_cases hlt2 : k < o.2.2.length
              · have hlt3 : k < u.2.2.length := by omega
                obtain ⟨v, hv⟩ : ∃ v, o.2.2[k] = v := ⟨_, rfl⟩
                obtain ⟨w, hw⟩ : ∃ w, u.2.2[k] = w := ⟨_, rfl⟩
                simp only [getD_i hlt2 hv, getD_i hlt3 hw]
                (repeat' (with_reducible (first | refine And.intro ?_ ?_ | intro _))) <;> (try (first | with_reducible (first | done | assumption | omega | contradiction) | decide))
                · have hne : ¬ v = w := by assumption
                  unfold sameP
                  rw [eq_comm, decide_eq_false_iff_not]
                  intro q
                  subst q
                  have e : o = u := ho.symm.trans hu
                  subst e
                  exact hne (hv.symm.trans hw)
                · have hvw : v = w := by first | assumption | (apply Decidable.byContradiction; assumption)
                  refine fin_lp ⟨k + 1, hlt2, ?_⟩ ?_ (by dsimp only; omega)
                  · show o.2.2.take (k + 1) = u.2.2.take (k + 1)
                    rw [List.take_succ_eq_append_getElem hlt2, List.take_succ_eq_append_getElem hlt3, hek, hv, hw, hvw]
                  · simp only [go_sem, Prod.eta, Option.isSome_none, Option.isSome_some, Int.toNat_zero, Nat.reduceAdd, Nat.reduceMul, Nat.reduceSub, Nat.reduceEqDiff, Nat.reduceLT, Nat.reduceLeDiff, Nat.reduceShiftRight, Nat.reduceMod, Nat.reduceBEq, reduceCtorEq, reduceIte, reduceDIte, Int.reduceNeg]
                    try (first | rfl | exact ⟨rfl, rfl⟩ | (and_intros <;> first | rfl | omega))
              · rw [List.take_of_length_le (by omega), List.take_of_length_le (by omega)] at hek
                have hou : o = u := Prod.ext hq2.1.1 (Prod.ext hq2.1.2 hek)
                (repeat' (with_reducible (first | refine And.intro ?_ ?_ | intro _))) <;> (try (first | with_reducible (first | done | assumption | omega | contradiction) | decide))
                refine fin_lp ⟨i + 1, hil, ?_⟩ ?_ (by dsimp only; omega)
                · show a.take (i + 1) = b.take (i + 1)
                  rw [List.take_succ_eq_append_getElem hil, List.take_succ_eq_append_getElem hil2, he, ho, hu, hou]
                · simp only [go_sem, Prod.eta, Option.isSome_none, Option.isSome_some, Int.toNat_zero, Nat.reduceAdd, Nat.reduceMul, Nat.reduceSub, Nat.reduceEqDiff, Nat.reduceLT, Nat.reduceLeDiff, Nat.reduceShiftRight, Nat.reduceMod, Nat.reduceBEq, reduceCtorEq, reduceIte, reduceDIte, Int.reduceNeg]
                  try (first | rfl | exact ⟨rfl, rfl⟩ | (and_intros <;> first | rfl | omega))
        · unfold sameP
          rw [eq_comm, decide_eq_true_eq]
          rw [List.take_of_length_le (by omega), List.take_of_length_le (by omega)] at he
          exact he)
theorem sameP_refl (l : List Plc) : sameP l l = true := by unfold sameP; rw [decide_eq_true_eq]
def con5 : Con := { ps := [.d false (.sl (.pair (.int .i64) (.pair (.int .i64) (.pair (.int .i64) (.pair (.int .i64) (.pair (.int .i64) (.pair (.pair (.int .i64) (.pair (.int .i64) (.int .i64))) (.pair (.int .i64) (.int .i64))))))))), .d false (.sl (.int .i64))], rs := [.d false .bool], pre := fun _ => True, out := fun x => (true, ()), nw := id }
theorem c5 : CtrOk Try.prog 5 con5.ctr :=
  con_sound (G := ⟨[(10, con10.ctr), (17, con17.ctr), (22, con22.ctr), (23, con23.ctr), (24, con24.ctr), (25, con25.ctr), (26, con26.ctr), (27, con27.ctr)], [(11, con11.rctr), (12, con12.rctr), (18, con18.rctr)], [], []⟩) tab_ok (EnvOk.cons c10 has10 (EnvOk.cons c17 has17 (EnvOk.cons c22 has22 (EnvOk.cons c23 has23 (EnvOk.cons c24 has24 (EnvOk.cons c25 has25 (EnvOk.cons c26 has26 (EnvOk.cons c27 has27 (EnvOk.rcons c11 has11 (EnvOk.rcons c12 has12 (EnvOk.rcons c18 has18 EnvOk.nil))))))))))) rfl Try.func5 rfl con5 8796344682867 (by kernel_rfl) (by decide) (by decide) rfl (by decide) rfl (by
    rintro ⟨(raw : List Opn), (l : List Int), _⟩ hpre hwf X hT hG hk hK
    (simp -implicitDefEqProofs only [go_sem, Prod.eta, Option.isSome_none, Option.isSome_some, Int.toNat_zero, Nat.reduceAdd, Nat.reduceMul, Nat.reduceSub, Nat.reduceEqDiff, Nat.reduceLT, Nat.reduceLeDiff, Nat.reduceShiftRight, Nat.reduceMod, Nat.reduceBEq, reduceCtorEq, reduceIte, reduceDIte, Int.reduceNeg, Bool.not_eq_true', Bool.not_eq_false', Bool.or_eq_true, Bool.or_eq_false_iff, Bool.and_eq_true, Bool.and_eq_false_iff, decide_eq_true_eq, decide_eq_false_iff_not, Classical.not_not, not_or, maxLen, con5, con10, con17, con22, con23, con24, con25, con26, con27, con11, con12, con18, hT, hG, hk, hK, Try.results5] at hwf ⊢); (try simp (disch := decide +kernel) only [drawn, true_and, and_true])
    refine fun _ _ _ => ⟨⟨by omega, by omega, by omega, by omega, by omega⟩, ?_⟩
    rintro ⟨⟨(good : List Opn), u1⟩, ⟨⟨(s1 : List Int), (a1 : Int)⟩, z1⟩⟩ ⟨⟨(g1 : 0 ≤ a1), (g2 : OpsR 4 good)⟩, _⟩
    have g3 := g2.len
    refine ⟨⟨g1, (show good.length ≤ 1000 by omega)⟩, ?_⟩
    rintro ⟨⟨(sp1 : List Opn), u2⟩, ⟨⟨(s2 : List Int), (a2 : Int)⟩, z2⟩⟩ ⟨⟨(g4 : 0 ≤ a2), _⟩, _⟩
    refine ⟨⟨g4, (show good.length ≤ 1000 by omega)⟩, ?_⟩
    rintro ⟨⟨(sp2 : List Opn), u3⟩, ⟨⟨(s3 : List Int), (a3 : Int)⟩, z3⟩⟩ ⟨⟨(g5 : 0 ≤ a3), _⟩, _⟩
    intro _
    refine evk_loop ⟨{ i : Nat // i ≤ 4 }, 1000, fun q => [(24, .one (.row 64)), (25, .one (.int .i64 4)), (26, .one (.int .i64 q.1))], fun q => [(64, .row 22 (.sl (.pair (.int .i64) (.pair (.int .i64) (.pair (.int .i64) (.pair (.int .i64) (.pair (.int .i64) (.pair (.pair (.int .i64) (.pair (.int .i64) (.int .i64))) (.pair (.int .i64) (.int .i64))))))))) [raw, good, sp1, sp2])], fun q => 4 - q.1⟩ ⟨0, by omega⟩ ?_ ?_
    · simp only [go_sem, Prod.eta, Option.isSome_none, Option.isSome_some, Int.toNat_zero, Nat.reduceAdd, Nat.reduceMul, Nat.reduceSub, Nat.reduceEqDiff, Nat.reduceLT, Nat.reduceLeDiff, Nat.reduceShiftRight, Nat.reduceMod, Nat.reduceBEq, reduceCtorEq, reduceIte, reduceDIte, Int.reduceNeg]
      try (first | rfl | exact ⟨rfl, rfl⟩)
    · rintro ⟨i, (hi : i ≤ 4)⟩
      (simp -implicitDefEqProofs only [go_sem, Prod.eta, Option.isSome_none, Option.isSome_some, Int.toNat_zero, Nat.reduceAdd, Nat.reduceMul, Nat.reduceSub, Nat.reduceEqDiff, Nat.reduceLT, Nat.reduceLeDiff, Nat.reduceShiftRight, Nat.reduceMod, Nat.reduceBEq, reduceCtorEq, reduceIte, reduceDIte, Int.reduceNeg, Bool.not_eq_true', Bool.not_eq_false', Bool.or_eq_true, Bool.or_eq_false_iff, Bool.and_eq_true, Bool.and_eq_false_iff, decide_eq_true_eq, decide_eq_false_iff_not, Classical.not_not, not_or, maxLen, con5, con10, con17, con22, con23, con24, con25, con26, con27, con11, con12, con18, hT, hG, hk, hK, Try.results5]); (try simp (disch := decide +kernel) only [drawn, true_and, and_true])
      obtain ⟨x, hx⟩ : ∃ x, [raw, good, sp1, sp2].getD (i : Int).toNat [] = x := ⟨_, rfl⟩
      simp only [hx, sameP_refl]
      (repeat' (with_reducible (first | refine And.intro ?_ ?_ | intro _))) <;> (try (first | with_reducible (first | done | assumption | omega | contradiction) | decide))
      refine fin_lp ⟨i + 1, by omega⟩ ?_ (by dsimp only; omega)
      simp only [go_sem, Prod.eta, Option.isSome_none, Option.isSome_some, Int.toNat_zero, Nat.reduceAdd, Nat.reduceMul, Nat.reduceSub, Nat.reduceEqDiff, Nat.reduceLT, Nat.reduceLeDiff, Nat.reduceShiftRight, Nat.reduceMod, Nat.reduceBEq, reduceCtorEq, reduceIte, reduceDIte, Int.reduceNeg]
      try (first | rfl | exact ⟨rfl, rfl⟩ | (and_intros <;> first | rfl | omega)))
end Go.Proofs.Ythiddcobegnokaa

/- The rows: what the arguments read as; a law's contract gives its row. -/
set_option linter.unusedSimpArgs false
set_option linter.unusedVariables false
namespace Go.Ev
open Go.RowKit Go.WideShapes Go.ChangeShapes

/-- A type of the program is a type of plain data. -/
def tyB (P : Program) : Nat → TypeId → Ty → Bool
  | 0, _, _ => false
  | d + 1, t, u => decide (P.cellsOf t = u.n) && decide (0 < u.n) && (match P.underlying t with
    | some (.struct fs) => tyFs (tyB P d) fs.toList 0 u
    | some (.int k) => (match u with | .int k' => decide (k = k') | _ => false)
    | some .bool => (match u with | .bool => true | _ => false)
    | some .string => (match u with | .str => true | _ => false)
    | some (.slice e) => (match u with | .sl v => tyB P d e v | _ => false)
    | _ => false)
where tyFs (f : TypeId → Ty → Bool) : List Field → Nat → Ty → Bool
  | [], _, _ => false
  | [x], off, u => decide (x.offset = off) && f x.type u
  | x :: y :: xs, off, .pair a b => decide (x.offset = off) && f x.type a && tyFs f (y :: xs) (off + a.n) b
  | _, _, _ => false

/-- The size of data. -/
def sz : (t : Ty) → t.den → Nat
  | .int _, _ => 1
  | .bool, _ => 1
  | .str, s => s.size + 1
  | .unit, _ => 0
  | .sl t, xs => (xs.map (sz t)).sum + 1
  | .pair a b, p => sz a p.1 + sz b p.2

structure Bulk {H : Type} (B : DataW H → Nat) (BA : List (DataW H) → Nat) : Prop where
  lit : ∀ l, 1 ≤ B (.lit l)
  str : ∀ b, b.length + 1 ≤ B (.lit (.string b))
  nil : 1 ≤ B .nil
  sl : ∀ a b, BA a + 1 ≤ B (.slice a b)
  agg : ∀ a, BA a ≤ B (.agg a)
  cons : ∀ d r, BA (d :: r) = B d + BA r

section
variable {H : Type} {enc : TypeId × Value → H} {P : Program} {w : World} {B : DataW H → Nat} {BA : List (DataW H) → Nat}

theorem mapM_at {α β : Type} {f : α → Option β} : ∀ {l : List α} {r : List β}, l.mapM f = some r → r.length = l.length ∧ ∀ (i : Nat) (x : α) (y : β), l[i]? = some x → r[i]? = some y → f x = some y
  | [], r, h => by simp at h; subst h; exact ⟨rfl, fun i x y h => by simp at h⟩
  | a :: l, r, h => by
    rw [List.mapM_cons] at h
    cases hf : f a with
    | none => rw [hf] at h; cases h
    | some b =>
      rw [hf] at h
      cases hl : l.mapM f with
      | none => simp only [hl] at h; cases h
      | some bs =>
        simp only [hl] at h
        cases h
        obtain ⟨h1, h2⟩ := mapM_at hl
        refine ⟨by simp [h1], fun i x y hx hy => ?_⟩
        cases i with
        | zero => simp at hx hy; subst hx; subst hy; exact hf
        | succ i => simp at hx hy; exact h2 i x y hx hy

theorem cells?_spec {a : Addr} {n : Nat} {cs : List Value} (h : w.cells? 0 a n = some cs) : cs.length = n ∧ ∀ j u, cs[j]? = some u → w.cell? (a.add j) = some u := by
  unfold World.cells? at h
  rw [if_pos (Nat.zero_le _)] at h
  obtain ⟨h1, h2⟩ := mapM_at h
  refine ⟨by simpa using h1, fun j u hu => ?_⟩
  have hj : j < cs.length := (List.getElem?_eq_some_iff.1 hu).1
  have hjn : j < n := by simp at h1; omega
  exact h2 j j u (by simp [hjn]) hu

theorem sum_le {B : DataW H → Nat} {BA : List (DataW H) → Nat} (hB : Bulk B BA) {t : Ty} : ∀ (ys : List t.den) (ds : List (DataW H)), ys.length = ds.length → (∀ (i : Nat) (y : t.den) (d : DataW H), ys[i]? = some y → ds[i]? = some d → sz t y ≤ B d) → (ys.map (sz t)).sum ≤ BA ds
  | [], ds, _, _ => by simp
  | y :: ys, [], h, _ => by simp at h
  | y :: ys, d :: ds, h, hs => by
    have h0 := hs 0 y d rfl rfl
    have := sum_le hB ys ds (by simpa using h) (fun i y d hy hd => hs (i + 1) y d (by simpa using hy) (by simpa using hd))
    simp only [List.map_cons, List.sum_cons, hB.cons]
    omega

theorem roAll_mk {α : Type} {r : α → List Value → Prop} : ∀ (ys : List α) (cs : List (List Value)), ys.length = cs.length → (∀ (i : Nat) (y : α) (c : List Value), ys[i]? = some y → cs[i]? = some c → r y c) → roAll r ys cs.flatten
  | [], [], _, _ => rfl
  | [], _ :: _, h, _ => by simp at h
  | _ :: _, [], h, _ => by simp at h
  | y :: ys, c :: cs, h, hr => ⟨c, cs.flatten, by simp, hr 0 y c rfl rfl, roAll_mk ys cs (by simpa using h) (fun i z d hz hd => hr (i + 1) z d (by simpa using hz) (by simpa using hd))⟩

theorem pickQ {α : Type} {Q : Nat → α → Prop} : ∀ (n : Nat), (∀ i, i < n → ∃ y, Q i y) → ∃ ys : List α, ys.length = n ∧ ∀ (i : Nat) (y : α), ys[i]? = some y → Q i y
  | 0, _ => ⟨[], rfl, fun i y h => by simp at h⟩
  | n + 1, h => by
    obtain ⟨ys, h1, h2⟩ := pickQ n (fun i hi => h i (by omega))
    obtain ⟨y, hy⟩ := h n (by omega)
    refine ⟨ys ++ [y], by simp [h1], fun i z hz => ?_⟩
    by_cases e : i < n
    · rw [List.getElem?_append_left (by omega)] at hz; exact h2 i z hz
    · have hlt := (List.getElem?_eq_some_iff.1 hz).1
      have : i = n := by simp at hlt; omega
      subst this
      rw [List.getElem?_append_right (by omega), h1] at hz
      simp at hz; subst hz; exact hy

theorem pick_rows {α : Type} (f : Nat → Option α) : ∀ (n : Nat), (∀ i, i < n → ∃ y, f i = some y) → ∃ ys : List α, ys.length = n ∧ ∀ i, i < n → f i = ys[i]?
  | 0, _ => ⟨[], rfl, fun i hi => by omega⟩
  | n + 1, h => by
    obtain ⟨ys, h1, h2⟩ := pick_rows f n (fun i hi => h i (by omega))
    obtain ⟨y, hy⟩ := h n (by omega)
    refine ⟨ys ++ [y], by simp [h1], fun i hi => ?_⟩
    by_cases e : i = n
    · subst e; rw [hy, List.getElem?_append_right (by omega), h1]; simp
    · rw [h2 i (by omega), List.getElem?_append_left (by omega)]

theorem flatten_at {n : Nat} : ∀ (cs : List (List Value)), (∀ c ∈ cs, c.length = n) → ∀ (j : Nat) (u : Value), cs.flatten[j]? = some u → ∃ i q c, cs[i]? = some c ∧ c[q]? = some u ∧ j = i * n + q
  | [], _, j, u, h => by simp at h
  | c :: cs, hl, j, u, h => by
    rw [List.flatten_cons] at h
    by_cases hj : j < c.length
    · rw [List.getElem?_append_left hj] at h
      exact ⟨0, j, c, rfl, h, by omega⟩
    · rw [List.getElem?_append_right (by omega)] at h
      obtain ⟨i, q, d, h1, h2, h3⟩ := flatten_at cs (fun d hd => hl d (by simp [hd])) _ u h
      have := hl c (by simp)
      exact ⟨i + 1, q, d, by simpa using h1, h2, by rw [Nat.add_mul]; omega⟩

theorem add_add (a : Addr) (i j : Nat) (h : a.spot = none) : (a.add i).add j = a.add (i + j) := by
  obtain ⟨b, o, s⟩ := a
  simp only at h
  subst h
  simp [add_none, Nat.add_assoc]

/-- DATA THAT CAN BE READ. -/
theorem trod_ro (hB : Bulk B BA) : ∀ (fuel d : Nat) (t : TypeId) (u : Ty) (cs : List Value) (x : DataW H × List MemPlace), tyB P d t u = true → DataW.trod enc P w 0 (fun _ => true) true fuel t cs = some x → ∃ y : u.den, ro w (fun _ => False) u y cs ∧ sz u y ≤ B x.1
  | 0, d, t, u, cs, x, _, h => by simp [DataW.trod] at h
  | fuel + 1, 0, t, u, cs, x, ht, h => by cases ht
  | fuel + 1, d + 1, t, u, cs, x, ht, h => by
    simp only [tyB, Bool.and_eq_true, decide_eq_true_eq] at ht
    obtain ⟨⟨hn, hpos⟩, ht⟩ := ht
    cases hu : P.underlying t with
    | none => rw [hu] at ht; cases ht
    | some de =>
      rw [hu] at ht
      cases de <;> simp only at ht <;> try (cases ht; done)
      case bool =>
        cases u <;> simp only at ht <;> try (cases ht; done)
        obtain ⟨b, rfl, rfl⟩ := DataW.trod_bool hu h
        exact ⟨b, rfl, hB.lit _⟩
      case string =>
        cases u <;> simp only at ht <;> try (cases ht; done)
        obtain ⟨s, rfl, rfl, hs⟩ := DataW.trod_string hu h
        exact ⟨s, ⟨rfl, hs⟩, by have := hB.str s.data.toList; simpa [sz] using this⟩
      case int k =>
        cases u <;> simp only at ht <;> try (cases ht; done)
        simp only [decide_eq_true_eq] at ht
        subst ht
        obtain ⟨n, rfl, rfl, hs⟩ := DataW.trod_int hu h
        refine ⟨n, ⟨rfl, ?_⟩, hB.lit _⟩
        simpa [Lit.wf, InR] using hs
      case slice e =>
        cases u <;> simp only at ht <;> try (cases ht; done)
        rename_i v
        have hcell : P.cellsOf e = v.n ∧ 0 < v.n := by
          cases d with
          | zero => cases ht
          | succ d => simp only [tyB, Bool.and_eq_true, decide_eq_true_eq] at ht; exact ht.1
        rcases DataW.trod_slice hu h with ⟨rfl, rfl⟩ | ⟨a, len, cap, elems, rest, n, e1, rfl, rfl, _, hlc, hcm, hel, helem, hsp, _⟩
        · exact ⟨[], ⟨none, 0, 0, rfl, rfl, Nat.le_refl _, by simp [maxLen], .inl rfl⟩, by simpa [sz] using hB.nil⟩
        · cases e1
          obtain ⟨hrl, hrest⟩ := hsp rfl
          have hspot : 0 < cap → a.spot = none := by
            intro hc
            have key : ∀ i y, (w.cells? 0 (a.add (i * P.cellsOf e)) (P.cellsOf e)).bind (DataW.trod enc P w 0 (fun _ => true) true fuel e) = some y → i = 0 → a.spot = none := by
              rintro i y hy rfl
              rw [Nat.zero_mul] at hy
              cases hcs : w.cells? 0 (a.add 0) (P.cellsOf e) with
              | none => rw [hcs] at hy; cases hy
              | some c0 =>
                obtain ⟨g1, g2⟩ := cells?_spec hcs
                have hp : 0 < c0.length := by omega
                have g3 := g2 0 c0[0] (by simp [hp])
                simp only [Addr.add, if_true] at g3
                unfold World.cell? at g3
                split at g3
                · split at g3
                  · cases g3
                  · rename_i hs; simpa using hs
                · cases g3
            by_cases hl : 0 < len
            · have := helem 0 hl
              rw [List.getElem?_eq_getElem (by omega)] at this
              exact key 0 _ this rfl
            · have := hrest 0 (by omega)
              rw [List.getElem?_eq_getElem (by omega)] at this
              exact key _ _ this (by omega)
          -- the elements
          have hex : ∀ i, i < len → ∃ c, w.cells? 0 (a.add (i * P.cellsOf e)) (P.cellsOf e) = some c := fun i hi => by
            have := helem i hi
            rw [List.getElem?_eq_getElem (by omega)] at this
            cases hc : w.cells? 0 (a.add (i * P.cellsOf e)) (P.cellsOf e) with
            | none => rw [hc] at this; cases this
            | some c => exact ⟨c, rfl⟩
          obtain ⟨css, hcl, hcs⟩ := pick_rows _ len hex
          have hrow : ∀ (i : Nat) (c : List Value), css[i]? = some c → ∃ y : v.den, ro w (fun _ => False) v y c ∧ ∃ q, elems[i]? = some q ∧ sz v y ≤ B q.1 := by
            intro i c hc
            have hi : i < len := by have := (List.getElem?_eq_some_iff.1 hc).1; omega
            have h1 := helem i hi
            rw [hcs i hi, hc] at h1
            simp only [Option.bind_some] at h1
            rw [List.getElem?_eq_getElem (by omega)] at h1
            obtain ⟨y, g1, g2⟩ := trod_ro hB fuel d e v c _ ht h1
            exact ⟨y, g1, _, List.getElem?_eq_getElem (by omega), g2⟩
          obtain ⟨ys, hyl, hyat⟩ := pickQ (Q := fun i (y : v.den) => ∀ c, css[i]? = some c → ro w (fun _ => False) v y c ∧ ∃ q, elems[i]? = some q ∧ sz v y ≤ B q.1) len (fun i hi => by
            obtain ⟨y, g⟩ := hrow i css[i] (List.getElem?_eq_getElem (by omega))
            exact ⟨y, fun c hc => by
              have : css[i] = c := by rw [List.getElem?_eq_getElem (by omega)] at hc; exact Option.some.inj hc
              rw [← this]; exact g⟩)
          have hro : roAll (ro w (fun _ => False) v) ys css.flatten := roAll_mk ys css (by omega) (fun i y c hy hc => (hyat i y hy c hc).1)
          refine ⟨ys, ⟨some a, len, cap, rfl, hyl.symm, hlc, hcm, ?_⟩, ?_⟩
          · by_cases hc0 : cap = 0
            · exact .inl hc0
            · have hs := hspot (by omega)
              refine .inr ⟨a.block, a.off, css.flatten, by obtain ⟨b, o, s⟩ := a; simp only at hs; subst hs; rfl, hro, fun j q hq => ⟨fun h => h, ?_⟩⟩
              obtain ⟨i, r, c, g1, g2, g3⟩ := flatten_at (n := v.n) css (fun c hc => by
                obtain ⟨i, hi, rfl⟩ := List.mem_iff_getElem.1 hc
                have := hcs i (by omega)
                rw [List.getElem?_eq_getElem hi] at this
                rw [(cells?_spec this).1]; exact hcell.1) j q hq
              have hi : i < len := by have := (List.getElem?_eq_some_iff.1 g1).1; omega
              have := hcs i hi
              rw [g1] at this
              have := (cells?_spec this).2 r q g2
              rw [add_add _ _ _ hs] at this
              obtain ⟨b, o, s⟩ := a
              simp only at hs; subst hs
              rw [add_none] at this
              rw [g3, ← hcell.1]
              exact this
          · have := sum_le hB ys (elems.map (·.1)) (by simp; omega) (fun i y q hy hq => by
              have hi : i < len := by have := (List.getElem?_eq_some_iff.1 hy).1; omega
              obtain ⟨_, z, g1, g2⟩ := hyat i y hy css[i] (List.getElem?_eq_getElem (by omega))
              rw [List.getElem?_map, g1] at hq
              simp at hq; subst hq; exact g2)
            have h2 := hB.sl (elems.map (·.1)) (rest.map (·.1))
            simp only [sz]
            omega
      case struct fs =>
        obtain ⟨xs, n, e1, rfl, hcl, hxl, hf⟩ := DataW.trod_struct hu h
        cases e1
        -- field by field
        have key : ∀ (fl : List Field) (off : Nat) (u : Ty) (i : Nat), tyB.tyFs (tyB P d) fl off u = true → (∀ (j : Nat) (f : Field), fl[j]? = some f → fs[i + j]? = some f) → i + fl.length = fs.size → off + u.n ≤ cs.length →
            ∃ y : u.den, ro w (fun _ => False) u y ((cs.drop off).take u.n) ∧ sz u y ≤ BA ((xs.drop i).map (·.1)) := by
          intro fl
          induction fl with
          | nil => intro off u i h _ _ _; cases h
          | cons f fl ih =>
            intro off u i hfl hat hlen hoff
            have h0 := hat 0 f rfl
            have hf0 := hf i f (by simpa using h0)
            have hi : i < xs.length := by simp at hlen; omega
            have hdrop : xs.drop i = xs[i] :: xs.drop (i + 1) := List.drop_eq_getElem_cons hi
            have hlast : ∀ u, f.offset = off → tyB P d f.type u = true → ∃ y : u.den, ro w (fun _ => False) u y ((cs.drop off).take u.n) ∧ sz u y ≤ B xs[i].1 := by
              intro u e1 e2
              rw [List.getElem?_eq_getElem hi, e1] at hf0
              have hc : P.cellsOf f.type = u.n := by
                cases d with
                | zero => cases e2
                | succ d => simp only [tyB, Bool.and_eq_true, decide_eq_true_eq] at e2; exact e2.1.1
              rw [hc] at hf0
              exact trod_ro hB fuel d f.type u _ _ e2 hf0
            match fl, hfl with
            | [], hfl =>
              simp only [tyB.tyFs, Bool.and_eq_true, decide_eq_true_eq] at hfl
              obtain ⟨y, g1, g2⟩ := hlast u hfl.1 hfl.2
              refine ⟨y, g1, ?_⟩
              rw [hdrop, List.map_cons, hB.cons]; omega
            | f2 :: fl, hfl =>
              cases u <;> simp only [tyB.tyFs] at hfl <;> try (cases hfl; done)
              rename_i a b _
              simp only [Bool.and_eq_true, decide_eq_true_eq] at hfl
              obtain ⟨y, g1, g2⟩ := hlast a hfl.1.1 hfl.1.2
              simp only [Ty.n] at hoff
              obtain ⟨z, k1, k2⟩ := ih (off + a.n) b (i + 1) hfl.2 (fun j g hg => by have := hat (j + 1) g (by simpa using hg); rwa [show i + (j + 1) = i + 1 + j by omega] at this) (by simp at hlen ⊢; omega) (by omega)
              refine ⟨(y, z), ⟨_, _, ?_, g1, k1⟩, ?_⟩
              · simp only [Ty.n]
                rw [← List.drop_drop, ← List.take_add]
              · rw [hdrop, List.map_cons, hB.cons]
                simp only [sz]; omega
        obtain ⟨y, g1, g2⟩ := key fs.toList 0 u 0 ht (fun j f hj => by simpa using hj) (by simp) (by omega)
        refine ⟨y, ?_, ?_⟩
        · rw [List.drop_zero, List.take_of_length_le (by omega)] at g1; exact g1
        · rw [List.drop_zero] at g2
          exact Nat.le_trans g2 (hB.agg _)

end
end Go.Ev
