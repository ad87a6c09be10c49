/- The contracts of merge.Places, merge.Conflicts. -/
import Derived.Test.YthiddcobegnokaaMgHToI
set_option linter.unusedSimpArgs false
set_option linter.unusedVariables false
set_option maxRecDepth 100000
set_option maxHeartbeats 4000000
namespace Go.Proofs.Ythiddcobegnokaa
open Go.Ev

def aboutP (l : List Opn) (p : Plt) : List Opn := l.filter (fun o => decide (o.plate = p))
def placesV (l : List Opn) : List Plc := if valV l ≠ 0 then [] else (sortBy pltC (abK l)).map (fun p => placeV (aboutP l p))
theorem mget_zip (k : Plt) : ∀ (ks : List Plt) (vs : List (List Opn)), ks.length = vs.length → k ∈ ks → mget (kt := (.pair (.int .i64) (.pair (.int .i64) (.int .i64)))) (ks.zip vs) k = some (vs.getD (kidx (kt := (.pair (.int .i64) (.pair (.int .i64) (.int .i64)))) k ks) [])
  | [], _, _, h => by cases h
  | a :: ks, [], h, _ => by simp at h
  | a :: ks, v :: vs, h, hm => by
    simp only [List.zip_cons_cons, mget, kidx]
    by_cases e : k = a
    · rw [if_pos (by rw [pl_eq]; simpa using e), if_pos (by rw [pl_eq]; simpa using e)]; rfl
    · rw [if_neg (by rw [pl_eq]; simpa using e), if_neg (by rw [pl_eq]; simpa using e)]
      rw [mget_zip k ks vs (by simpa using h) ((List.mem_cons.1 hm).resolve_left e)]
      rfl
theorem about_get {l : List Opn} {p : Plt} (h : p ∈ sortBy pltC (abK l)) : mget (kt := (.pair (.int .i64) (.pair (.int .i64) (.int .i64)))) ((abK l).zip (abG l)) p = some (aboutP l p) := by
  have hm := (sortBy_perm pltC (abK l)).mem_iff.1 h
  rw [mget_zip p _ _ (abG_len l).symm hm, abG_at hm]
  rfl
theorem about_ne {l : List Opn} {p : Plt} (h : p ∈ sortBy pltC (abK l)) : aboutP l p ≠ [] := by
  have hm := (sortBy_perm pltC (abK l)).mem_iff.1 h
  obtain ⟨o, ho, e⟩ := (abK_mem p l).1 hm
  exact List.ne_nil_of_mem (List.mem_filter.2 ⟨ho, by simpa using e⟩)
theorem about_len (l : List Opn) (p : Plt) : (aboutP l p).length ≤ l.length := List.length_filter_le _ _
theorem sortBy_len (l : List Opn) : (sortBy pltC (abK l)).length ≤ l.length := by rw [(sortBy_perm _ _).length_eq]; exact abK_len l
def con23 : Con := { ps := [.d false (.sl (.pair (.int .i64) (.pair (.int .i64) (.pair (.int .i64) (.pair (.int .i64) (.pair (.int .i64) (.pair (.pair (.int .i64) (.pair (.int .i64) (.int .i64))) (.pair (.int .i64) (.int .i64)))))))))], rs := [.d false (.sl (.pair (.pair (.pair (.int .i64) (.pair (.int .i64) (.int .i64))) (.pair (.int .i64) (.int .i64))) (.pair (.int .i64) (.sl (.int .i64)))))], pre := fun _ => True, out := fun (x : List Opn × Unit) => (placesV x.1, ()), nw := id }
theorem c23 : CtrOk Try.prog 23 con23.ctr :=
  con_sound (G := ⟨[(13, con13.ctr), (46, con46.ctr), (47, con47.ctr)], [], [], []⟩) tab_ok (EnvOk.cons c13 has13 (EnvOk.cons c46 has46 (EnvOk.cons c47 has47 EnvOk.nil))) rfl Try.func23 rfl con23 984253 (by kernel_rfl) (by decide) (by decide) rfl (by decide) rfl (by
    rintro ⟨(l : List Opn), _⟩ hpre hwf X hT hG hk hK
    (simp -implicitDefEqProofs only [go_sem, Prod.eta, Option.isSome_none, Option.isSome_some, Int.toNat_zero, Nat.reduceAdd, Nat.reduceMul, Nat.reduceSub, Nat.reduceEqDiff, Nat.reduceLT, Nat.reduceLeDiff, Nat.reduceShiftRight, Nat.reduceMod, Nat.reduceBEq, reduceCtorEq, reduceIte, reduceDIte, Int.reduceNeg, Bool.not_eq_true', Bool.not_eq_false', Bool.or_eq_true, Bool.or_eq_false_iff, Bool.and_eq_true, Bool.and_eq_false_iff, decide_eq_true_eq, decide_eq_false_iff_not, Classical.not_not, not_or, maxLen, con23, con13, con46, con47, hT, hG, hk, hK, Try.results23] at hwf ⊢); (try simp (disch := decide +kernel) only [drawn, true_and, and_true])
    refine fun _ => ⟨fun h => ?_, fun h => ?_⟩
    · unfold placesV; rw [if_pos h]
    · obtain ⟨hl, _⟩ := valV_zero h
      have hsl := sortBy_len l
      refine ⟨by omega, fun _ _ => ?_⟩
      refine evk_loop ⟨{ i : Nat // i ≤ (sortBy pltC (abK l)).length }, 1000, fun i => [(3, .one (.map 70)), (5, .one (.row 71)), (16, .one (.sl (.pair (.int .i64) (.pair (.int .i64) (.int .i64))) (sortBy pltC (abK l)) false)), (17, .one (.int .i64 (sortBy pltC (abK l)).length)), (18, .one (.int .i64 i.1))], fun i => [(70, .mapb (.pair (.int .i64) (.pair (.int .i64) (.int .i64))) (.sl (.pair (.int .i64) (.pair (.int .i64) (.pair (.int .i64) (.pair (.int .i64) (.pair (.int .i64) (.pair (.pair (.int .i64) (.pair (.int .i64) (.int .i64))) (.pair (.int .i64) (.int .i64))))))))) true false ((abK l).zip (abG l))), (71, .row 55 (.pair (.pair (.pair (.int .i64) (.pair (.int .i64) (.int .i64))) (.pair (.int .i64) (.int .i64))) (.pair (.int .i64) (.sl (.int .i64)))) (((sortBy pltC (abK l)).take i.1).map (fun p => placeV (aboutP l p))))], fun i => (sortBy pltC (abK l)).length - i.1⟩ ⟨0, by omega⟩ ?_ ?_
      · simp only [go_sem, Prod.eta, Option.isSome_none, Option.isSome_some, Int.toNat_zero, Nat.reduceAdd, Nat.reduceMul, Nat.reduceSub, Nat.reduceEqDiff, Nat.reduceLT, Nat.reduceLeDiff, Nat.reduceShiftRight, Nat.reduceMod, Nat.reduceBEq, reduceCtorEq, reduceIte, reduceDIte, Int.reduceNeg]
        try (first | rfl | exact ⟨rfl, rfl⟩)
      · rintro ⟨i, (hi : i ≤ (sortBy pltC (abK l)).length)⟩
        (simp -implicitDefEqProofs only [go_sem, Prod.eta, Option.isSome_none, Option.isSome_some, Int.toNat_zero, Nat.reduceAdd, Nat.reduceMul, Nat.reduceSub, Nat.reduceEqDiff, Nat.reduceLT, Nat.reduceLeDiff, Nat.reduceShiftRight, Nat.reduceMod, Nat.reduceBEq, reduceCtorEq, reduceIte, reduceDIte, Int.reduceNeg, Bool.not_eq_true', Bool.not_eq_false', Bool.or_eq_true, Bool.or_eq_false_iff, Bool.and_eq_true, Bool.and_eq_false_iff, decide_eq_true_eq, decide_eq_false_iff_not, Classical.not_not, not_or, maxLen, con23, con13, con46, con47, hT, hG, hk, hK, Try.results23]); (try simp (disch := decide +kernel) only [drawn, true_and, and_true])
        refine ⟨fun hlt => ?_, fun hge => ?_⟩
        · have hil : i < (sortBy pltC (abK l)).length := by omega
          obtain ⟨p, hp⟩ : ∃ p, (sortBy pltC (abK l))[i] = p := ⟨_, rfl⟩
          have ep : (sortBy pltC (abK l)).getD (i : Int).toNat (0, 0, 0) = p := by rw [← hp]; simp [hil]
          have hpm : p ∈ sortBy pltC (abK l) := hp ▸ List.getElem_mem hil
          have hlen := about_len l p
          rw [ep]
          have eg : ((mget (kt := (.pair (.int .i64) (.pair (.int .i64) (.int .i64)))) ((abK l).zip (abG l)) (p.1, p.2.1, p.2.2)).getD []) = aboutP l p := by
            rw [show (p.1, p.2.1, p.2.2) = p from rfl, about_get hpm]; rfl
          rw [eg]
          have hst : ((sortBy pltC (abK l)).take (i + 1)).map (fun p => placeV (aboutP l p)) = ((sortBy pltC (abK l)).take i).map (fun p => placeV (aboutP l p)) ++ [placeV (aboutP l p)] := by
            rw [List.take_succ_eq_append_getElem hil, List.map_append, hp]; rfl
          have hml : (((sortBy pltC (abK l)).take i).map (fun p => placeV (aboutP l p))).length ≤ 360 := by simp; omega
          (repeat' (with_reducible (first | refine And.intro ?_ ?_ | intro _))) <;> (try (first | with_reducible (first | done | assumption | omega | contradiction) | decide))
          · exact about_ne hpm
          · refine fin_lp ⟨i + 1, by omega⟩ ?_ (by dsimp only; omega)
            simp only [go_sem, Prod.eta, Option.isSome_none, Option.isSome_some, Int.toNat_zero, Nat.reduceAdd, Nat.reduceMul, Nat.reduceSub, Nat.reduceEqDiff, Nat.reduceLT, Nat.reduceLeDiff, Nat.reduceShiftRight, Nat.reduceMod, Nat.reduceBEq, reduceCtorEq, reduceIte, reduceDIte, Int.reduceNeg]
            rw [hst]
            try (first | rfl | exact ⟨rfl, rfl⟩ | (and_intros <;> first | rfl | omega))
        · unfold placesV
          rw [if_neg (by simp [h]), List.take_of_length_le (by omega)])
def confV (l : List Opn) : List Plt := ((placesV l).filter (fun x => decide (1 < x.2.2.length))).map (fun x => x.1.1)
def con26 : Con := { ps := [.d false (.sl (.pair (.int .i64) (.pair (.int .i64) (.pair (.int .i64) (.pair (.int .i64) (.pair (.int .i64) (.pair (.pair (.int .i64) (.pair (.int .i64) (.int .i64))) (.pair (.int .i64) (.int .i64)))))))))], rs := [.d false (.sl (.pair (.int .i64) (.pair (.int .i64) (.int .i64))))], pre := fun _ => True, out := fun (x : List Opn × Unit) => (confV x.1, ()), nw := id }
theorem placesV_len (l : List Opn) : (placesV l).length ≤ 360 := by
  unfold placesV
  split
  · simp
  · rename_i h
    obtain ⟨hl, _⟩ := valV_zero (l := l) (by simpa using h)
    have := sortBy_len l
    simp; omega
theorem c26 : CtrOk Try.prog 26 con26.ctr :=
  con_sound (G := ⟨[(23, con23.ctr)], [], [], []⟩) tab_ok (EnvOk.cons c23 has23 EnvOk.nil) rfl Try.func26 rfl con26 67501 (by kernel_rfl) (by decide) (by decide) rfl (by decide) rfl (by
    rintro ⟨(l : List Opn), _⟩ hpre hwf X hT hG hk hK
    (simp -implicitDefEqProofs only [go_sem, Prod.eta, Option.isSome_none, Option.isSome_some, Int.toNat_zero, Nat.reduceAdd, Nat.reduceMul, Nat.reduceSub, Nat.reduceEqDiff, Nat.reduceLT, Nat.reduceLeDiff, Nat.reduceShiftRight, Nat.reduceMod, Nat.reduceBEq, reduceCtorEq, reduceIte, reduceDIte, Int.reduceNeg, Bool.not_eq_true', Bool.not_eq_false', Bool.or_eq_true, Bool.or_eq_false_iff, Bool.and_eq_true, Bool.and_eq_false_iff, decide_eq_true_eq, decide_eq_false_iff_not, Classical.not_not, not_or, maxLen, con26, con23, hT, hG, hk, hK, Try.results26] at hwf ⊢); (try simp (disch := decide +kernel) only [drawn, true_and, and_true])
    have hpl := placesV_len l
    refine fun _ _ => ?_
    refine evk_loop ⟨{ i : Nat // i ≤ (placesV l).length }, 1000, fun i => [(3, .one (.row 71)), (7, .one (.sl (.pair (.pair (.pair (.int .i64) (.pair (.int .i64) (.int .i64))) (.pair (.int .i64) (.int .i64))) (.pair (.int .i64) (.sl (.int .i64)))) (placesV l) false)), (8, .one (.int .i64 (placesV l).length)), (9, .one (.int .i64 i.1))], fun i => [(71, .row 33 (.pair (.int .i64) (.pair (.int .i64) (.int .i64))) ((((placesV l).take i.1).filter (fun x => decide (1 < x.2.2.length))).map (fun x => x.1.1)))], fun i => (placesV l).length - i.1⟩ ⟨0, by omega⟩ ?_ ?_
    · simp only [go_sem, Prod.eta, Option.isSome_none, Option.isSome_some, Int.toNat_zero, Nat.reduceAdd, Nat.reduceMul, Nat.reduceSub, Nat.reduceEqDiff, Nat.reduceLT, Nat.reduceLeDiff, Nat.reduceShiftRight, Nat.reduceMod, Nat.reduceBEq, reduceCtorEq, reduceIte, reduceDIte, Int.reduceNeg]
      try (first | rfl | exact ⟨rfl, rfl⟩)
    · rintro ⟨i, (hi : i ≤ (placesV l).length)⟩
      (simp -implicitDefEqProofs only [go_sem, Prod.eta, Option.isSome_none, Option.isSome_some, Int.toNat_zero, Nat.reduceAdd, Nat.reduceMul, Nat.reduceSub, Nat.reduceEqDiff, Nat.reduceLT, Nat.reduceLeDiff, Nat.reduceShiftRight, Nat.reduceMod, Nat.reduceBEq, reduceCtorEq, reduceIte, reduceDIte, Int.reduceNeg, Bool.not_eq_true', Bool.not_eq_false', Bool.or_eq_true, Bool.or_eq_false_iff, Bool.and_eq_true, Bool.and_eq_false_iff, decide_eq_true_eq, decide_eq_false_iff_not, Classical.not_not, not_or, maxLen, con26, con23, hT, hG, hk, hK, Try.results26]); (try simp (disch := decide +kernel) only [drawn, true_and, and_true])
      refine ⟨fun hlt => ?_, fun hge => ?_⟩
      · have hil : i < (placesV l).length := by omega
        obtain ⟨p, hp⟩ : ∃ p, (placesV l)[i] = p := ⟨_, rfl⟩
        have ep : ∀ z, (placesV l).getD (i : Int).toNat z = p := fun z => by rw [← hp]; simp [hil]
        simp only [ep]
        have hst : (((placesV l).take (i + 1)).filter (fun x => decide (1 < x.2.2.length))).map (fun x => x.1.1) = (((placesV l).take i).filter (fun x => decide (1 < x.2.2.length))).map (fun x => x.1.1) ++ if 1 < p.2.2.length then [p.1.1] else [] := by
          rw [List.take_succ_eq_append_getElem hil, List.filter_append, List.map_append, hp]
          by_cases q : 1 < p.2.2.length <;> simp [q]
        have hml : ((((placesV l).take i).filter (fun x => decide (1 < x.2.2.length))).map (fun x => x.1.1)).length ≤ 360 := by
          rw [List.length_map]
          exact Nat.le_trans (List.length_filter_le _ _) (by simp; omega)
        (repeat' (with_reducible (first | refine And.intro ?_ ?_ | intro _))) <;> (try (first | with_reducible (first | done | assumption | omega | contradiction) | decide))
        · have hq : (p.2.2.length : Int) > 1 := by assumption
          rw [if_pos (by omega)] at hst
          refine fin_lp ⟨i + 1, by omega⟩ ?_ (by dsimp only; omega)
          simp only [go_sem, Prod.eta, Option.isSome_none, Option.isSome_some, Int.toNat_zero, Nat.reduceAdd, Nat.reduceMul, Nat.reduceSub, Nat.reduceEqDiff, Nat.reduceLT, Nat.reduceLeDiff, Nat.reduceShiftRight, Nat.reduceMod, Nat.reduceBEq, reduceCtorEq, reduceIte, reduceDIte, Int.reduceNeg]
          rw [hst]
          try (first | rfl | exact ⟨rfl, rfl⟩ | (and_intros <;> first | rfl | omega))
        · have hq : ¬ (p.2.2.length : Int) > 1 := by assumption
          rw [if_neg (by omega), List.append_nil] at hst
          refine fin_lp ⟨i + 1, by omega⟩ ?_ (by dsimp only; omega)
          simp only [go_sem, Prod.eta, Option.isSome_none, Option.isSome_some, Int.toNat_zero, Nat.reduceAdd, Nat.reduceMul, Nat.reduceSub, Nat.reduceEqDiff, Nat.reduceLT, Nat.reduceLeDiff, Nat.reduceShiftRight, Nat.reduceMod, Nat.reduceBEq, reduceCtorEq, reduceIte, reduceDIte, Int.reduceNeg]
          rw [hst]
          try (first | rfl | exact ⟨rfl, rfl⟩ | (and_intros <;> first | rfl | omega))
      · unfold confV
        rw [List.take_of_length_le (by omega)])
def platesV (i : Int) : Plt := ((goMod i 1000).tdiv 500, 117 + ((goMod i 1000).tdiv 100).tmod 5, 1000 + (goMod i 1000).tmod 100)
def con68 : Con := { ps := [.d false (.int .i64)], rs := [.d true (.pair (.int .i64) (.pair (.int .i64) (.int .i64)))], pre := fun _ => True, out := fun x => (platesV x.1, ()), nw := id }
theorem c68 : CtrOk Try.prog 68 con68.ctr :=
  con_sound (G := ⟨[(28, con28.ctr)], [], [], []⟩) tab_ok (EnvOk.cons c28 has28 EnvOk.nil) rfl Try.func68 rfl con68 5 (by kernel_rfl) (by decide) (by decide) rfl (by decide) rfl (by
    rintro ⟨(i : Int), _⟩ hpre hwf X hT hG hk hK
    (simp -implicitDefEqProofs only [go_sem, Prod.eta, Option.isSome_none, Option.isSome_some, Int.toNat_zero, Nat.reduceAdd, Nat.reduceMul, Nat.reduceSub, Nat.reduceEqDiff, Nat.reduceLT, Nat.reduceLeDiff, Nat.reduceShiftRight, Nat.reduceMod, Nat.reduceBEq, reduceCtorEq, reduceIte, reduceDIte, Int.reduceNeg, Bool.not_eq_true', Bool.not_eq_false', Bool.or_eq_true, Bool.or_eq_false_iff, Bool.and_eq_true, Bool.and_eq_false_iff, decide_eq_true_eq, decide_eq_false_iff_not, Classical.not_not, not_or, maxLen, con68, con28, hT, hG, hk, hK, Try.results68] at hwf ⊢); (try simp (disch := decide +kernel) only [drawn, true_and, and_true])
    have hb := goMod_bd i 1000 (by omega)
    have := tmod_bd ((goMod i 1000).tdiv 100) 5 (by omega)
    have := tmod_bd (goMod i 1000) 100 (by omega)
    have : 0 ≤ (goMod i 1000).tdiv 500 := Int.tdiv_nonneg hb.1 (by omega)
    have : (goMod i 1000).tdiv 500 ≤ goMod i 1000 := Int.tdiv_le_self 500 hb.1
    have : 0 ≤ (goMod i 1000).tdiv 100 := Int.tdiv_nonneg hb.1 (by omega)
    have : (goMod i 1000).tdiv 100 ≤ goMod i 1000 := Int.tdiv_le_self 100 hb.1
    (repeat' (with_reducible (first | refine And.intro ?_ ?_ | intro _))) <;> (try (first | with_reducible (first | done | assumption | omega | contradiction) | decide))
    all_goals rfl)
def con45 : Con := { ps := [.d false (.int .i64), .d false (.int .i64), .d false (.int .i64), .d false (.int .i64), .d false (.int .i64)], rs := [.d true (.pair (.int .i64) (.pair (.int .i64) (.pair (.int .i64) (.pair (.int .i64) (.pair (.int .i64) (.pair (.pair (.int .i64) (.pair (.int .i64) (.int .i64))) (.pair (.int .i64) (.int .i64))))))))], pre := fun _ => True, out := fun x => ((x.1, x.2.1, x.2.2.1, x.2.2.2.1, x.2.2.2.2.1, platesV 3, 10, 0), ()), nw := id }
theorem c45 : CtrOk Try.prog 45 con45.ctr :=
  con_sound (G := ⟨[(68, con68.ctr)], [], [], []⟩) tab_ok (EnvOk.cons c68 has68 EnvOk.nil) rfl Try.func45 rfl con45 1055 (by kernel_rfl) (by decide) (by decide) rfl (by decide) rfl (by
    rintro ⟨(a : Int), (b : Int), (c : Int), (d : Int), (e : Int), _⟩ hpre hwf X hT hG hk hK
    (simp -implicitDefEqProofs only [go_sem, Prod.eta, Option.isSome_none, Option.isSome_some, Int.toNat_zero, Nat.reduceAdd, Nat.reduceMul, Nat.reduceSub, Nat.reduceEqDiff, Nat.reduceLT, Nat.reduceLeDiff, Nat.reduceShiftRight, Nat.reduceMod, Nat.reduceBEq, reduceCtorEq, reduceIte, reduceDIte, Int.reduceNeg, Bool.not_eq_true', Bool.not_eq_false', Bool.or_eq_true, Bool.or_eq_false_iff, Bool.and_eq_true, Bool.and_eq_false_iff, decide_eq_true_eq, decide_eq_false_iff_not, Classical.not_not, not_or, maxLen, con45, con68, hT, hG, hk, hK, Try.results45] at hwf ⊢); (try simp (disch := decide +kernel) only [drawn, true_and, and_true])
    skip)
theorem sorted_unique : ∀ {a b : List Int}, a.Perm b → a.Pairwise (· ≤ ·) → b.Pairwise (· ≤ ·) → a = b
  | [], b, hp, _, _ => (List.nil_perm.1 hp).symm ▸ rfl
  | x :: a, [], hp, _, _ => by have := hp.length_eq; simp at this
  | x :: a, y :: b, hp, ha, hb => by
    rw [List.pairwise_cons] at ha hb
    have e : x = y := by
      have h1 : x ∈ y :: b := hp.subset (List.mem_cons_self ..)
      have h2 : y ∈ x :: a := hp.symm.subset (List.mem_cons_self ..)
      rcases List.mem_cons.1 h1 with h | h
      · exact h
      · rcases List.mem_cons.1 h2 with k | k
        · exact k.symm
        · have := hb.1 x h
          have := ha.1 y k
          omega
    subst e
    rw [sorted_unique (List.Perm.cons_inv hp) ha.2 hb.2]
theorem sortI_perm (l : List Int) : (sortI l).Perm l := List.mergeSort_perm l _
theorem sortI_sorted (l : List Int) : (sortI l).Pairwise (· ≤ ·) := by
  have h := List.pairwise_mergeSort (le := fun x y : Int => decide (x ≤ y)) (fun a b c => by simp; omega) (fun a b => by simp; omega) l
  exact h.imp (fun h => by simpa using h)
abbrev pc3 : Pce := (platesV 3, 10, 0)
abbrev ex1 : Opn := (10, 1, 3, 1, 4, pc3)
abbrev ex2 : Opn := (12, 2, 1, 1, 5, pc3)
abbrev ex3 : Opn := (15, 1, 4, 2, 4, pc3)
abbrev ex4 : Opn := (11, 1, 3, 1, 4, pc3)
theorem sort_one {l : List Opn} {p : Plt} (h : abK l = [p]) : sortBy pltC (abK l) = [p] := by
  rw [h]; exact List.perm_singleton.1 (sortBy_perm pltC [p])
theorem m1 : mergeV [ex2] [ex1] = ([ex1, ex2], 0) := by
  have h : mg [ex2] [ex1] = [ex1, ex2] := by
    rw [mg, if_neg (by decide +kernel), if_pos (by decide +kernel)]; simp [mg]
  unfold mergeV
  rw [h, if_neg (by decide +kernel), if_neg (by decide +kernel), if_neg (by decide +kernel), if_neg (by decide +kernel)]
theorem m2 : mergeV [ex1, ex2] [ex3] = ([ex1, ex2, ex3], 0) := by
  have h : mg [ex1, ex2] [ex3] = [ex1, ex2, ex3] := by
    rw [mg, if_neg (by decide +kernel), if_neg (by decide +kernel), mg, if_neg (by decide +kernel), if_neg (by decide +kernel)]; simp [mg]
  unfold mergeV
  rw [h, if_neg (by decide +kernel), if_neg (by decide +kernel), if_neg (by decide +kernel), if_neg (by decide +kernel)]
theorem m3 : mergeV [ex1] [ex4] = ([], 5) := by
  unfold mergeV
  rw [if_neg (by decide +kernel), if_neg (by decide +kernel), if_pos (by decide +kernel)]
theorem p1 : placesV [ex1, ex2] = [(pc3, 5, [4, 5])] := by
  unfold placesV
  rw [if_neg (by decide +kernel), sort_one (p := platesV 3) (by decide +kernel)]
  have ha : aboutP [ex1, ex2] (platesV 3) = [ex1, ex2] := by decide +kernel
  have ht : trail [ex1, ex2] = [5, 4] := by decide +kernel
  have hs : sortI [5, 4] = [4, 5] := sorted_unique ((sortI_perm _).trans (List.Perm.swap 4 5 [])) (sortI_sorted _) (by decide)
  simp only [List.map_cons, List.map_nil, ha]
  unfold placeV
  rw [ht, hs]
  decide +kernel
theorem p2 : placesV [ex1, ex2, ex3] = [(pc3, 0, [])] := by
  unfold placesV
  rw [if_neg (by decide +kernel), sort_one (p := platesV 3) (by decide +kernel)]
  have ha : aboutP [ex1, ex2, ex3] (platesV 3) = [ex1, ex2, ex3] := by decide +kernel
  have ht : trail [ex1, ex2, ex3] = [] := by decide +kernel
  have hs : sortI [] = [] := (sortI_perm []).eq_nil
  simp only [List.map_cons, List.map_nil, ha]
  unfold placeV
  rw [ht, hs]
  decide +kernel
theorem c1 : confV [ex1, ex2] = [platesV 3] := by unfold confV; rw [p1]; rfl
def con17 : Con := { ps := [], rs := [.d false .bool], pre := fun _ => True, out := fun x => (true, ()), nw := id }
theorem c17 : CtrOk Try.prog 17 con17.ctr :=
  con_sound (G := ⟨[(19, con19.ctr), (23, con23.ctr), (26, con26.ctr), (45, con45.ctr)], [], [], []⟩) tab_ok (EnvOk.cons c19 has19 (EnvOk.cons c23 has23 (EnvOk.cons c26 has26 (EnvOk.cons c45 has45 EnvOk.nil)))) rfl Try.func17 rfl con17 3071 (by kernel_rfl) (by decide) (by decide) rfl (by decide) rfl (by
    rintro _ hpre hwf X hT hG hk hK
    (simp -implicitDefEqProofs only [go_sem, Prod.eta, Option.isSome_none, Option.isSome_some, Int.toNat_zero, Nat.reduceAdd, Nat.reduceMul, Nat.reduceSub, Nat.reduceEqDiff, Nat.reduceLT, Nat.reduceLeDiff, Nat.reduceShiftRight, Nat.reduceMod, Nat.reduceBEq, reduceCtorEq, reduceIte, reduceDIte, Int.reduceNeg, Bool.not_eq_true', Bool.not_eq_false', Bool.or_eq_true, Bool.or_eq_false_iff, Bool.and_eq_true, Bool.and_eq_false_iff, decide_eq_true_eq, decide_eq_false_iff_not, Classical.not_not, not_or, maxLen, con17, con19, con23, con26, con45, hT, hG, hk, hK, Try.results17] at hwf ⊢); (try simp (disch := decide +kernel) only [drawn, true_and, and_true])
    simp only [m1, m2, m3, p1, p2, c1]
    (repeat' (with_reducible (first | refine And.intro ?_ ?_ | intro _))) <;> (try (first | with_reducible (first | done | assumption | omega | contradiction) | decide))
    all_goals try simp only [List.append_eq, List.cons_append, List.nil_append]
    all_goals try
      (simp -implicitDefEqProofs only [go_sem, Prod.eta, Option.isSome_none, Option.isSome_some, Int.toNat_zero, Nat.reduceAdd, Nat.reduceMul, Nat.reduceSub, Nat.reduceEqDiff, Nat.reduceLT, Nat.reduceLeDiff, Nat.reduceShiftRight, Nat.reduceMod, Nat.reduceBEq, reduceCtorEq, reduceIte, reduceDIte, Int.reduceNeg, Bool.not_eq_true', Bool.not_eq_false', Bool.or_eq_true, Bool.or_eq_false_iff, Bool.and_eq_true, Bool.and_eq_false_iff, decide_eq_true_eq, decide_eq_false_iff_not, Classical.not_not, not_or, maxLen, con17, con19, con23, con26, con45, hT, hG, hk, hK, Try.results17, m1, m2, m3, p1, p2, c1, List.getD_cons_zero, List.getD_cons_succ]); (try simp (disch := decide +kernel) only [drawn, true_and, and_true])
    (repeat' (with_reducible (first | refine And.intro ?_ ?_ | intro _))) <;> (try (first | with_reducible (first | done | assumption | omega | contradiction) | decide))
    all_goals skip)
end Go.Proofs.Ythiddcobegnokaa

/- Valid lists of operations: what stays valid, what Merge gives on parts of one. -/
set_option linter.unusedSimpArgs false
set_option linter.unusedVariables false
set_option maxRecDepth 100000
set_option maxHeartbeats 4000000
namespace Go.Proofs.Ythiddcobegnokaa
open Go.Ev

def Rl (a b : Opn) : Prop := bfV a b = true ∧ (a.2.1 = b.2.1 → a.2.2.1 < b.2.2.1)
structure OkL (l : List Opn) : Prop where
  ok : ∀ o ∈ l, okOp o = true
  pw : l.Pairwise Rl
theorem getD_at {l : List Opn} {i : Nat} (h : i < l.length) : l.getD i o0 = l[i] := by simp [h]
theorem OkL.val {l : List Opn} (h : OkL l) (hl : l.length ≤ 360) : valV l = 0 := by
  refine valV_ok (by omega) fun k hk => stepErr_0 ?_ (fun h0 => ?_) ?_
  · rw [getD_at hk]; exact h.ok _ (List.getElem_mem hk)
  · rw [getD_at hk, getD_at (by omega : k - 1 < l.length)]
    exact (List.pairwise_iff_getElem.1 h.pw (k - 1) k (by omega) hk (by omega)).1
  · rintro ⟨j, hj, h1, h2⟩
    rw [getD_at hk, getD_at (by omega : j < l.length)] at h1 h2
    have := (List.pairwise_iff_getElem.1 h.pw j k (by omega) hk hj).2 h1
    omega
theorem OkL.of {l : List Opn} (h : valV l = 0) : OkL l := by
  obtain ⟨hl, hz⟩ := valV_zero h
  refine ⟨fun o ho => ?_, List.pairwise_iff_getElem.2 fun i j hi hj hij => ⟨List.pairwise_iff_getElem.1 (srt_of h) i j hi hj hij, fun hd => ?_⟩⟩
  · obtain ⟨i, hi, rfl⟩ := List.getElem_of_mem ho
    have := (stepErr_zero (hz i hi)).1
    rwa [getD_at hi] at this
  · have := (stepErr_zero (hz j hj)).2.2 i hij
    rw [getD_at hi, getD_at hj] at this
    exact this hd
theorem mg_mem (z : Opn) (a b : List Opn) : z ∈ mg a b ↔ z ∈ a ∨ z ∈ b := by
  fun_induction mg a b with
  | case1 => simp
  | case2 => simp
  | case3 a x b ih => rw [ih]; by_cases h1 : z = x <;> by_cases h2 : z ∈ a <;> by_cases h3 : z ∈ b <;> simp [h1, h2, h3]
  | case4 x a y b h1 h2 ih => simp only [List.mem_cons, ih]; by_cases h1 : z = x <;> by_cases h2 : z ∈ a <;> by_cases h3 : z ∈ b <;> by_cases h4 : z = y <;> simp [h1, h2, h3, h4]
  | case5 x a y b h1 h2 ih => simp only [List.mem_cons, ih]; by_cases h1 : z = x <;> by_cases h2 : z ∈ a <;> by_cases h3 : z ∈ b <;> by_cases h4 : z = y <;> simp [h1, h2, h3, h4]
theorem mgR_mem (z : Opn) (a b : List Opn) : z ∈ mgR a b → z ∈ a ∨ z ∈ b := by
  fun_induction mgR a b with
  | case1 => exact .inr
  | case2 => exact .inl
  | case3 x a y b h1 ih =>
    intro h
    rcases List.mem_cons.1 h with rfl | h
    · exact .inl (List.mem_cons_self ..)
    · rcases ih h with h | h
      · exact .inl (List.mem_cons_of_mem _ h)
      · exact .inr h
  | case4 x a y b h1 h2 ih =>
    intro h
    rcases List.mem_cons.1 h with rfl | h
    · exact .inr (List.mem_cons_self ..)
    · rcases ih h with h | h
      · exact .inl h
      · exact .inr (List.mem_cons_of_mem _ h)
  | case5 x a y b h1 h2 ih =>
    intro h
    rcases List.mem_cons.1 h with rfl | h
    · exact .inl (List.mem_cons_self ..)
    · rcases ih h with h | h
      · exact .inl (List.mem_cons_of_mem _ h)
      · exact .inr (List.mem_cons_of_mem _ h)
theorem mgR_srt (a b : List Opn) : Srt a → Srt b → NoD a b → Srt (mgR a b) := by
  fun_induction mgR a b with
  | case1 => exact fun _ h _ => h
  | case2 => exact fun h _ _ => h
  | case3 x a y b h1 ih =>
    intro sa sb nd
    have sa' := List.pairwise_cons.1 sa
    have sb' := List.pairwise_cons.1 sb
    refine List.pairwise_cons.2 ⟨fun z hz => ?_, ih sa'.2 sb fun u hu v hv => nd u (List.mem_cons_of_mem _ hu) v hv⟩
    rcases mgR_mem _ _ _ hz with h | h
    · exact sa'.1 z h
    · rcases List.mem_cons.1 h with rfl | h
      · exact h1
      · exact bfV_trans h1 (sb'.1 z h)
  | case4 x a y b h1 h2 ih =>
    intro sa sb nd
    have sa' := List.pairwise_cons.1 sa
    have sb' := List.pairwise_cons.1 sb
    refine List.pairwise_cons.2 ⟨fun z hz => ?_, ih sa sb'.2 fun u hu v hv => nd u hu v (List.mem_cons_of_mem _ hv)⟩
    rcases mgR_mem _ _ _ hz with h | h
    · rcases List.mem_cons.1 h with rfl | h
      · exact h2
      · exact bfV_trans h2 (sa'.1 z h)
    · exact sb'.1 z h
  | case5 x a y b h1 h2 ih =>
    intro sa sb nd
    have sa' := List.pairwise_cons.1 sa
    have sb' := List.pairwise_cons.1 sb
    obtain ⟨k1, k2⟩ := bfV_tot (by simpa using h1) (by simpa using h2)
    have e : x = y := nd x (List.mem_cons_self ..) y (List.mem_cons_self ..) k1 k2
    refine List.pairwise_cons.2 ⟨fun z hz => ?_, ih sa'.2 sb'.2 fun u hu v hv => nd u (List.mem_cons_of_mem _ hu) v (List.mem_cons_of_mem _ hv)⟩
    rcases mgR_mem _ _ _ hz with h | h
    · exact sa'.1 z h
    · rw [e]; exact sb'.1 z h
theorem srt_ext : ∀ {a b : List Opn}, Srt a → Srt b → (∀ x, x ∈ a ↔ x ∈ b) → a = b
  | [], [], _, _, _ => rfl
  | [], y :: b, _, _, h => by have := (h y).2 (List.mem_cons_self ..); cases this
  | x :: a, [], _, _, h => by have := (h x).1 (List.mem_cons_self ..); cases this
  | x :: a, y :: b, sa, sb, h => by
    have sa' := List.pairwise_cons.1 sa
    have sb' := List.pairwise_cons.1 sb
    have e : x = y := by
      rcases List.mem_cons.1 ((h x).1 (List.mem_cons_self ..)) with e | e
      · exact e
      · rcases List.mem_cons.1 ((h y).2 (List.mem_cons_self ..)) with k | k
        · exact k.symm
        · have h1 := sb'.1 x e
          rw [bfV_asym (sa'.1 y k)] at h1
          cases h1
    subst e
    have nx : ∀ {r : List Opn} {z : Opn}, (∀ w ∈ r, bfV x w = true) → z ∈ r → z ≠ x := fun hr hz q => by
      have := hr _ hz
      rw [q, bfV_irr] at this
      cases this
    rw [srt_ext sa'.2 sb'.2 fun z => ⟨fun hz => (List.mem_cons.1 ((h z).1 (List.mem_cons_of_mem _ hz))).resolve_left (nx sa'.1 hz), fun hz => (List.mem_cons.1 ((h z).2 (List.mem_cons_of_mem _ hz))).resolve_left (nx sb'.1 hz)⟩]
theorem srt_sub : ∀ {b a : List Opn}, Srt a → Srt b → (∀ x ∈ a, x ∈ b) → a.Sublist b
  | [], [], _, _, _ => List.Sublist.slnil
  | [], x :: a, _, _, h => by have := h x (List.mem_cons_self ..); cases this
  | y :: b, [], _, _, _ => List.nil_sublist _
  | y :: b, x :: a, sa, sb, h => by
    have sa' := List.pairwise_cons.1 sa
    have sb' := List.pairwise_cons.1 sb
    have nx : ∀ {u : Opn} {r : List Opn} {z : Opn}, (∀ w ∈ r, bfV u w = true) → z ∈ r → z ≠ u := fun hr hz q => by
      have := hr _ hz
      rw [q, bfV_irr] at this
      cases this
    by_cases e : x = y
    · subst e
      exact (srt_sub sa'.2 sb'.2 fun z hz => (List.mem_cons.1 (h z (List.mem_cons_of_mem _ hz))).resolve_left (nx sa'.1 hz)).cons_cons _
    · have hx := (List.mem_cons.1 (h x (List.mem_cons_self ..))).resolve_left e
      have hyx := sb'.1 x hx
      refine (srt_sub sa sb'.2 fun z hz => (List.mem_cons.1 (h z hz)).resolve_left fun q => ?_).cons _
      subst q
      rcases List.mem_cons.1 hz with q | q
      · exact e q.symm
      · have := sa'.1 z q
        rw [bfV_asym hyx] at this
        cases this
/-- A sorted part of a valid list. -/
structure PartOf (all a : List Opn) : Prop where
  srt : Srt a
  mem : ∀ x ∈ a, x ∈ all
theorem OkL.srt {l : List Opn} (h : OkL l) : Srt l := h.pw.imp fun h => h.1
theorem OkL.sub {l a : List Opn} (h : OkL l) (s : a.Sublist l) : OkL a := ⟨fun o ho => h.ok o (s.subset ho), h.pw.sublist s⟩
theorem PartOf.sub {all a : List Opn} (h : OkL all) (p : PartOf all a) : a.Sublist all := srt_sub p.srt h.srt p.mem
theorem PartOf.of {all a : List Opn} (h : OkL all) (s : a.Sublist all) : PartOf all a := ⟨(h.sub s).srt, fun x hx => s.subset hx⟩
theorem PartOf.val {all a : List Opn} (h : OkL all) (hl : all.length ≤ 360) (p : PartOf all a) : valV a = 0 := (h.sub (p.sub h)).val (Nat.le_trans (p.sub h).length_le hl)
theorem PartOf.mg {all a b : List Opn} (h : OkL all) (hl : all.length ≤ 360) (p : PartOf all a) (q : PartOf all b) : mergeV a b = (mg a b, 0) ∧ PartOf all (mg a b) := by
  have nd : NoD a b := fun x hx y hy h1 h2 => uniq_name (h.val hl) (p.mem x hx) (q.mem y hy) h1 h2
  have e := mg_eq_mgR _ a b (Nat.le_refl _) p.srt q.srt nd
  have hm : PartOf all (Go.Proofs.Ythiddcobegnokaa.mg a b) := ⟨by rw [e]; exact mgR_srt a b p.srt q.srt nd, fun x hx => ((mg_mem x a b).1 hx).elim (p.mem x) (q.mem x)⟩
  refine ⟨?_, hm⟩
  unfold mergeV
  rw [if_neg (by rw [p.val h hl]; simp), if_neg (by rw [q.val h hl]; simp), if_neg (by rw [noD_iff.2 nd]; simp), if_neg (by rw [hm.val h hl]; simp)]
theorem lattice {all a b c : List Opn} (h : OkL all) (hl : all.length ≤ 360) (p : PartOf all a) (q : PartOf all b) (r : PartOf all c) :
    mg a b = mg b a ∧ mg (mg a b) c = mg a (mg b c) ∧ mg a a = a ∧ mg all a = all := by
  have w : PartOf all all := ⟨h.srt, fun x hx => hx⟩
  refine ⟨srt_ext (p.mg h hl q).2.srt (q.mg h hl p).2.srt fun x => ?_, srt_ext ((p.mg h hl q).2.mg h hl r).2.srt (p.mg h hl (q.mg h hl r).2).2.srt fun x => ?_, srt_ext (p.mg h hl p).2.srt p.srt fun x => ?_, srt_ext (w.mg h hl p).2.srt w.srt fun x => ?_⟩
  · simp only [mg_mem]; exact Or.comm
  · simp only [mg_mem]; exact or_assoc
  · simp only [mg_mem]; exact or_self_iff
  · simp only [mg_mem]; exact ⟨fun k => k.elim id (p.mem x), .inl⟩
/-- The list that Ops builds. -/
structure Gn (l : List Opn) (t : Int) (sq : List Int) : Prop where
  ok : ∀ o ∈ l, okOp o = true
  tm : ∀ o ∈ l, o.1 ≤ t
  dv : ∀ o ∈ l, 1 ≤ o.2.1 ∧ o.2.1 ≤ 4
  sn : ∀ o ∈ l, o.2.2.1 ≤ sq.getD o.2.1.toNat 0
  pw : l.Pairwise Rl
theorem Gn.nil (t : Int) (sq : List Int) : Gn [] t sq := ⟨fun _ h => (by cases h), fun _ h => (by cases h), fun _ h => (by cases h), fun _ h => (by cases h), List.Pairwise.nil⟩
theorem Gn.okl {l : List Opn} {t : Int} {sq : List Int} (h : Gn l t sq) : OkL l := ⟨h.ok, h.pw⟩
theorem set_at {sq : List Int} {i : Nat} {x : Int} (h : i < sq.length) (j : Nat) : (sq.set i x).getD j 0 = if i = j then x else sq.getD j 0 := by
  rw [List.getD_eq_getElem?_getD, List.getElem?_set]
  by_cases e : i = j
  · subst e; simp [h]
  · simp [e, List.getD_eq_getElem?_getD]
theorem Gn.ins {l : List Opn} {t : Int} {sq : List Int} (h : Gn l t sq) {o : Opn} {i : Nat} (ho : okOp o = true) (hd : 1 ≤ o.2.1 ∧ o.2.1 ≤ 4) (ht : t ≤ o.1) (hq : sq.length = 5) (hs : sq.getD o.2.1.toNat 0 < o.2.2.1) (hi : i ≤ l.length)
    (aft : ∀ z ∈ l.drop i, z.1 = o.1 ∧ o.2.1 < z.2.1) (bef : 0 < i → ¬ ((l.getD (i - 1) o0).1 = o.1 ∧ o.2.1 < (l.getD (i - 1) o0).2.1)) : Gn (l.take i ++ o :: l.drop i) o.1 (sq.set o.2.1.toNat o.2.2.1) := by
  have hm : ∀ z, z ∈ l.take i ++ o :: l.drop i → z = o ∨ z ∈ l := fun z hz => by
    rcases List.mem_append.1 hz with k | k
    · exact .inr (List.mem_of_mem_take k)
    · rcases List.mem_cons.1 k with k | k
      · exact .inl k
      · exact .inr (List.mem_of_mem_drop k)
  refine ⟨fun z hz => ?_, fun z hz => ?_, fun z hz => ?_, fun z hz => ?_, ?_⟩
  · rcases hm z hz with rfl | k
    · exact ho
    · exact h.ok z k
  · rcases hm z hz with rfl | k
    · exact Int.le_refl _
    · exact Int.le_trans (h.tm z k) ht
  · rcases hm z hz with rfl | k
    · exact hd
    · exact h.dv z k
  · rw [set_at (by omega)]
    rcases hm z hz with rfl | k
    · rw [if_pos rfl]; exact Int.le_refl _
    · have h1 := h.sn z k
      have h2 := h.dv z k
      split
      · rename_i e
        have e2 : z.2.1 = o.2.1 := by omega
        rw [e2] at h1; omega
      · exact h1
  · have hp : (l.take i ++ l.drop i).Pairwise Rl := by rw [List.take_append_drop]; exact h.pw
    rw [List.pairwise_append] at hp
    refine List.pairwise_append.2 ⟨hp.1, List.pairwise_cons.2 ⟨fun z hz => ?_, hp.2.1⟩, fun x hx z hz => ?_⟩
    · obtain ⟨a1, a2⟩ := aft z hz
      refine ⟨?_, fun q => by omega⟩
      unfold bfV; rw [decide_eq_true_eq]; omega
    · rcases List.mem_cons.1 hz with rfl | hz
      · have hx' := List.mem_of_mem_take hx
        have hs1 := h.sn x hx'
        have hd1 := h.dv x hx'
        have ht1 := h.tm x hx'
        obtain ⟨j, hj, rfl⟩ := List.getElem_of_mem hx
        have hj2 : j < i := by simp at hj; omega
        have hjl : j < l.length := by omega
        rw [List.getElem_take] at *
        have hb := bef (by omega)
        rw [getD_at (by omega : i - 1 < l.length)] at hb
        have hlast := h.tm _ (List.getElem_mem (by omega : i - 1 < l.length))
        have hseq : (l[j]).2.1 = z.2.1 → (l[j]).2.2.1 < z.2.2.1 := fun e => by rw [e] at hs1; omega
        refine ⟨?_, hseq⟩
        unfold bfV; rw [decide_eq_true_eq]
        by_cases e1 : (l[j]).1 < z.1
        · exact .inl e1
        · refine .inr ⟨by omega, ?_⟩
          have hle : (l[j]).2.1 ≤ z.2.1 := by
            by_cases e2 : j = i - 1
            · subst e2; omega
            · have hr := (List.pairwise_iff_getElem.1 h.pw j (i - 1) hjl (by omega) (by omega)).1
              unfold bfV at hr; rw [decide_eq_true_eq] at hr
              omega
          by_cases e3 : (l[j]).2.1 < z.2.1
          · exact .inl e3
          · have e4 : (l[j]).2.1 = z.2.1 := by omega
            exact .inr ⟨e4, hseq e4⟩
      · exact hp.2.2 x hx z hz
end Go.Proofs.Ythiddcobegnokaa

/- Places, as the specification builds them, are the places: the plain law. -/
set_option linter.unusedSimpArgs false
set_option linter.unusedVariables false
set_option maxRecDepth 100000
set_option maxHeartbeats 4000000
namespace Go.Proofs.Ythiddcobegnokaa
open Go.Ev

theorem strict_ext {α : Type} {R : α → α → Prop} (asy : ∀ x y, R x y → ¬ R y x) : ∀ {a b : List α}, a.Pairwise R → b.Pairwise R → (∀ x, x ∈ a ↔ x ∈ b) → a = b
  | [], [], _, _, _ => rfl
  | [], y :: b, _, _, h => by have := (h y).2 (List.mem_cons_self ..); cases this
  | x :: a, [], _, _, h => by have := (h x).1 (List.mem_cons_self ..); cases this
  | x :: a, y :: b, sa, sb, h => by
    have sa' := List.pairwise_cons.1 sa
    have sb' := List.pairwise_cons.1 sb
    have e : x = y := by
      rcases List.mem_cons.1 ((h x).1 (List.mem_cons_self ..)) with e | e
      · exact e
      · rcases List.mem_cons.1 ((h y).2 (List.mem_cons_self ..)) with k | k
        · exact k.symm
        · exact absurd (sb'.1 x e) (asy _ _ (sa'.1 y k))
    subst e
    have nx : ∀ {r : List α} {z : α}, (∀ w ∈ r, R x w) → z ∈ r → z ≠ x := fun hr hz q => by
      have := hr _ hz
      rw [q] at this
      exact asy _ _ this this
    rw [strict_ext asy sa'.2 sb'.2 fun z => ⟨fun hz => (List.mem_cons.1 ((h z).1 (List.mem_cons_of_mem _ hz))).resolve_left (nx sa'.1 hz), fun hz => (List.mem_cons.1 ((h z).2 (List.mem_cons_of_mem _ hz))).resolve_left (nx sb'.1 hz)⟩]
def insC {α : Type} (c : α → α → Int) : List α → α → List α
  | [], p => [p]
  | a :: l, p => if c a p < 0 then a :: insC c l p else if c a p = 0 then a :: l else p :: a :: l
theorem insC_mem {α : Type} {c : α → α → Int} (hc : Cmp c) (x p : α) : ∀ l, x ∈ insC c l p ↔ x = p ∨ x ∈ l
  | [] => by simp [insC]
  | a :: l => by
    rw [insC]
    split
    · rw [List.mem_cons, insC_mem hc x p l, List.mem_cons]
      constructor
      · rintro (h | h | h)
        · exact .inr (.inl h)
        · exact .inl h
        · exact .inr (.inr h)
      · rintro (h | h | h)
        · exact .inr (.inl h)
        · exact .inl h
        · exact .inr (.inr h)
    · split
      · rename_i e
        have := (hc.eq _ _).1 e
        subst this
        simp
      · simp
theorem insC_len {α : Type} {c : α → α → Int} (p : α) : ∀ l, (insC c l p).length ≤ l.length + 1
  | [] => by simp [insC]
  | a :: l => by
    have := insC_len (c := c) p l
    rw [insC]
    split
    · simp; omega
    · split <;> simp
theorem Cmp.as {α : Type} {c : α → α → Int} (hc : Cmp c) (x y : α) (h : c x y < 0) : ¬ c y x < 0 := fun k => by
  have := (hc.anti x y).1 h
  omega
theorem insC_srt {α : Type} {c : α → α → Int} (hc : Cmp c) (p : α) : ∀ {l : List α}, l.Pairwise (fun a b => c a b < 0) → (insC c l p).Pairwise (fun a b => c a b < 0)
  | [], _ => by simp [insC]
  | a :: l, h => by
    have h' := List.pairwise_cons.1 h
    rw [insC]
    split
    · rename_i k
      refine List.pairwise_cons.2 ⟨fun z hz => ?_, insC_srt hc p h'.2⟩
      rcases (insC_mem hc z p l).1 hz with rfl | hz
      · exact k
      · exact h'.1 z hz
    · split
      · exact h
      · rename_i k1 k2
        have hpa : c p a < 0 := (hc.anti p a).2 (by omega)
        refine List.pairwise_cons.2 ⟨fun z hz => ?_, h⟩
        rcases List.mem_cons.1 hz with rfl | hz
        · exact hpa
        · exact hc.trans _ _ _ hpa (h'.1 z hz)
theorem insC_at {α : Type} {c : α → α → Int} (p d : α) : ∀ {l : List α} {k : Nat}, k ≤ l.length → (∀ j, j < k → c (l.getD j d) p < 0) → (k < l.length → ¬ c (l.getD k d) p < 0) →
    insC c l p = if k < l.length ∧ c (l.getD k d) p = 0 then l else l.take k ++ p :: l.drop k
  | [], k, h, _, _ => by
    have : k = 0 := by simpa using h
    subst this; simp [insC]
  | a :: l, 0, _, _, h2 => by
    have h2 := h2 (by simp)
    simp only [List.getD_cons_zero] at h2
    rw [insC, if_neg h2]
    simp
  | a :: l, k + 1, h, h1, h2 => by
    have h0 := h1 0 (by omega)
    simp only [List.getD_cons_zero] at h0
    rw [insC, if_pos h0, insC_at p d (l := l) (k := k) (by simpa using h) (fun j hj => by have := h1 (j + 1) (by omega); simpa using this) (fun q => by have := h2 (by simpa using q); simpa using this)]
    simp only [List.length_cons, List.getD_cons_succ, List.take_succ_cons, List.drop_succ_cons, List.cons_append]
    by_cases e : k < l.length ∧ c (l.getD k d) p = 0
    · rw [if_pos e, if_pos ⟨by omega, e.2⟩]
    · rw [if_neg e, if_neg (fun q => e ⟨by omega, q.2⟩)]
theorem cmpV_lt (a b : Int) : cmpV a b < 0 ↔ a < b := by
  unfold cmpV
  split
  · omega
  · split <;> omega
theorem cmpV_eq (a b : Int) : cmpV a b = 0 ↔ a = b := cmpV_cmp.eq a b
/-- A sorted list without repetitions. -/
theorem ddU_spec (xs : List Int) (hs : xs.Pairwise (· ≤ ·)) : ∀ i, i ≤ xs.length → (ddU xs i).Pairwise (fun a b => cmpV a b < 0) ∧ ∀ x, x ∈ ddU xs i ↔ x ∈ xs.take i
  | 0, _ => by simp [ddU]
  | i + 1, h => by
    obtain ⟨ih1, ih2⟩ := ddU_spec xs hs i (by omega)
    have hi : i < xs.length := by omega
    have g1 : xs.getD i 0 = xs[i] := by simp [hi]
    have ht : xs.take (i + 1) = xs.take i ++ [xs[i]] := List.take_succ_eq_append_getElem hi
    have hle : ∀ x ∈ xs.take i, x ≤ xs.getD (i - 1) 0 ∧ xs.getD (i - 1) 0 ∈ xs.take i := fun x hx => by
      obtain ⟨j, hj, rfl⟩ := List.getElem_of_mem hx
      have hj2 : j < i := by simp at hj; omega
      have g2 : xs.getD (i - 1) 0 = xs[i - 1] := by simp [show i - 1 < xs.length by omega]
      rw [g2, List.getElem_take]
      refine ⟨?_, ?_⟩
      · by_cases e : j = i - 1
        · subst e; exact Int.le_refl _
        · exact List.pairwise_iff_getElem.1 hs j (i - 1) (by omega) (by omega) (by omega)
      · have : (xs.take i)[i - 1]'(by simp; omega) = xs[i - 1] := List.getElem_take
        rw [← this]; exact List.getElem_mem _
    rw [ddU, ht, g1]
    split
    · rename_i e
      rw [List.append_nil]
      refine ⟨ih1, fun x => ?_⟩
      rw [ih2, List.mem_append]
      refine ⟨.inl, fun k => k.elim id fun k => ?_⟩
      have k : x = xs[i] := by simpa using k
      rw [k, e.2]
      have h0 : xs[0]'(by omega) ∈ xs.take i := by
        have : (xs.take i)[0]'(by simp; omega) = xs[0]'(by omega) := List.getElem_take
        rw [← this]; exact List.getElem_mem _
      exact (hle _ h0).2
    · rename_i e
      refine ⟨List.pairwise_append.2 ⟨ih1, by simp, fun x hx y hy => ?_⟩, fun x => by simp only [List.mem_append, ih2]⟩
      have hy : y = xs[i] := by simpa using hy
      subst hy
      have hx2 := (ih2 x).1 hx
      have h3 := hle x hx2
      have hi0 : i ≠ 0 := fun q => by subst q; simp at hx2
      have h4 : xs.getD (i - 1) 0 ≤ xs[i] := by
        have g2 : xs.getD (i - 1) 0 = xs[i - 1] := by simp [show i - 1 < xs.length by omega]
        rw [g2]
        exact List.pairwise_iff_getElem.1 hs (i - 1) i (by omega) (by omega) (by omega)
      have h5 : xs[i] ≠ xs.getD (i - 1) 0 := fun q => e ⟨hi0, q⟩
      rw [cmpV_lt]
      omega
theorem compV_spec (t : List Int) : (compV (sortI t)).Pairwise (fun a b => cmpV a b < 0) ∧ ∀ x, x ∈ compV (sortI t) ↔ x ∈ t := by
  obtain ⟨h1, h2⟩ := ddU_spec (sortI t) (sortI_sorted t) (sortI t).length (Nat.le_refl _)
  refine ⟨h1, fun x => ?_⟩
  unfold compV
  rw [h2, List.take_length]
  exact (sortI_perm t).mem_iff
/-- A placement, step by step. -/
def stepP (x : Plc) (o : Opn) : Plc := if o.2.2.2.1 = 2 then (o.2.2.2.2.2, 0, []) else (o.2.2.2.2.2, o.2.2.2.2.1, insC cmpV x.2.2 o.2.2.2.2.1)
def z0 : Plc := (((0, 0, 0), 0, 0), 0, [])
theorem trail_snoc (m : List Opn) (o : Opn) : trail (m ++ [o]) = if o.kind = 1 then o.box :: trail m else [] := by
  unfold trail
  rw [List.reverse_append, List.reverse_singleton, List.singleton_append, List.takeWhile_cons]
  by_cases h : o.kind = 1
  · simp [h]
  · simp [h]
theorem placeR_spec (m : List Opn) : (∀ o ∈ m, o.kind = 1 ∨ o.kind = 2) → ((m.foldl stepP z0).2.2.Pairwise (fun a b => cmpV a b < 0) ∧ (∀ x, x ∈ (m.foldl stepP z0).2.2 ↔ x ∈ trail m) ∧ (m ≠ [] → (m.foldl stepP z0).1 = (m.getD (m.length - 1) o0).2.2.2.2.2 ∧ (m.foldl stepP z0).2.1 = if (m.getD (m.length - 1) o0).kind = 1 then (m.getD (m.length - 1) o0).box else 0)) := by
  refine snoc_ind (P := fun m => (∀ o ∈ m, o.kind = 1 ∨ o.kind = 2) → ((m.foldl stepP z0).2.2.Pairwise (fun a b => cmpV a b < 0) ∧ (∀ x, x ∈ (m.foldl stepP z0).2.2 ↔ x ∈ trail m) ∧ (m ≠ [] → (m.foldl stepP z0).1 = (m.getD (m.length - 1) o0).2.2.2.2.2 ∧ (m.foldl stepP z0).2.1 = if (m.getD (m.length - 1) o0).kind = 1 then (m.getD (m.length - 1) o0).box else 0))) ?_ ?_ m
  · intro _
    exact ⟨by simp [z0], fun x => by simp [z0, trail], fun h => absurd rfl h⟩
  · intro m o ih hk
    obtain ⟨i1, i2, _⟩ := ih fun u hu => hk u (List.mem_append_left _ hu)
    have ho := hk o (by simp)
    have hl : (m ++ [o]).getD ((m ++ [o]).length - 1) o0 = o := by simp [List.getD_eq_getElem?_getD]
    rw [List.foldl_append, List.foldl_cons, List.foldl_nil, trail_snoc, hl]
    generalize m.foldl stepP z0 = x at i1 i2 ⊢
    have hko : o.kind = o.2.2.2.1 := rfl
    have hkb : o.box = o.2.2.2.2.1 := rfl
    unfold stepP
    rcases ho with e | e
    · rw [if_neg (by rw [← hko, e]; decide), if_pos e]
      refine ⟨insC_srt cmpV_cmp _ i1, fun y => ?_, fun _ => ⟨rfl, by rw [if_pos e]; rfl⟩⟩
      rw [insC_mem cmpV_cmp, i2, List.mem_cons]; rfl
    · rw [if_pos (by rw [← hko, e]), if_neg (by rw [e]; decide)]
      exact ⟨List.Pairwise.nil, fun y => Iff.rfl, fun _ => ⟨rfl, by rw [if_neg (by rw [e]; decide)]⟩⟩
theorem placeR_eq {m : List Opn} (hk : ∀ o ∈ m, o.kind = 1 ∨ o.kind = 2) (hm : m ≠ []) : m.foldl stepP z0 = placeV m := by
  obtain ⟨h1, h2, h3⟩ := placeR_spec m hk
  obtain ⟨h3, h4⟩ := h3 hm
  obtain ⟨c1, c2⟩ := compV_spec (trail m)
  unfold placeV
  refine Prod.ext h3 (Prod.ext h4 ?_)
  exact strict_ext (fun x y => Cmp.as cmpV_cmp x y) h1 c1 fun x => (h2 x).trans (c2 x).symm
theorem placeR_len (m : List Opn) : (m.foldl stepP z0).2.2.length ≤ m.length := by
  refine snoc_ind (P := fun m => (m.foldl stepP z0).2.2.length ≤ m.length) (by simp [z0]) (fun m o ih => ?_) m
  rw [List.foldl_append, List.foldl_cons, List.foldl_nil, List.length_append, List.length_singleton]
  generalize m.foldl stepP z0 = x at ih ⊢
  unfold stepP
  split
  · simp
  · have := insC_len (c := cmpV) o.2.2.2.2.1 x.2.2
    simp only
    omega
/-- The plates, inserted one after the other. -/
def platesR (l : List Opn) : List Plt := l.foldl (fun ks o => insC pltC ks o.plate) []
theorem platesR_snoc (l : List Opn) (o : Opn) : platesR (l ++ [o]) = insC pltC (platesR l) o.plate := by simp [platesR]
theorem platesR_spec (l : List Opn) : (platesR l).Pairwise (fun a b => pltC a b < 0) ∧ ∀ x, x ∈ platesR l ↔ ∃ o ∈ l, o.plate = x := by
  refine snoc_ind (P := fun l => (platesR l).Pairwise (fun a b => pltC a b < 0) ∧ ∀ x, x ∈ platesR l ↔ ∃ o ∈ l, o.plate = x) (by simp [platesR]) (fun l o ih => ?_) l
  rw [platesR_snoc]
  refine ⟨insC_srt pltC_cmp _ ih.1, fun x => ?_⟩
  rw [insC_mem pltC_cmp, ih.2]
  constructor
  · rintro (h | ⟨u, hu, e⟩)
    · exact ⟨o, by simp, h.symm⟩
    · exact ⟨u, List.mem_append_left _ hu, e⟩
  · rintro ⟨u, hu, e⟩
    rcases List.mem_append.1 hu with h | h
    · exact .inr ⟨u, h, e⟩
    · have : u = o := by simpa using h
      subst this; exact .inl e.symm
theorem platesR_len (l : List Opn) : (platesR l).length ≤ l.length := by
  refine snoc_ind (P := fun l => (platesR l).length ≤ l.length) (by simp [platesR]) (fun l o ih => ?_) l
  rw [platesR_snoc, List.length_append, List.length_singleton]
  have := insC_len (c := pltC) o.plate (platesR l)
  omega
theorem platesR_eq (l : List Opn) : platesR l = sortBy pltC (abK l) := by
  obtain ⟨h1, h2⟩ := platesR_spec l
  have hp := sortBy_perm pltC (abK l)
  have hn : (sortBy pltC (abK l)).Nodup := hp.nodup_iff.2 (abK_nodup l)
  have hs : (sortBy pltC (abK l)).Pairwise (fun a b => pltC a b < 0) := by
    have := (sortBy_sorted pltC_cmp (abK l)).and hn
    refine this.imp fun {a b} h => ?_
    have : pltC a b ≠ 0 := fun q => h.2 ((pltC_cmp.eq _ _).1 q)
    omega
  refine strict_ext (fun x y => Cmp.as pltC_cmp x y) h1 hs fun x => ?_
  rw [h2, hp.mem_iff, abK_mem]
theorem okOp_kind {o : Opn} (h : okOp o = true) : o.kind = 1 ∨ o.kind = 2 := by
  unfold okOp at h
  simp only [Bool.and_eq_true, Bool.or_eq_true, decide_eq_true_eq] at h
  exact h.1.1.2
/-- The places that the specification builds. -/
def placesR (l : List Opn) : List Plc := if valV l ≠ 0 then [] else (platesR l).map (fun p => (aboutP l p).foldl stepP z0)
theorem placesR_eq (l : List Opn) : placesR l = placesV l := by
  unfold placesR placesV
  by_cases h : valV l ≠ 0
  · rw [if_pos h, if_pos h]
  · rw [if_neg h, if_neg h, platesR_eq]
    refine List.map_congr_left fun p hp => ?_
    have ok := OkL.of (l := l) (by simpa using h)
    exact placeR_eq (fun o ho => okOp_kind (ok.ok o (List.mem_filter.1 ho).1)) (about_ne hp)
end Go.Proofs.Ythiddcobegnokaa
