/- The contracts of the generators: Plate, Pick, Piece, Part; and SameOps. -/
import Derived.Test.YthiddcobegnokaaMgJToR
set_option linter.unusedSimpArgs false
set_option linter.unusedVariables false
set_option maxRecDepth 100000
set_option maxHeartbeats 4000000
namespace Go.Proofs.Ythiddcobegnokaa
open Go.Ev

theorem step_pos {s : Src} (h : 0 ≤ s.2) : 0 ≤ (Src.step s).2 := Src.step_pos s h
def con62 : Con := { ps := [.p 74 (.pair (.sl (.int .i64)) (.int .i64)), .d false (.int .i64)], rs := [.d true (.pair (.int .i64) (.pair (.int .i64) (.int .i64)))], pre := fun x => 0 ≤ x.1.2, out := fun x => (platesV (goMod (Src.raw x.1) x.2.1), ()), nw := fun x => (Src.step x.1, x.2) }
theorem c62 : CtrOk Try.prog 62 con62.ctr :=
  con_sound (G := ⟨[(39, con39.ctr), (68, con68.ctr)], [], [], []⟩) tab_ok (EnvOk.cons c39 has39 (EnvOk.cons c68 has68 EnvOk.nil)) rfl Try.func62 rfl con62 19 (by kernel_rfl) (by decide) (by decide) rfl (by decide) rfl (by
    rintro ⟨⟨(s : List Int), (a : Int)⟩, (n : Int), _⟩ hpre hwf X hT hG hk hK
    (simp -implicitDefEqProofs only [go_sem, Prod.eta, Option.isSome_none, Option.isSome_some, Int.toNat_zero, Nat.reduceAdd, Nat.reduceMul, Nat.reduceSub, Nat.reduceEqDiff, Nat.reduceLT, Nat.reduceLeDiff, Nat.reduceShiftRight, Nat.reduceMod, Nat.reduceBEq, reduceCtorEq, reduceIte, reduceDIte, Int.reduceNeg, Bool.not_eq_true', Bool.not_eq_false', Bool.or_eq_true, Bool.or_eq_false_iff, Bool.and_eq_true, Bool.and_eq_false_iff, decide_eq_true_eq, decide_eq_false_iff_not, Classical.not_not, not_or, maxLen, con62, con39, con68, hT, hG, hk, hK, Try.results62] at hwf ⊢); (try simp (disch := decide +kernel) only [drawn, true_and, and_true])
    exact hpre)
def con41 : Con := { ps := [.p 74 (.pair (.sl (.int .i64)) (.int .i64)), .d false (.sl (.int .i64))], rs := [.d false (.int .i64)], pre := fun (x : Src × List Int × Unit) => 0 ≤ x.1.2 ∧ 0 < x.2.1.length, out := fun (x : Src × List Int × Unit) => (x.2.1.getD (goMod (Src.raw x.1) x.2.1.length).toNat 0, ()), nw := fun x => (Src.step x.1, x.2) }
theorem c41 : CtrOk Try.prog 41 con41.ctr :=
  con_sound (G := ⟨[(39, con39.ctr)], [], [], []⟩) tab_ok (EnvOk.cons c39 has39 EnvOk.nil) rfl Try.func41 rfl con41 19 (by kernel_rfl) (by decide) (by decide) rfl (by decide) rfl (by
    rintro ⟨⟨(s : List Int), (a : Int)⟩, (l : List Int), _⟩ hpre hwf X hT hG hk hK
    (simp -implicitDefEqProofs only [go_sem, Prod.eta, Option.isSome_none, Option.isSome_some, Int.toNat_zero, Nat.reduceAdd, Nat.reduceMul, Nat.reduceSub, Nat.reduceEqDiff, Nat.reduceLT, Nat.reduceLeDiff, Nat.reduceShiftRight, Nat.reduceMod, Nat.reduceBEq, reduceCtorEq, reduceIte, reduceDIte, Int.reduceNeg, Bool.not_eq_true', Bool.not_eq_false', Bool.or_eq_true, Bool.or_eq_false_iff, Bool.and_eq_true, Bool.and_eq_false_iff, decide_eq_true_eq, decide_eq_false_iff_not, Classical.not_not, not_or, maxLen, con41, con39, hT, hG, hk, hK, Try.results41] at hwf ⊢); (try simp (disch := decide +kernel) only [drawn, true_and, and_true])
    obtain ⟨h1, h2⟩ : 0 ≤ a ∧ 0 < l.length := hpre
    have hb := goMod_bd (Src.raw (s, a)) l.length (by omega)
    (repeat' (with_reducible (first | refine And.intro ?_ ?_ | intro _))) <;> (try (first | with_reducible (first | done | assumption | omega | contradiction) | decide)))
theorem platesV_ok (i : Int) : okPl (platesV i) = true := by
  have hb := goMod_bd i 1000 (by omega)
  have h1 : 0 ≤ (goMod i 1000).tdiv 100 := Int.tdiv_nonneg hb.1 (by omega)
  have h2 : 0 ≤ ((goMod i 1000).tdiv 100).tmod 5 := Int.tmod_nonneg 5 h1
  have h3 := tmod_bd ((goMod i 1000).tdiv 100) 5 (by omega)
  have h4 : 0 ≤ (goMod i 1000).tmod 100 := Int.tmod_nonneg 100 hb.1
  have h5 := tmod_bd (goMod i 1000) 100 (by omega)
  have h6 : 0 ≤ (goMod i 1000).tdiv 500 := Int.tdiv_nonneg hb.1 (by omega)
  have h7 : (goMod i 1000).tdiv 500 ≤ 9 := by
    rw [Int.tdiv_eq_ediv_of_nonneg hb.1]; omega
  unfold okPl platesV inV
  simp only [Bool.and_eq_true, decide_eq_true_eq]
  omega
def pieceV (s : Src) (n : Int) : Pce := (platesV (goMod (Src.raw s) n), 1 + goMod (Src.raw (Src.step s)) 40, [0, 0, 0, 1, 1, 2, 3, 4].getD (goMod (Src.raw (Src.step (Src.step s))) 8).toNat 0)
theorem pieceV_ok (s : Src) (n : Int) : okPc (pieceV s n) = true := by
  have hA := goMod_bd (Src.raw (Src.step s)) 40 (by omega)
  have hB := goMod_bd (Src.raw (Src.step (Src.step s))) 8 (by omega)
  have hw : ∀ k : Int, 0 ≤ k ∧ k < 8 → 0 ≤ [0, 0, 0, 1, 1, 2, 3, 4].getD k.toNat (0 : Int) ∧ [0, 0, 0, 1, 1, 2, 3, 4].getD k.toNat (0 : Int) ≤ 4 := fun k hk => by
    rcases (by omega : k = 0 ∨ k = 1 ∨ k = 2 ∨ k = 3 ∨ k = 4 ∨ k = 5 ∨ k = 6 ∨ k = 7) with rfl | rfl | rfl | rfl | rfl | rfl | rfl | rfl <;> decide
  have hw := hw _ hB
  unfold okPc inV pieceV
  simp only [platesV_ok, Bool.and_eq_true, decide_eq_true_eq, true_and]
  exact ⟨⟨by omega, by omega⟩, hw.1, hw.2⟩
def con40 : Con := { ps := [.p 74 (.pair (.sl (.int .i64)) (.int .i64)), .d false (.int .i64)], rs := [.d true (.pair (.pair (.int .i64) (.pair (.int .i64) (.int .i64))) (.pair (.int .i64) (.int .i64)))], pre := fun (x : Src × Int × Unit) => 0 ≤ x.1.2, out := fun (x : Src × Int × Unit) => (pieceV x.1 x.2.1, ()), nw := fun (x : Src × Int × Unit) => (Src.step (Src.step (Src.step x.1)), x.2) }
theorem c40 : CtrOk Try.prog 40 con40.ctr :=
  con_sound (G := ⟨[(39, con39.ctr), (41, con41.ctr), (62, con62.ctr)], [], [], []⟩) tab_ok (EnvOk.cons c39 has39 (EnvOk.cons c41 has41 (EnvOk.cons c62 has62 EnvOk.nil))) rfl Try.func40 rfl con40 19 (by kernel_rfl) (by decide) (by decide) rfl (by decide) rfl (by
    rintro ⟨⟨(s : List Int), (a : Int)⟩, (n : Int), _⟩ hpre hwf X hT hG hk hK
    (simp -implicitDefEqProofs only [go_sem, Prod.eta, Option.isSome_none, Option.isSome_some, Int.toNat_zero, Nat.reduceAdd, Nat.reduceMul, Nat.reduceSub, Nat.reduceEqDiff, Nat.reduceLT, Nat.reduceLeDiff, Nat.reduceShiftRight, Nat.reduceMod, Nat.reduceBEq, reduceCtorEq, reduceIte, reduceDIte, Int.reduceNeg, Bool.not_eq_true', Bool.not_eq_false', Bool.or_eq_true, Bool.or_eq_false_iff, Bool.and_eq_true, Bool.and_eq_false_iff, decide_eq_true_eq, decide_eq_false_iff_not, Classical.not_not, not_or, maxLen, con40, con39, con41, con62, hT, hG, hk, hK, Try.results40] at hwf ⊢); (try simp (disch := decide +kernel) only [drawn, true_and, and_true])
    have h1 : 0 ≤ a := hpre
    have hs1 : 0 ≤ (Src.step (s, a)).snd := step_pos h1
    have hs2 : 0 ≤ (Src.step (s, a)).step.snd := step_pos hs1
    have hs3 : 0 ≤ (Src.step (s, a)).step.step.snd := step_pos hs2
    have hA := goMod_bd (Src.step (s, a)).raw 40 (by omega)
    (repeat' (with_reducible (first | refine And.intro ?_ ?_ | intro _))) <;> (try (first | with_reducible (first | done | assumption | omega | contradiction) | decide))
    all_goals try rfl)
def con18 : RCon := { ps := [.p 74 (.pair (.sl (.int .i64)) (.int .i64)), .d false (.sl (.pair (.int .i64) (.pair (.int .i64) (.pair (.int .i64) (.pair (.int .i64) (.pair (.int .i64) (.pair (.pair (.int .i64) (.pair (.int .i64) (.int .i64))) (.pair (.int .i64) (.int .i64)))))))))], rs := [.d false (.sl (.pair (.int .i64) (.pair (.int .i64) (.pair (.int .i64) (.pair (.int .i64) (.pair (.int .i64) (.pair (.pair (.int .i64) (.pair (.int .i64) (.int .i64))) (.pair (.int .i64) (.int .i64)))))))))], pre := fun (x : Src × List Opn × Unit) => 0 ≤ x.1.2 ∧ x.2.1.length ≤ 1000, rel := fun (x : Src × List Opn × Unit) (y : List Opn × Unit) (z : Src × List Opn × Unit) => 0 ≤ z.1.2 ∧ y.1.Sublist x.2.1 }
theorem c18 : RCtrOk Try.prog 18 con18.rctr :=
  rcon_sound (G := ⟨[(39, con39.ctr)], [], [], []⟩) tab_ok (EnvOk.cons c39 has39 EnvOk.nil) rfl Try.func18 rfl con18 18291 (by kernel_rfl) (by decide) (by decide) rfl (by decide) rfl (by
    rintro ⟨⟨(s : List Int), (a : Int)⟩, (l : List Opn), _⟩ hpre hwf X hT hG hk hK
    (simp -implicitDefEqProofs only [go_sem, Prod.eta, Option.isSome_none, Option.isSome_some, Int.toNat_zero, Nat.reduceAdd, Nat.reduceMul, Nat.reduceSub, Nat.reduceEqDiff, Nat.reduceLT, Nat.reduceLeDiff, Nat.reduceShiftRight, Nat.reduceMod, Nat.reduceBEq, reduceCtorEq, reduceIte, reduceDIte, Int.reduceNeg, Bool.not_eq_true', Bool.not_eq_false', Bool.or_eq_true, Bool.or_eq_false_iff, Bool.and_eq_true, Bool.and_eq_false_iff, decide_eq_true_eq, decide_eq_false_iff_not, Classical.not_not, not_or, maxLen, con18, con39, hT, hG, hk, hK, Try.results18] at hwf ⊢); (try simp (disch := decide +kernel) only [drawn, true_and, and_true])
    obtain ⟨h1, h2⟩ : 0 ≤ a ∧ l.length ≤ 1000 := hpre
    intro _
    refine evk_loop ⟨{ q : Src × List Opn × Nat // 0 ≤ q.1.2 ∧ q.2.1.Sublist (l.take q.2.2) ∧ q.2.2 ≤ l.length }, 1000, fun q => [(0, .one (.loc 0 0)), (1, .one (.sl (.pair (.int .i64) (.pair (.int .i64) (.pair (.int .i64) (.pair (.int .i64) (.pair (.int .i64) (.pair (.pair (.int .i64) (.pair (.int .i64) (.int .i64))) (.pair (.int .i64) (.int .i64)))))))) l false)), (5, .one (.row 64)), (8, .one (.int .i64 l.length)), (9, .one (.int .i64 q.1.2.2))], fun q => [(0, .cells 74 [.sl (.int .i64) q.1.1.1 false, .int .i64 q.1.1.2]), (64, .row 37 (.pair (.int .i64) (.pair (.int .i64) (.pair (.int .i64) (.pair (.int .i64) (.pair (.int .i64) (.pair (.pair (.int .i64) (.pair (.int .i64) (.int .i64))) (.pair (.int .i64) (.int .i64)))))))) q.1.2.1)], fun q => l.length - q.1.2.2⟩ ⟨((s, a), [], 0), h1, List.nil_sublist _, by simp⟩ ?_ ?_
    · simp only [go_sem, Prod.eta, Option.isSome_none, Option.isSome_some, Int.toNat_zero, Nat.reduceAdd, Nat.reduceMul, Nat.reduceSub, Nat.reduceEqDiff, Nat.reduceLT, Nat.reduceLeDiff, Nat.reduceShiftRight, Nat.reduceMod, Nat.reduceBEq, reduceCtorEq, reduceIte, reduceDIte, Int.reduceNeg]
      try (first | rfl | exact ⟨rfl, rfl⟩)
    · rintro ⟨⟨⟨s, a⟩, A, i⟩, (h1 : 0 ≤ a), (hA : A.Sublist (l.take i)), (hi : i ≤ l.length)⟩
      (simp -implicitDefEqProofs only [go_sem, Prod.eta, Option.isSome_none, Option.isSome_some, Int.toNat_zero, Nat.reduceAdd, Nat.reduceMul, Nat.reduceSub, Nat.reduceEqDiff, Nat.reduceLT, Nat.reduceLeDiff, Nat.reduceShiftRight, Nat.reduceMod, Nat.reduceBEq, reduceCtorEq, reduceIte, reduceDIte, Int.reduceNeg, Bool.not_eq_true', Bool.not_eq_false', Bool.or_eq_true, Bool.or_eq_false_iff, Bool.and_eq_true, Bool.and_eq_false_iff, decide_eq_true_eq, decide_eq_false_iff_not, Classical.not_not, not_or, maxLen, con18, con39, hT, hG, hk, hK, Try.results18]); (try simp (disch := decide +kernel) only [drawn, true_and, and_true])
      have hs1 : 0 ≤ (Src.step (s, a)).snd := step_pos h1
      have hAl : A.length ≤ i := Nat.le_trans hA.length_le (by simp; omega)
      refine ⟨fun hlt => ?_, fun hge => ?_⟩
      · have hil : i < l.length := by omega
        obtain ⟨o, ho⟩ : ∃ o, l[i] = o := ⟨_, rfl⟩
        have eo : l.getD (i : Int).toNat (0, 0, 0, 0, 0, (0, 0, 0), 0, 0) = o := by rw [← ho]; simp [hil]
        have hts : l.take (i + 1) = l.take i ++ [o] := by rw [List.take_succ_eq_append_getElem hil, ho]
        rw [eo]
        (repeat' (with_reducible (first | refine And.intro ?_ ?_ | intro _))) <;> (try (first | with_reducible (first | done | assumption | omega | contradiction) | decide))
        all_goals first
          | (refine fin_lp ⟨(Src.step (s, a), A ++ [o], i + 1), hs1, (by show (A ++ [o]).Sublist (l.take (i + 1)); rw [hts]; exact hA.append_right _), (by show i + 1 ≤ l.length; omega)⟩ ?_ ?_; (simp only [go_sem, Prod.eta, Option.isSome_none, Option.isSome_some, Int.toNat_zero, Nat.reduceAdd, Nat.reduceMul, Nat.reduceSub, Nat.reduceEqDiff, Nat.reduceLT, Nat.reduceLeDiff, Nat.reduceShiftRight, Nat.reduceMod, Nat.reduceBEq, reduceCtorEq, reduceIte, reduceDIte, Int.reduceNeg]; try (first | rfl | exact ⟨rfl, rfl⟩ | (and_intros <;> first | rfl | omega))); (dsimp only; omega))
          | (refine fin_lp ⟨(Src.step (s, a), A, i + 1), hs1, (by show A.Sublist (l.take (i + 1)); rw [hts]; exact hA.trans (List.sublist_append_left _ _)), (by show i + 1 ≤ l.length; omega)⟩ ?_ ?_; (simp only [go_sem, Prod.eta, Option.isSome_none, Option.isSome_some, Int.toNat_zero, Nat.reduceAdd, Nat.reduceMul, Nat.reduceSub, Nat.reduceEqDiff, Nat.reduceLT, Nat.reduceLeDiff, Nat.reduceShiftRight, Nat.reduceMod, Nat.reduceBEq, reduceCtorEq, reduceIte, reduceDIte, Int.reduceNeg]; try (first | rfl | exact ⟨rfl, rfl⟩ | (and_intros <;> first | rfl | omega))); (dsimp only; omega))
          | skip
      · exact ⟨(A, ()), ((s, a), l, ()), ⟨h1, hA.trans (List.take_sublist _ _)⟩, rfl, rfl, rfl⟩)
def sameV (a b : List Opn) : Bool := decide (a = b)
def con21 : Con := { ps := [.d false (.sl (.pair (.int .i64) (.pair (.int .i64) (.pair (.int .i64) (.pair (.int .i64) (.pair (.int .i64) (.pair (.pair (.int .i64) (.pair (.int .i64) (.int .i64))) (.pair (.int .i64) (.int .i64))))))))), .d false (.sl (.pair (.int .i64) (.pair (.int .i64) (.pair (.int .i64) (.pair (.int .i64) (.pair (.int .i64) (.pair (.pair (.int .i64) (.pair (.int .i64) (.int .i64))) (.pair (.int .i64) (.int .i64)))))))))], rs := [.d false .bool], pre := fun x => True, out := fun (x : List Opn × List Opn × Unit) => (sameV x.1 x.2.1, ()), nw := id }
theorem c21 : CtrOk Try.prog 21 con21.ctr :=
  con_sound (G := ⟨[], [], [], []⟩) tab_ok EnvOk.nil rfl Try.func21 rfl con21 33571891 (by kernel_rfl) (by decide) (by decide) rfl (by decide) rfl (by
    rintro ⟨(a : List Opn), (b : List Opn), _⟩ hpre hwf X hT hG hk hK
    (simp -implicitDefEqProofs only [go_sem, Prod.eta, Option.isSome_none, Option.isSome_some, Int.toNat_zero, Nat.reduceAdd, Nat.reduceMul, Nat.reduceSub, Nat.reduceEqDiff, Nat.reduceLT, Nat.reduceLeDiff, Nat.reduceShiftRight, Nat.reduceMod, Nat.reduceBEq, reduceCtorEq, reduceIte, reduceDIte, Int.reduceNeg, Bool.not_eq_true', Bool.not_eq_false', Bool.or_eq_true, Bool.or_eq_false_iff, Bool.and_eq_true, Bool.and_eq_false_iff, decide_eq_true_eq, decide_eq_false_iff_not, Classical.not_not, not_or, maxLen, con21, hT, hG, hk, hK, Try.results21] at hwf ⊢); (try simp (disch := decide +kernel) only [drawn, true_and, and_true])
    refine fun _ _ => ⟨fun hne => ?_, fun hq => ?_⟩
    · unfold sameV; rw [eq_comm, decide_eq_false_iff_not]; intro q; subst q; exact hne rfl
    · have hq : a.length = b.length := by omega
      refine evk_loop ⟨{ i : Nat // i ≤ a.length ∧ a.take i = b.take i }, 1000, fun q => [(0, .one (.sl (.pair (.int .i64) (.pair (.int .i64) (.pair (.int .i64) (.pair (.int .i64) (.pair (.int .i64) (.pair (.pair (.int .i64) (.pair (.int .i64) (.int .i64))) (.pair (.int .i64) (.int .i64)))))))) a false)), (1, .one (.sl (.pair (.int .i64) (.pair (.int .i64) (.pair (.int .i64) (.pair (.int .i64) (.pair (.int .i64) (.pair (.pair (.int .i64) (.pair (.int .i64) (.int .i64))) (.pair (.int .i64) (.int .i64)))))))) b false)), (5, .one (.int .i64 q.1))], fun q => [], fun q => a.length - q.1⟩ ⟨0, by simp, by simp⟩ ?_ ?_
      · simp only [go_sem, Prod.eta, Option.isSome_none, Option.isSome_some, Int.toNat_zero, Nat.reduceAdd, Nat.reduceMul, Nat.reduceSub, Nat.reduceEqDiff, Nat.reduceLT, Nat.reduceLeDiff, Nat.reduceShiftRight, Nat.reduceMod, Nat.reduceBEq, reduceCtorEq, reduceIte, reduceDIte, Int.reduceNeg]
        try (first | rfl | exact ⟨rfl, rfl⟩)
      · rintro ⟨i, (hi : i ≤ a.length), (he : a.take i = b.take i)⟩
        (simp -implicitDefEqProofs only [go_sem, Prod.eta, Option.isSome_none, Option.isSome_some, Int.toNat_zero, Nat.reduceAdd, Nat.reduceMul, Nat.reduceSub, Nat.reduceEqDiff, Nat.reduceLT, Nat.reduceLeDiff, Nat.reduceShiftRight, Nat.reduceMod, Nat.reduceBEq, reduceCtorEq, reduceIte, reduceDIte, Int.reduceNeg, Bool.not_eq_true', Bool.not_eq_false', Bool.or_eq_true, Bool.or_eq_false_iff, Bool.and_eq_true, Bool.and_eq_false_iff, decide_eq_true_eq, decide_eq_false_iff_not, Classical.not_not, not_or, maxLen, con21, hT, hG, hk, hK, Try.results21]); (try simp (disch := decide +kernel) only [drawn, true_and, and_true])
        refine fun _ => ⟨fun hlt => ?_, fun hge => ?_⟩
        · have hil : i < a.length := by omega
          have hil2 : i < b.length := by omega
          obtain ⟨o, ho⟩ : ∃ o, a[i] = o := ⟨_, rfl⟩
          obtain ⟨u, hu⟩ : ∃ u, b[i] = u := ⟨_, rfl⟩
          have eo : a.getD (i : Int).toNat (0, 0, 0, 0, 0, (0, 0, 0), 0, 0) = o := by rw [← ho]; simp [hil]
          have eu : b.getD (i : Int).toNat (0, 0, 0, 0, 0, (0, 0, 0), 0, 0) = u := by rw [← hu]; simp [hil2]
          rw [eo, eu]
          simp only [ne_comp, eq_comp]
          (repeat' (with_reducible (first | refine And.intro ?_ ?_ | intro _))) <;> (try (first | with_reducible (first | done | assumption | omega | contradiction) | decide))
          · have hne : o ≠ u := by assumption
            unfold sameV
            rw [eq_comm, decide_eq_false_iff_not]
            intro q
            subst q
            exact hne (ho.symm.trans hu)
          · have hne : o = u := by first | assumption | (apply Decidable.byContradiction; assumption)
            refine fin_lp ⟨i + 1, hil, ?_⟩ ?_ (by dsimp only; omega)
            · show a.take (i + 1) = b.take (i + 1)
              rw [List.take_succ_eq_append_getElem hil, List.take_succ_eq_append_getElem hil2, he, ho, hu, hne]
            · simp only [go_sem, Prod.eta, Option.isSome_none, Option.isSome_some, Int.toNat_zero, Nat.reduceAdd, Nat.reduceMul, Nat.reduceSub, Nat.reduceEqDiff, Nat.reduceLT, Nat.reduceLeDiff, Nat.reduceShiftRight, Nat.reduceMod, Nat.reduceBEq, reduceCtorEq, reduceIte, reduceDIte, Int.reduceNeg]
              try (first | rfl | exact ⟨rfl, rfl⟩ | (and_intros <;> first | rfl | omega))
        · unfold sameV
          rw [eq_comm, decide_eq_true_eq]
          rw [List.take_of_length_le (by omega), List.take_of_length_le (by omega)] at he
          exact he)
def con12 : RCon := { ps := [.p 74 (.pair (.sl (.int .i64)) (.int .i64)), .d false (.sl (.pair (.int .i64) (.pair (.int .i64) (.pair (.int .i64) (.pair (.int .i64) (.pair (.int .i64) (.pair (.pair (.int .i64) (.pair (.int .i64) (.int .i64))) (.pair (.int .i64) (.int .i64)))))))))], rs := [.d false (.sl (.pair (.int .i64) (.pair (.int .i64) (.pair (.int .i64) (.pair (.int .i64) (.pair (.int .i64) (.pair (.pair (.int .i64) (.pair (.int .i64) (.int .i64))) (.pair (.int .i64) (.int .i64)))))))))], pre := fun (x : Src × List Opn × Unit) => 0 ≤ x.1.2 ∧ x.2.1.length ≤ 1000, rel := fun (x : Src × List Opn × Unit) (y : List Opn × Unit) (z : Src × List Opn × Unit) => 0 ≤ z.1.2 ∧ y.1.length ≤ x.2.1.length + 1 }
theorem c12 : RCtrOk Try.prog 12 con12.rctr :=
  rcon_sound (G := ⟨[(39, con39.ctr), (41, con41.ctr)], [], [], []⟩) tab_ok (EnvOk.cons c39 has39 (EnvOk.cons c41 has41 EnvOk.nil)) rfl Try.func12 rfl con12 4629771061636894835 (by kernel_rfl) (by decide) (by decide) rfl (by decide) rfl (by
    rintro ⟨⟨(s : List Int), (a : Int)⟩, (l : List Opn), _⟩ hpre hwf X hT hG hk hK
    (simp -implicitDefEqProofs only [go_sem, Prod.eta, Option.isSome_none, Option.isSome_some, Int.toNat_zero, Nat.reduceAdd, Nat.reduceMul, Nat.reduceSub, Nat.reduceEqDiff, Nat.reduceLT, Nat.reduceLeDiff, Nat.reduceShiftRight, Nat.reduceMod, Nat.reduceBEq, reduceCtorEq, reduceIte, reduceDIte, Int.reduceNeg, Bool.not_eq_true', Bool.not_eq_false', Bool.or_eq_true, Bool.or_eq_false_iff, Bool.and_eq_true, Bool.and_eq_false_iff, decide_eq_true_eq, decide_eq_false_iff_not, Classical.not_not, not_or, maxLen, con12, con39, con41, hT, hG, hk, hK, Try.results12] at hwf ⊢); (try simp (disch := decide +kernel) only [drawn, true_and, and_true])
    obtain ⟨h1, h2⟩ : 0 ≤ a ∧ l.length ≤ 1000 := hpre
    have hs1 : 0 ≤ (Src.step (s, a)).snd := step_pos h1
    have hs2 : 0 ≤ (Src.step (s, a)).step.snd := step_pos hs1
    have hs3 : 0 ≤ (Src.step (s, a)).step.step.snd := step_pos hs2
    have hB : ¬ (l.length : Int) = 0 → 0 ≤ goMod (Src.raw (s, a)) l.length ∧ goMod (Src.raw (s, a)) l.length < l.length := fun h => goMod_bd _ _ (by omega)
    generalize goMod (Src.raw (s, a)) l.length = B at hB ⊢
    refine ⟨by omega, fun _ => ⟨fun h => ⟨by omega, ?_⟩, fun h _ => ?_⟩⟩
    · exact ⟨(l ++ [_], ()), ((s, a), l, ()), ⟨h1, by simp⟩, rfl, rfl, rfl⟩
    · have hB := hB h
      (repeat' (with_reducible (first | refine And.intro ?_ ?_ | intro _))) <;> (try (first | with_reducible (first | done | assumption | omega | contradiction) | decide))
      all_goals first | (simp only [List.length_set]; omega) | exact ⟨(_, ()), ((_, _), l, ()), ⟨by first | exact hs3 | exact hs2, by simp⟩, rfl, rfl, rfl⟩)
end Go.Proofs.Ythiddcobegnokaa

/- The contract of Ops. -/
set_option linter.unusedSimpArgs false
set_option linter.unusedVariables false
set_option maxRecDepth 100000
set_option maxHeartbeats 8000000
namespace Go.Proofs.Ythiddcobegnokaa
open Go.Ev

theorem rep_at (d : Nat) : (List.replicate 5 (0 : Int)).getD d 0 = 0 := by
  rw [List.getD_eq_getElem?_getD, List.getElem?_replicate]
  split <;> rfl
theorem tdiv_bd (x m n : Int) (h0 : 0 ≤ x) (h1 : x ≤ m) (h : 0 < n) : 0 ≤ x.tdiv n ∧ x.tdiv n ≤ m.tdiv n := by
  rw [Int.tdiv_eq_ediv_of_nonneg h0, Int.tdiv_eq_ediv_of_nonneg (by omega)]
  exact ⟨Int.ediv_nonneg h0 (by omega), Int.ediv_le_ediv h h1⟩
theorem ins_shift (l : List Opn) (z o : Opn) (i : Nat) (hi : i ≤ l.length) :
    (List.take (i + 1) (l ++ [z]) ++ (List.take (min (l.length - i) (List.drop i (List.take (i + (l.length + 1 - i)) (l ++ [z]))).length) (List.drop i (List.take (i + (l.length + 1 - i)) (l ++ [z]))) ++ List.drop (i + 1 + min (l.length - i) (List.drop i (List.take (i + (l.length + 1 - i)) (l ++ [z]))).length) (l ++ [z]))).length = l.length + 1
    ∧ (List.take (i + 1) (l ++ [z]) ++ (List.take (min (l.length - i) (List.drop i (List.take (i + (l.length + 1 - i)) (l ++ [z]))).length) (List.drop i (List.take (i + (l.length + 1 - i)) (l ++ [z]))) ++ List.drop (i + 1 + min (l.length - i) (List.drop i (List.take (i + (l.length + 1 - i)) (l ++ [z]))).length) (l ++ [z]))).set i o = l.take i ++ o :: l.drop i := by
  have h1 : List.take (i + (l.length + 1 - i)) (l ++ [z]) = l ++ [z] := List.take_of_length_le (by simp; omega)
  have h2 : List.drop i (l ++ [z]) = List.drop i l ++ [z] := List.drop_append_of_le_length hi
  have h3 : (List.drop i l ++ [z]).length = l.length - i + 1 := by simp
  have hl : i < (l ++ [z]).length := by simp; omega
  have h4 : List.take (i + 1) (l ++ [z]) = List.take i l ++ [(l ++ [z])[i]] := by rw [List.take_succ_eq_append_getElem hl, List.take_append_of_le_length hi]
  have h5 : min (l.length - i) (l.length - i + 1) = l.length - i := by omega
  have h6 : List.drop (i + 1 + (l.length - i)) (l ++ [z]) = [] := List.drop_of_length_le (by simp; omega)
  have h7 : List.take (l.length - i) (List.drop i l ++ [z]) = List.drop i l := by
    rw [List.take_append_of_le_length (by simp), List.take_of_length_le (by simp)]
  have h8 : (List.take i l).length = i := by simp; omega
  rw [h1, h2, h3, h5, h6, h4, h7, List.append_nil, List.append_assoc]
  constructor
  · simp; omega
  · rw [List.set_append_right _ _ (by omega), h8, Nat.sub_self]
    rfl
/-- What Ops gives. -/
structure OpsR (c : Int) (l : List Opn) : Prop where
  okl : OkL l
  len : l.length ≤ 30
  dv : ∀ o ∈ l, 1 ≤ o.2.1 ∧ o.2.1 ≤ 4
  tm : ∀ o ∈ l, o.1 ≤ 100
  bx : ∀ o ∈ l, 1 ≤ o.2.2.2.2.1 ∧ o.2.2.2.2.1 ≤ c
structure OInv (c t : Int) (k : Int) (sq : List Int) (l : List Opn) : Prop where
  gn : Gn l t sq
  kl : (l.length : Int) + k ≤ 30
  t0 : 0 ≤ t
  t1 : t ≤ 2 * l.length
  sl : sq.length = 5
  s0 : ∀ d, 0 ≤ sq.getD d 0
  s1 : ∀ d, sq.getD d 0 ≤ 2 * l.length
  bx : ∀ o ∈ l, 1 ≤ o.2.2.2.2.1 ∧ o.2.2.2.2.1 ≤ c
def con11 : RCon := { ps := [.p 74 (.pair (.sl (.int .i64)) (.int .i64)), .d false (.int .i64), .d false (.int .i64), .d false (.int .i64)], rs := [.d false (.sl (.pair (.int .i64) (.pair (.int .i64) (.pair (.int .i64) (.pair (.int .i64) (.pair (.int .i64) (.pair (.pair (.int .i64) (.pair (.int .i64) (.int .i64))) (.pair (.int .i64) (.int .i64)))))))))], pre := fun (x : Src × Int × Int × Int × Unit) => 0 ≤ x.1.2 ∧ x.2.1 ≤ 30 ∧ 0 ≤ x.2.1 ∧ 1 ≤ x.2.2.2.1 ∧ x.2.2.2.1 ≤ 900, rel := fun (x : Src × Int × Int × Int × Unit) (y : List Opn × Unit) (z : Src × Int × Int × Int × Unit) => 0 ≤ z.1.2 ∧ OpsR x.2.2.2.1 y.1 }
theorem c11 : RCtrOk Try.prog 11 con11.rctr :=
  rcon_sound (G := ⟨[(39, con39.ctr), (40, con40.ctr)], [], [(92, 1), (95, 1)], []⟩) tab_ok (EnvOk.cons c39 has39 (EnvOk.cons c40 has40 EnvOk.nil)) rfl Try.func11 rfl con11 4835703278458516700987151 (by kernel_rfl) (by decide) (by decide) rfl (by decide) rfl (by
    rintro ⟨⟨(s : List Int), (a : Int)⟩, (most : Int), (n : Int), (c : Int), _⟩ hpre hwf X hT hG hk hK
    (simp -implicitDefEqProofs only [go_sem, Prod.eta, Option.isSome_none, Option.isSome_some, Int.toNat_zero, Nat.reduceAdd, Nat.reduceMul, Nat.reduceSub, Nat.reduceEqDiff, Nat.reduceLT, Nat.reduceLeDiff, Nat.reduceShiftRight, Nat.reduceMod, Nat.reduceBEq, reduceCtorEq, reduceIte, reduceDIte, Int.reduceNeg, Bool.not_eq_true', Bool.not_eq_false', Bool.or_eq_true, Bool.or_eq_false_iff, Bool.and_eq_true, Bool.and_eq_false_iff, decide_eq_true_eq, decide_eq_false_iff_not, Classical.not_not, not_or, maxLen, con11, con39, con40, hT, hG, hk, hK, Try.results11] at hwf ⊢); (try simp (disch := decide +kernel) only [drawn, true_and, and_true])
    obtain ⟨h1, h2, h3, h4, h5⟩ : 0 ≤ a ∧ most ≤ 30 ∧ 0 ≤ most ∧ 1 ≤ c ∧ c ≤ 900 := hpre
    have hs1 : 0 ≤ (Src.step (s, a)).snd := step_pos h1
    have hkb := goMod_bd (Src.raw (s, a)) (most + 1) (by omega)
    generalize goMod (Src.raw (s, a)) (most + 1) = K at hkb ⊢
    generalize Src.step (s, a) = S1 at hs1 ⊢
    obtain ⟨s1, a1⟩ := S1
    refine ⟨by omega, h1, fun _ => ?_⟩
    refine evk_loop ⟨{ q : Src × List Opn × List Int × Int × Int // 0 ≤ q.1.2 ∧ OInv c q.2.2.2.1 q.2.2.2.2 q.2.2.1 q.2.1 ∧ 0 ≤ q.2.2.2.2 }, 1000, fun q => [(0, .one (.loc 0 0)), (2, .one (.int .i64 n)), (3, .one (.int .i64 c)), (9, .one (.row 64)), (10, .one (.ep 65 1 0 0)), (11, .one (.int .i64 q.1.2.2.2.1)), (12, .one (.int .i64 q.1.2.2.2.2))],
      fun q => [(0, .cells 74 [.sl (.int .i64) q.1.1.1 false, .int .i64 q.1.1.2]), (64, .row 37 (.pair (.int .i64) (.pair (.int .i64) (.pair (.int .i64) (.pair (.int .i64) (.pair (.int .i64) (.pair (.pair (.int .i64) (.pair (.int .i64) (.int .i64))) (.pair (.int .i64) (.int .i64)))))))) q.1.2.1), (65, .row 75 (.int .i64) q.1.2.2.1)], fun q => q.1.2.2.2.2.toNat⟩ ⟨((s1, a1), [], List.replicate 5 0, 0, K), hs1, ⟨Gn.nil _ _, by simp only [List.length_nil]; omega, Int.le_refl _, by simp, by simp, fun d => (by rw [rep_at]; exact Int.le_refl _), fun d => (by rw [rep_at]; simp), fun o h => (by cases h)⟩, by simp only; omega⟩ ?_ ?_
    · simp only [go_sem, Prod.eta, Option.isSome_none, Option.isSome_some, Int.toNat_zero, Nat.reduceAdd, Nat.reduceMul, Nat.reduceSub, Nat.reduceEqDiff, Nat.reduceLT, Nat.reduceLeDiff, Nat.reduceShiftRight, Nat.reduceMod, Nat.reduceBEq, reduceCtorEq, reduceIte, reduceDIte, Int.reduceNeg]
      try (first | rfl | exact ⟨rfl, rfl⟩)
    · rintro ⟨⟨⟨s, a⟩, l, sq, t, k⟩, (h1 : 0 ≤ a), (hI : OInv c t k sq l), (hk0 : 0 ≤ k)⟩
      (simp -implicitDefEqProofs only [go_sem, Prod.eta, Option.isSome_none, Option.isSome_some, Int.toNat_zero, Nat.reduceAdd, Nat.reduceMul, Nat.reduceSub, Nat.reduceEqDiff, Nat.reduceLT, Nat.reduceLeDiff, Nat.reduceShiftRight, Nat.reduceMod, Nat.reduceBEq, reduceCtorEq, reduceIte, reduceDIte, Int.reduceNeg, Bool.not_eq_true', Bool.not_eq_false', Bool.or_eq_true, Bool.or_eq_false_iff, Bool.and_eq_true, Bool.and_eq_false_iff, decide_eq_true_eq, decide_eq_false_iff_not, Classical.not_not, not_or, maxLen, con11, con39, con40, hT, hG, hk, hK, Try.results11]); (try simp (disch := decide +kernel) only [drawn, true_and, and_true])
      obtain ⟨gn, kl, t0, t1, sl, s0, sb1, bx⟩ := hI
      have p1 : 0 ≤ (Src.step (s, a)).snd := step_pos h1
      have p2 : 0 ≤ (Src.step (s, a)).step.snd := step_pos p1
      have p3 : 0 ≤ (Src.step (s, a)).step.step.snd := step_pos p2
      have p4 : 0 ≤ (Src.step (s, a)).step.step.step.snd := step_pos p3
      have p5 : 0 ≤ (Src.step (s, a)).step.step.step.step.snd := step_pos p4
      have r1 := goMod_bd (Src.raw (s, a)) 3 (by omega)
      have r2 := goMod_bd (Src.step (s, a)).raw 4 (by omega)
      have r3 := goMod_bd (Src.step (s, a)).step.raw 8 (by omega)
      have r4 := goMod_bd (Src.step (s, a)).step.step.raw 4 (by omega)
      have r5 := goMod_bd (Src.step (s, a)).step.step.step.raw c (by omega)
      have r6 := tdiv_bd (goMod (Src.step (s, a)).step.raw 8) 7 7 (by omega) (by omega) (by omega)
      have r7 := tdiv_bd (goMod (Src.step (s, a)).step.step.raw 4) 3 3 (by omega) (by omega) (by omega)
      generalize (goMod (Src.step (s, a)).step.raw 8).tdiv 7 = V at r6 ⊢
      generalize (goMod (Src.step (s, a)).step.step.raw 4).tdiv 3 = W at r7 ⊢
      generalize goMod (Src.raw (s, a)) 3 = T at r1 ⊢
      generalize goMod (Src.step (s, a)).raw 4 = D at r2 ⊢
      generalize goMod (Src.step (s, a)).step.step.step.raw c = B at r5 ⊢
      have p8 : 0 ≤ (Src.step (s, a)).step.step.step.step.step.step.step.snd := step_pos (step_pos (step_pos p5))
      have hpc := pieceV_ok (Src.step (s, a)).step.step.step.step n
      generalize (Src.step (s, a)).step.step.step.step.step.step.step = S8 at p8 ⊢
      generalize (Src.step (s, a)).step.step.step.step = S5 at p5 hpc ⊢
      generalize pieceV S5 n = P at hpc ⊢
      obtain ⟨⟨P1, P2, P3⟩, P4, P5⟩ := P
      obtain ⟨s8, a8⟩ := S8
      have p8 : 0 ≤ a8 := p8
      have q0 := s0 (1 + D).toNat
      have q1 := sb1 (1 + D).toNat
      have st := set_at (sq := sq) (i := (1 + D).toNat) (x := sq.getD (1 + D).toNat 0 + (1 + V)) (by omega) (1 + D).toNat
      rw [if_pos rfl] at st
      have e6 : (7 : Int).tdiv 7 = 1 := by decide
      have e7 : (3 : Int).tdiv 3 = 1 := by decide
      rw [e6] at r6
      rw [e7] at r7
      simp only [st, List.length_set, sl]
      generalize hQ : sq.getD (1 + D).toNat 0 = Q at q0 q1 st ⊢
      (repeat' (with_reducible (first | refine And.intro ?_ ?_ | intro _))) <;> (try (first | with_reducible (first | done | assumption | omega | contradiction) | decide))
      · refine evk_loop ⟨{ i : Nat // i ≤ l.length ∧ ∀ z ∈ l.drop i, z.1 = t + T ∧ 1 + D < z.2.1 }, 1000, fun q => [(0, .one (.loc 0 0)), (2, .one (.int .i64 n)), (3, .one (.int .i64 c)), (9, .one (.row 64)), (10, .one (.ep 65 1 0 0)), (11, .one (.int .i64 (t + T))), (12, .one (.int .i64 k)), (14, .one (.loc 71 0)), (15, .one (.int .i64 q.1))],
          fun q => [(0, .cells 74 [.sl (.int .i64) s8 false, .int .i64 a8]), (64, .row 37 (.pair (.int .i64) (.pair (.int .i64) (.pair (.int .i64) (.pair (.int .i64) (.pair (.int .i64) (.pair (.pair (.int .i64) (.pair (.int .i64) (.int .i64))) (.pair (.int .i64) (.int .i64)))))))) l), (65, .row 75 (.int .i64) (sq.set (1 + D).toNat (Q + (1 + V)))), (71, .cells 37 [.int .i64 (t + T), .int .i64 (1 + D), .int .i64 (Q + (1 + V)), .int .i64 (1 + W), .int .i64 (1 + B), .int .i64 P1, .int .i64 P2, .int .i64 P3, .int .i64 P4, .int .i64 P5])], fun q => q.1⟩ ⟨l.length, Nat.le_refl _, by simp⟩ ?_ ?_
        · simp only [go_sem, Prod.eta, Option.isSome_none, Option.isSome_some, Int.toNat_zero, Nat.reduceAdd, Nat.reduceMul, Nat.reduceSub, Nat.reduceEqDiff, Nat.reduceLT, Nat.reduceLeDiff, Nat.reduceShiftRight, Nat.reduceMod, Nat.reduceBEq, reduceCtorEq, reduceIte, reduceDIte, Int.reduceNeg]
          try (first | rfl | exact ⟨rfl, rfl⟩)
        · rintro ⟨i, (hi : i ≤ l.length), (hd : ∀ z ∈ l.drop i, z.1 = t + T ∧ 1 + D < z.2.1)⟩
          (simp -implicitDefEqProofs only [go_sem, Prod.eta, Option.isSome_none, Option.isSome_some, Int.toNat_zero, Nat.reduceAdd, Nat.reduceMul, Nat.reduceSub, Nat.reduceEqDiff, Nat.reduceLT, Nat.reduceLeDiff, Nat.reduceShiftRight, Nat.reduceMod, Nat.reduceBEq, reduceCtorEq, reduceIte, reduceDIte, Int.reduceNeg, Bool.not_eq_true', Bool.not_eq_false', Bool.or_eq_true, Bool.or_eq_false_iff, Bool.and_eq_true, Bool.and_eq_false_iff, decide_eq_true_eq, decide_eq_false_iff_not, Classical.not_not, not_or, maxLen, con11, con39, con40, hT, hG, hk, hK, Try.results11]); (try simp (disch := decide +kernel) only [drawn, true_and, and_true])
          obtain ⟨u, hu⟩ : ∃ u, l.getD ((i : Int) - 1).toNat (0, 0, 0, 0, 0, (0, 0, 0), 0, 0) = u := ⟨_, rfl⟩
          have hu2 : l.getD (i - 1) o0 = u := by rw [← hu]; congr 1; omega
          simp only [hu]
          refine ⟨by omega, by omega, fun _ => ⟨by omega, fun _ => ⟨by omega, by omega, fun _ => ⟨by omega, fun _ => ⟨fun hc => ⟨by omega, ?_⟩, fun hc => ?_⟩⟩⟩⟩⟩
          · refine fin_lp ⟨i - 1, by omega, fun z hz => ?_⟩ ?_ (by dsimp only; omega)
            · rw [List.drop_eq_getElem_cons (by omega : i - 1 < l.length), show i - 1 + 1 = i by omega] at hz
              rcases List.mem_cons.1 hz with rfl | hz
              · rw [getD_at (by omega : i - 1 < l.length)] at hu2
                rw [hu2]; exact ⟨hc.1.2, by omega⟩
              · exact hd z hz
            · simp only [go_sem, Prod.eta, Option.isSome_none, Option.isSome_some, Int.toNat_zero, Nat.reduceAdd, Nat.reduceMul, Nat.reduceSub, Nat.reduceEqDiff, Nat.reduceLT, Nat.reduceLeDiff, Nat.reduceShiftRight, Nat.reduceMod, Nat.reduceBEq, reduceCtorEq, reduceIte, reduceDIte, Int.reduceNeg]
              try (first | rfl | exact ⟨rfl, rfl⟩ | (and_intros <;> first | rfl | omega))
          · have ll : (l ++ [((0, 0, 0, 0, 0, (0, 0, 0), 0, 0) : Opn)]).length = l.length + 1 := by simp
            have ln := gn.okl
            have lb : l.length ≤ 30 := by omega
            have e1 : ((i : Int) + 1).toNat = i + 1 := by omega
            have e2 : ((l.length + 1 : Nat) - ((i : Int) + 1)).toNat = l.length - i := by omega
            have e3 : ((l.length + 1 : Nat) - (i : Int)).toNat = l.length + 1 - i := by omega
            have e4 : (i : Int).toNat = i := by omega
            have w1 : (i + 1) + (l.length - i) ≤ l.length + 1 := by omega
            have w2 : i + (l.length + 1 - i) ≤ l.length + 1 := by omega
            simp only [ll, e1, e2, e3, e4]
            refine ⟨by omega, by omega, by omega, by omega, ?_⟩
            (simp -implicitDefEqProofs only [go_sem, Prod.eta, Option.isSome_none, Option.isSome_some, Int.toNat_zero, Nat.reduceAdd, Nat.reduceMul, Nat.reduceSub, Nat.reduceEqDiff, Nat.reduceLT, Nat.reduceLeDiff, Nat.reduceShiftRight, Nat.reduceMod, Nat.reduceBEq, reduceCtorEq, reduceIte, reduceDIte, Int.reduceNeg, Bool.not_eq_true', Bool.not_eq_false', Bool.or_eq_true, Bool.or_eq_false_iff, Bool.and_eq_true, Bool.and_eq_false_iff, decide_eq_true_eq, decide_eq_false_iff_not, Classical.not_not, not_or, maxLen, con11, con39, con40, hT, hG, hk, hK, Try.results11, w1, w2, ll]); (try simp (disch := decide +kernel) only [drawn, true_and, and_true])
            obtain ⟨i1, i2⟩ := ins_shift l ((0, 0, 0, 0, 0, (0, 0, 0), 0, 0) : Opn) (t + T, 1 + D, Q + (1 + V), 1 + W, 1 + B, (P1, P2, P3), P4, P5) i hi
            rw [e4]
            rw [i1, i2]
            refine ⟨by omega, fun _ => ⟨by omega, by omega, ?_⟩⟩
            have ok : okOp (t + T, 1 + D, Q + (1 + V), 1 + W, 1 + B, (P1, P2, P3), P4, P5) = true := by
              unfold okOp inV
              simp only [hpc, Bool.and_eq_true, Bool.or_eq_true, decide_eq_true_eq, and_true]
              omega
            have hmm : ∀ z ∈ l.take i ++ (t + T, 1 + D, Q + (1 + V), 1 + W, 1 + B, (P1, P2, P3), P4, P5) :: l.drop i, 1 ≤ z.2.2.2.2.1 ∧ z.2.2.2.2.1 ≤ c := fun z hz => by
              rcases List.mem_append.1 hz with h | h
              · exact bx z (List.mem_of_mem_take h)
              · rcases List.mem_cons.1 h with rfl | h
                · exact ⟨by dsimp only; omega, by dsimp only; omega⟩
                · exact bx z (List.mem_of_mem_drop h)
            have hgn := gn.ins (o := (t + T, 1 + D, Q + (1 + V), 1 + W, 1 + B, (P1, P2, P3), P4, P5)) (i := i) ok ⟨by dsimp only; omega, by dsimp only; omega⟩ (by dsimp only; omega) sl (by dsimp only; rw [hQ]; omega) hi hd (fun h0 q => by rw [hu2] at q; have q1 : u.1 = t + T := q.1; have q2 : 1 + D < u.2.1 := q.2; omega)
            have hlen : (l.take i ++ (t + T, 1 + D, Q + (1 + V), 1 + W, 1 + B, (P1, P2, P3), P4, P5) :: l.drop i).length = l.length + 1 := by simp; omega
            have sg : ∀ d, (sq.set (1 + D).toNat (Q + (1 + V))).getD d 0 = if (1 + D).toNat = d then Q + (1 + V) else sq.getD d 0 := fun d => set_at (by omega) d
            refine fin_lp ⟨((s8, a8), l.take i ++ (t + T, 1 + D, Q + (1 + V), 1 + W, 1 + B, (P1, P2, P3), P4, P5) :: l.drop i, sq.set (1 + D).toNat (Q + (1 + V)), t + T, k - 1), p8, ⟨hgn, ?_, ?_, ?_, ?_, fun d => ?_, fun d => ?_, hmm⟩, ?_⟩ ?_ ?_
            · rw [hlen]; dsimp only; omega
            · dsimp only; omega
            · rw [hlen]; dsimp only; omega
            · simp only [List.length_set]; exact sl
            · rw [sg]
              have := s0 d
              split <;> omega
            · rw [sg, hlen]
              have := sb1 d
              split <;> omega
            · dsimp only; omega
            · simp only [go_sem, Prod.eta, Option.isSome_none, Option.isSome_some, Int.toNat_zero, Nat.reduceAdd, Nat.reduceMul, Nat.reduceSub, Nat.reduceEqDiff, Nat.reduceLT, Nat.reduceLeDiff, Nat.reduceShiftRight, Nat.reduceMod, Nat.reduceBEq, reduceCtorEq, reduceIte, reduceDIte, Int.reduceNeg]
              try (first | rfl | exact ⟨rfl, rfl⟩ | (and_intros <;> first | rfl | omega))
            · dsimp only; omega
      · exact ⟨(l, ()), ((s, a), most, n, c, ()), ⟨h1, ⟨gn.okl, (show l.length ≤ 30 by omega), gn.dv, fun o ho => by have := gn.tm o ho; omega, bx⟩⟩, rfl, rfl, rfl⟩)
end Go.Proofs.Ythiddcobegnokaa

/- The contracts of the specification's Compare, insert, Plates, Place. -/
set_option linter.unusedSimpArgs false
set_option linter.unusedVariables false
set_option maxRecDepth 100000
set_option maxHeartbeats 4000000
namespace Go.Proofs.Ythiddcobegnokaa
open Go.Ev

def con75 : Con := { ps := [.d false (.int .i64), .d false (.int .i64)], rs := [.d false (.int .i64)], pre := fun _ => True, out := fun x => (cmpV x.1 x.2.1, ()), nw := id }
theorem c75 : CtrOk Try.prog 75 con75.ctr :=
  con_sound (G := ⟨[], [], [], []⟩) tab_ok EnvOk.nil rfl Try.func75 rfl con75 1171 (by kernel_rfl) (by decide) (by decide) rfl (by decide) rfl (by
    rintro ⟨(a : Int), (b : Int), _⟩ hpre hwf X hT hG hk hK
    (simp -implicitDefEqProofs only [go_sem, Prod.eta, Option.isSome_none, Option.isSome_some, Int.toNat_zero, Nat.reduceAdd, Nat.reduceMul, Nat.reduceSub, Nat.reduceEqDiff, Nat.reduceLT, Nat.reduceLeDiff, Nat.reduceShiftRight, Nat.reduceMod, Nat.reduceBEq, reduceCtorEq, reduceIte, reduceDIte, Int.reduceNeg, Bool.not_eq_true', Bool.not_eq_false', Bool.or_eq_true, Bool.or_eq_false_iff, Bool.and_eq_true, Bool.and_eq_false_iff, decide_eq_true_eq, decide_eq_false_iff_not, Classical.not_not, not_or, maxLen, con75, hT, hG, hk, hK, Try.results75] at hwf ⊢); (try simp (disch := decide +kernel) only [drawn, true_and, and_true])
    unfold cmpV
    refine ⟨fun h => by rw [if_pos h], fun h => ⟨fun k => by rw [if_neg h, if_pos k], fun k => by rw [if_neg h, if_neg k]⟩⟩)
def con49 : Con := { ps := [.d true (.pair (.int .i64) (.pair (.int .i64) (.int .i64))), .d true (.pair (.int .i64) (.pair (.int .i64) (.int .i64)))], rs := [.d false (.int .i64)], pre := fun _ => True, out := fun (x : Plt × Plt × Unit) => (pltC x.1 x.2.1, ()), nw := id }
theorem c49 : CtrOk Try.prog 49 con49.ctr :=
  con_sound (G := ⟨[(75, con75.ctr)], [], [], []⟩) tab_ok (EnvOk.cons c75 has75 EnvOk.nil) rfl Try.func49 rfl con49 2105471 (by kernel_rfl) (by decide) (by decide) rfl (by decide) rfl (by
    rintro ⟨⟨(a1 : Int), (a2 : Int), (a3 : Int)⟩, ⟨(b1 : Int), (b2 : Int), (b3 : Int)⟩, _⟩ hpre hwf X hT hG hk hK
    (simp -implicitDefEqProofs only [go_sem, Prod.eta, Option.isSome_none, Option.isSome_some, Int.toNat_zero, Nat.reduceAdd, Nat.reduceMul, Nat.reduceSub, Nat.reduceEqDiff, Nat.reduceLT, Nat.reduceLeDiff, Nat.reduceShiftRight, Nat.reduceMod, Nat.reduceBEq, reduceCtorEq, reduceIte, reduceDIte, Int.reduceNeg, Bool.not_eq_true', Bool.not_eq_false', Bool.or_eq_true, Bool.or_eq_false_iff, Bool.and_eq_true, Bool.and_eq_false_iff, decide_eq_true_eq, decide_eq_false_iff_not, Classical.not_not, not_or, maxLen, con49, con75, hT, hG, hk, hK, Try.results49] at hwf ⊢); (try simp (disch := decide +kernel) only [drawn, true_and, and_true])
    (repeat' (with_reducible (first | refine And.intro ?_ ?_ | intro _))) <;> (try (first | with_reducible (first | done | assumption | omega | contradiction) | decide))
    all_goals (try unfold pltC lexC)
    all_goals (try dsimp only)
    all_goals (repeat' split)
    all_goals first | rfl | omega | contradiction | skip)
def con74 : Con := { ps := [.d false (.sl (.int .i64)), .d false (.int .i64)], rs := [.d false (.sl (.int .i64))], pre := fun (x : List Int × Int × Unit) => x.1.length ≤ 100000, out := fun (x : List Int × Int × Unit) => (insC cmpV x.1 x.2.1, ()), nw := id }
theorem c74 : CtrOk Try.prog 74 con74.ctr :=
  con_sound (G := ⟨[], [], [], []⟩) tab_ok EnvOk.nil rfl Try.func74 rfl con74 4295229555 (by kernel_rfl) (by decide) (by decide) rfl (by decide) rfl (by
    rintro ⟨(l : List Int), (n : Int), _⟩ hpre hwf X hT hG hk hK
    (simp -implicitDefEqProofs only [go_sem, Prod.eta, Option.isSome_none, Option.isSome_some, Int.toNat_zero, Nat.reduceAdd, Nat.reduceMul, Nat.reduceSub, Nat.reduceEqDiff, Nat.reduceLT, Nat.reduceLeDiff, Nat.reduceShiftRight, Nat.reduceMod, Nat.reduceBEq, reduceCtorEq, reduceIte, reduceDIte, Int.reduceNeg, Bool.not_eq_true', Bool.not_eq_false', Bool.or_eq_true, Bool.or_eq_false_iff, Bool.and_eq_true, Bool.and_eq_false_iff, decide_eq_true_eq, decide_eq_false_iff_not, Classical.not_not, not_or, maxLen, con74, hT, hG, hk, hK, Try.results74] at hwf ⊢); (try simp (disch := decide +kernel) only [drawn, true_and, and_true])
    have h1 : l.length ≤ 100000 := hpre
    refine evk_loop ⟨{ k : Nat // k ≤ l.length ∧ ∀ j, j < k → l.getD j 0 < n }, 1000, fun q => [(0, .one (.sl (.int .i64) l false)), (1, .one (.int .i64 n)), (5, .one (.int .i64 q.1))], fun q => [], fun q => l.length - q.1⟩ ⟨0, by omega, fun j hj => by omega⟩ ?_ ?_
    · simp only [go_sem, Prod.eta, Option.isSome_none, Option.isSome_some, Int.toNat_zero, Nat.reduceAdd, Nat.reduceMul, Nat.reduceSub, Nat.reduceEqDiff, Nat.reduceLT, Nat.reduceLeDiff, Nat.reduceShiftRight, Nat.reduceMod, Nat.reduceBEq, reduceCtorEq, reduceIte, reduceDIte, Int.reduceNeg]
      try (first | rfl | exact ⟨rfl, rfl⟩)
    · rintro ⟨k, (hkl : k ≤ l.length), (hlt : ∀ j, j < k → l.getD j 0 < n)⟩
      (simp -implicitDefEqProofs only [go_sem, Prod.eta, Option.isSome_none, Option.isSome_some, Int.toNat_zero, Nat.reduceAdd, Nat.reduceMul, Nat.reduceSub, Nat.reduceEqDiff, Nat.reduceLT, Nat.reduceLeDiff, Nat.reduceShiftRight, Nat.reduceMod, Nat.reduceBEq, reduceCtorEq, reduceIte, reduceDIte, Int.reduceNeg, Bool.not_eq_true', Bool.not_eq_false', Bool.or_eq_true, Bool.or_eq_false_iff, Bool.and_eq_true, Bool.and_eq_false_iff, decide_eq_true_eq, decide_eq_false_iff_not, Classical.not_not, not_or, maxLen, con74, hT, hG, hk, hK, Try.results74]); (try simp (disch := decide +kernel) only [drawn, true_and, and_true])
      have e4 : (k : Int).toNat = k := by omega
      simp only [e4]
      obtain ⟨v, hv⟩ : ∃ v, l.getD k 0 = v := ⟨_, rfl⟩
      have hat := insC_at (c := cmpV) n 0 hkl (fun j hj => (cmpV_lt _ _).2 (hlt j hj))
      simp only [cmpV_lt, cmpV_eq, hv] at hat ⊢
      refine fun _ => ⟨by omega, fun _ _ => ⟨fun hc => ⟨by omega, ?_⟩, fun hc _ => ⟨by omega, fun _ _ => ⟨fun he => ?_, fun he => ?_⟩⟩⟩⟩
      · refine fin_lp ⟨k + 1, by omega, fun j hj => ?_⟩ ?_ (by dsimp only; omega)
        · by_cases e : j = k
          · subst e; omega
          · exact hlt j (by omega)
        · simp only [go_sem, Prod.eta, Option.isSome_none, Option.isSome_some, Int.toNat_zero, Nat.reduceAdd, Nat.reduceMul, Nat.reduceSub, Nat.reduceEqDiff, Nat.reduceLT, Nat.reduceLeDiff, Nat.reduceShiftRight, Nat.reduceMod, Nat.reduceBEq, reduceCtorEq, reduceIte, reduceDIte, Int.reduceNeg]
          try (first | rfl | exact ⟨rfl, rfl⟩ | (and_intros <;> first | rfl | omega))
      · rw [hat (by omega), if_pos ⟨by omega, he.2⟩]
      · rw [hat (by omega), if_neg (by omega)]
        simp only [Int.toNat_natCast, List.take_length, List.append_assoc, List.singleton_append, List.length_append, List.length_take, List.length_drop, List.length_singleton]
        and_intros <;> first | omega | trivial | rfl)
theorem ins_shiftG {α : Type} (l : List α) (z o : α) (i : Nat) (hi : i ≤ l.length) :
    (List.take (i + 1) (l ++ [z]) ++ (List.take (min (l.length - i) (List.drop i (List.take (i + (l.length + 1 - i)) (l ++ [z]))).length) (List.drop i (List.take (i + (l.length + 1 - i)) (l ++ [z]))) ++ List.drop (i + 1 + min (l.length - i) (List.drop i (List.take (i + (l.length + 1 - i)) (l ++ [z]))).length) (l ++ [z]))).length = l.length + 1
    ∧ (List.take (i + 1) (l ++ [z]) ++ (List.take (min (l.length - i) (List.drop i (List.take (i + (l.length + 1 - i)) (l ++ [z]))).length) (List.drop i (List.take (i + (l.length + 1 - i)) (l ++ [z]))) ++ List.drop (i + 1 + min (l.length - i) (List.drop i (List.take (i + (l.length + 1 - i)) (l ++ [z]))).length) (l ++ [z]))).set i o = l.take i ++ o :: l.drop i := by
  have h1 : List.take (i + (l.length + 1 - i)) (l ++ [z]) = l ++ [z] := List.take_of_length_le (by simp; omega)
  have h2 : List.drop i (l ++ [z]) = List.drop i l ++ [z] := List.drop_append_of_le_length hi
  have h3 : (List.drop i l ++ [z]).length = l.length - i + 1 := by simp
  have hl : i < (l ++ [z]).length := by simp; omega
  have h4 : List.take (i + 1) (l ++ [z]) = List.take i l ++ [(l ++ [z])[i]] := by rw [List.take_succ_eq_append_getElem hl, List.take_append_of_le_length hi]
  have h5 : min (l.length - i) (l.length - i + 1) = l.length - i := by omega
  have h6 : List.drop (i + 1 + (l.length - i)) (l ++ [z]) = [] := List.drop_of_length_le (by simp; omega)
  have h7 : List.take (l.length - i) (List.drop i l ++ [z]) = List.drop i l := by
    rw [List.take_append_of_le_length (by simp), List.take_of_length_le (by simp)]
  have h8 : (List.take i l).length = i := by simp; omega
  rw [h1, h2, h3, h5, h6, h4, h7, List.append_nil, List.append_assoc]
  constructor
  · simp; omega
  · rw [List.set_append_right _ _ (by omega), h8, Nat.sub_self]
    rfl
def con29 : Con := { ps := [.d false (.sl (.pair (.int .i64) (.pair (.int .i64) (.pair (.int .i64) (.pair (.int .i64) (.pair (.int .i64) (.pair (.pair (.int .i64) (.pair (.int .i64) (.int .i64))) (.pair (.int .i64) (.int .i64)))))))))], rs := [.d false (.sl (.pair (.int .i64) (.pair (.int .i64) (.int .i64))))], pre := fun (x : List Opn × Unit) => x.1.length ≤ 100000, out := fun (x : List Opn × Unit) => (platesR x.1, ()), nw := id }
theorem c29 : CtrOk Try.prog 29 con29.ctr :=
  con_sound (G := ⟨[(49, con49.ctr)], [], [(53, 1), (56, 1)], []⟩) tab_ok (EnvOk.cons c49 has49 EnvOk.nil) rfl Try.func29 rfl con29 35186519573629 (by kernel_rfl) (by decide) (by decide) rfl (by decide) rfl (by
    rintro ⟨(l : List Opn), _⟩ hpre hwf X hT hG hk hK
    (simp -implicitDefEqProofs only [go_sem, Prod.eta, Option.isSome_none, Option.isSome_some, Int.toNat_zero, Nat.reduceAdd, Nat.reduceMul, Nat.reduceSub, Nat.reduceEqDiff, Nat.reduceLT, Nat.reduceLeDiff, Nat.reduceShiftRight, Nat.reduceMod, Nat.reduceBEq, reduceCtorEq, reduceIte, reduceDIte, Int.reduceNeg, Bool.not_eq_true', Bool.not_eq_false', Bool.or_eq_true, Bool.or_eq_false_iff, Bool.and_eq_true, Bool.and_eq_false_iff, decide_eq_true_eq, decide_eq_false_iff_not, Classical.not_not, not_or, maxLen, con29, con49, hT, hG, hk, hK, Try.results29] at hwf ⊢); (try simp (disch := decide +kernel) only [drawn, true_and, and_true])
    have h1 : l.length ≤ 100000 := hpre
    refine evk_loop ⟨{ i : Nat // i ≤ l.length }, 1000, fun q => [(0, .one (.sl (.pair (.int .i64) (.pair (.int .i64) (.pair (.int .i64) (.pair (.int .i64) (.pair (.int .i64) (.pair (.pair (.int .i64) (.pair (.int .i64) (.int .i64))) (.pair (.int .i64) (.int .i64)))))))) l false)), (3, .one (.row 64)), (4, .one (.int .i64 q.1))], fun q => [(64, .row 33 (.pair (.int .i64) (.pair (.int .i64) (.int .i64))) (platesR (l.take q.1)))], fun q => l.length - q.1⟩ ⟨0, by omega⟩ ?_ ?_
    · simp only [go_sem, Prod.eta, Option.isSome_none, Option.isSome_some, Int.toNat_zero, Nat.reduceAdd, Nat.reduceMul, Nat.reduceSub, Nat.reduceEqDiff, Nat.reduceLT, Nat.reduceLeDiff, Nat.reduceShiftRight, Nat.reduceMod, Nat.reduceBEq, reduceCtorEq, reduceIte, reduceDIte, Int.reduceNeg]
      try (first | rfl | exact ⟨rfl, rfl⟩)
    · rintro ⟨i, (hi : i ≤ l.length)⟩
      (simp -implicitDefEqProofs only [go_sem, Prod.eta, Option.isSome_none, Option.isSome_some, Int.toNat_zero, Nat.reduceAdd, Nat.reduceMul, Nat.reduceSub, Nat.reduceEqDiff, Nat.reduceLT, Nat.reduceLeDiff, Nat.reduceShiftRight, Nat.reduceMod, Nat.reduceBEq, reduceCtorEq, reduceIte, reduceDIte, Int.reduceNeg, Bool.not_eq_true', Bool.not_eq_false', Bool.or_eq_true, Bool.or_eq_false_iff, Bool.and_eq_true, Bool.and_eq_false_iff, decide_eq_true_eq, decide_eq_false_iff_not, Classical.not_not, not_or, maxLen, con29, con49, hT, hG, hk, hK, Try.results29]); (try simp (disch := decide +kernel) only [drawn, true_and, and_true])
      have hlen := platesR_len (l.take i)
      have hlt : (l.take i).length ≤ i := by simp; omega
      refine fun _ => ⟨fun hc => ?_, fun hc => ?_⟩
      · have hil : i < l.length := by omega
        obtain ⟨o, ho⟩ : ∃ o, l[i] = o := ⟨_, rfl⟩
        have eo : l.getD (i : Int).toNat (0, 0, 0, 0, 0, (0, 0, 0), 0, 0) = o := by rw [← ho]; simp [hil]
        have hts : platesR (l.take (i + 1)) = insC pltC (platesR (l.take i)) o.plate := by rw [List.take_succ_eq_append_getElem hil, ho, platesR_snoc]
        rw [eo]
        generalize platesR (l.take i) = ks at hlen hts ⊢
        refine ⟨by omega, fun _ _ => ?_⟩
        refine evk_loop ⟨{ k : Nat // k ≤ ks.length ∧ ∀ j, j < k → pltC (ks.getD j (0, 0, 0)) o.plate < 0 }, 1000, fun q => [(0, .one (.sl (.pair (.int .i64) (.pair (.int .i64) (.pair (.int .i64) (.pair (.int .i64) (.pair (.int .i64) (.pair (.pair (.int .i64) (.pair (.int .i64) (.int .i64))) (.pair (.int .i64) (.int .i64)))))))) l false)), (3, .one (.row 64)), (4, .one (.int .i64 i)), (5, .one (.loc 71 0)), (6, .one (.int .i64 q.1))], fun q => [(64, .row 33 (.pair (.int .i64) (.pair (.int .i64) (.int .i64))) ks), (71, .cells 33 [.int .i64 o.2.2.2.2.2.1.1, .int .i64 o.2.2.2.2.2.1.2.1, .int .i64 o.2.2.2.2.2.1.2.2])], fun q => ks.length - q.1⟩ ⟨0, by omega, fun j hj => by omega⟩ ?_ ?_
        · simp only [go_sem, Prod.eta, Option.isSome_none, Option.isSome_some, Int.toNat_zero, Nat.reduceAdd, Nat.reduceMul, Nat.reduceSub, Nat.reduceEqDiff, Nat.reduceLT, Nat.reduceLeDiff, Nat.reduceShiftRight, Nat.reduceMod, Nat.reduceBEq, reduceCtorEq, reduceIte, reduceDIte, Int.reduceNeg]
          try (first | rfl | exact ⟨rfl, rfl⟩)
        · rintro ⟨k, (hkl : k ≤ ks.length), (hlt : ∀ j, j < k → pltC (ks.getD j (0, 0, 0)) o.plate < 0)⟩
          (simp -implicitDefEqProofs only [go_sem, Prod.eta, Option.isSome_none, Option.isSome_some, Int.toNat_zero, Nat.reduceAdd, Nat.reduceMul, Nat.reduceSub, Nat.reduceEqDiff, Nat.reduceLT, Nat.reduceLeDiff, Nat.reduceShiftRight, Nat.reduceMod, Nat.reduceBEq, reduceCtorEq, reduceIte, reduceDIte, Int.reduceNeg, Bool.not_eq_true', Bool.not_eq_false', Bool.or_eq_true, Bool.or_eq_false_iff, Bool.and_eq_true, Bool.and_eq_false_iff, decide_eq_true_eq, decide_eq_false_iff_not, Classical.not_not, not_or, maxLen, con29, con49, hT, hG, hk, hK, Try.results29]); (try simp (disch := decide +kernel) only [drawn, true_and, and_true])
          have e4 : (k : Int).toNat = k := by omega
          obtain ⟨v, hv⟩ : ∃ v, ks.getD k (0, 0, 0) = v := ⟨_, rfl⟩
          have hat := insC_at (c := pltC) o.plate (0, 0, 0) hkl hlt
          have hpl : o.plate = o.2.2.2.2.2.1 := rfl
          simp only [e4, hv] at hat ⊢
          refine fun _ => ⟨by omega, fun _ => ⟨by omega, fun _ _ => ⟨fun hc => ⟨by omega, ?_⟩, fun hc => ?_⟩⟩⟩
          · refine fin_lp ⟨k + 1, by omega, fun j hj => ?_⟩ ?_ (by dsimp only; omega)
            · by_cases e : j = k
              · subst e; rw [hv]; exact hc.2
              · exact hlt j (by omega)
            · simp only [go_sem, Prod.eta, Option.isSome_none, Option.isSome_some, Int.toNat_zero, Nat.reduceAdd, Nat.reduceMul, Nat.reduceSub, Nat.reduceEqDiff, Nat.reduceLT, Nat.reduceLeDiff, Nat.reduceShiftRight, Nat.reduceMod, Nat.reduceBEq, reduceCtorEq, reduceIte, reduceDIte, Int.reduceNeg]
              try (first | rfl | exact ⟨rfl, rfl⟩ | (and_intros <;> first | rfl | omega))
          · have hat := hat (fun h q => by rw [hpl] at q; omega)
            simp only [pltC_cmp.eq] at hat
            have hlks : ks.length ≤ 100000 := by omega
            refine fun _ => ⟨by omega, fun _ => ⟨by omega, fun _ => ⟨fun hc2 => ⟨by omega, ?_⟩, fun hc2 => ?_⟩⟩⟩
            · have hvo : v = o.plate := Prod.ext hc2.2.1 (Prod.ext hc2.2.2.1 hc2.2.2.2)
              rw [if_pos ⟨by omega, hvo⟩] at hat
              rw [hat] at hts
              refine fin_lp ⟨i + 1, by omega⟩ ?_ (by dsimp only; omega)
              simp only [go_sem, Prod.eta, Option.isSome_none, Option.isSome_some, Int.toNat_zero, Nat.reduceAdd, Nat.reduceMul, Nat.reduceSub, Nat.reduceEqDiff, Nat.reduceLT, Nat.reduceLeDiff, Nat.reduceShiftRight, Nat.reduceMod, Nat.reduceBEq, reduceCtorEq, reduceIte, reduceDIte, Int.reduceNeg]
              rw [hts]
              try (first | rfl | exact ⟨rfl, rfl⟩ | (and_intros <;> first | rfl | omega))
            · have hvo : ¬ (k < ks.length ∧ v = o.plate) := fun q => by
                have q2 := q.2
                subst q2
                rcases hc2 with h | h | h | h
                · omega
                · exact h rfl
                · exact h rfl
                · exact h rfl
              rw [if_neg hvo] at hat
              rw [hat] at hts
              have ll : (ks ++ [((0, 0, 0) : Plt)]).length = ks.length + 1 := by simp
              have e1 : ((k : Int) + 1).toNat = k + 1 := by omega
              have e2 : ((ks.length + 1 : Nat) - ((k : Int) + 1)).toNat = ks.length - k := by omega
              have e3 : ((ks.length + 1 : Nat) - (k : Int)).toNat = ks.length + 1 - k := by omega
              have w1 : (k + 1) + (ks.length - k) ≤ ks.length + 1 := by omega
              have w2 : k + (ks.length + 1 - k) ≤ ks.length + 1 := by omega
              simp only [ll, e1, e2, e3, e4]
              refine ⟨by omega, by omega, by omega, by omega, ?_⟩
              (simp -implicitDefEqProofs only [go_sem, Prod.eta, Option.isSome_none, Option.isSome_some, Int.toNat_zero, Nat.reduceAdd, Nat.reduceMul, Nat.reduceSub, Nat.reduceEqDiff, Nat.reduceLT, Nat.reduceLeDiff, Nat.reduceShiftRight, Nat.reduceMod, Nat.reduceBEq, reduceCtorEq, reduceIte, reduceDIte, Int.reduceNeg, Bool.not_eq_true', Bool.not_eq_false', Bool.or_eq_true, Bool.or_eq_false_iff, Bool.and_eq_true, Bool.and_eq_false_iff, decide_eq_true_eq, decide_eq_false_iff_not, Classical.not_not, not_or, maxLen, con29, con49, hT, hG, hk, hK, Try.results29, w1, w2, ll]); (try simp (disch := decide +kernel) only [drawn, true_and, and_true])
              obtain ⟨i1, i2⟩ := ins_shiftG ks ((0, 0, 0) : Plt) (o.2.2.2.2.2.1.1, o.2.2.2.2.2.1.2.1, o.2.2.2.2.2.1.2.2) k hkl
              try rw [e4]
              rw [i1, i2]
              refine ⟨by omega, fun _ => ⟨by omega, by omega, ?_⟩⟩
              refine fin_lp ⟨i + 1, by omega⟩ ?_ (by dsimp only; omega)
              simp only [go_sem, Prod.eta, Option.isSome_none, Option.isSome_some, Int.toNat_zero, Nat.reduceAdd, Nat.reduceMul, Nat.reduceSub, Nat.reduceEqDiff, Nat.reduceLT, Nat.reduceLeDiff, Nat.reduceShiftRight, Nat.reduceMod, Nat.reduceBEq, reduceCtorEq, reduceIte, reduceDIte, Int.reduceNeg]
              rw [hts]
              try (first | rfl | exact ⟨rfl, rfl⟩ | (and_intros <;> first | rfl | omega))
      · rw [List.take_of_length_le (by omega)])
end Go.Proofs.Ythiddcobegnokaa
