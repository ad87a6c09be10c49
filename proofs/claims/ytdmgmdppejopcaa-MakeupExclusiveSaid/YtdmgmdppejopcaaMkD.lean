/- The contracts of the functions that the statements about the makeup reach: lists. -/
import Derived.Test.YtdmgmdppejopcaaMkC
set_option linter.unusedSimpArgs false
set_option linter.unusedVariables false
set_option maxRecDepth 100000
set_option maxHeartbeats 4000000
namespace Go.Proofs.Ytdmgmdppejopcaa
open Go.Ev

theorem flt_eq {a b : Flt} (h : a.1 = b.1 ∧ a.2.1 = b.2.1 ∧ a.2.2.1 = b.2.2.1 ∧ a.2.2.2 = b.2.2.2) : a = b := by
  obtain ⟨a1, a2, a3, a4⟩ := a
  obtain ⟨b1, b2, b3, b4⟩ := b
  obtain ⟨h1, h2, h3, h4⟩ := h
  dsimp only at h1 h2 h3 h4
  rw [h1, h2, h3, h4]
theorem flt_ne {a b : Flt} (h : ¬ a.1 = b.1 ∨ ¬ a.2.1 = b.2.1 ∨ ¬ a.2.2.1 = b.2.2.1 ∨ ¬ a.2.2.2 = b.2.2.2) : ¬ a = b := by
  rintro rfl
  simp at h
def idxF {α : Type} (p : α → Bool) : List α → Int → Int
  | [], _ => -1
  | x :: l, i => if p x = true then i else idxF p l (i + 1)
def findV (l : List Dep) (f : Flt) : Int := idxF (fun d => decide (d.1 = f)) l 0
def con54 : Con := { ps := [.d false (.sl (.pair (.pair .str (.pair (.int .i64) (.pair .str (.int .i64)))) (.pair .str (.pair (.int .i64) (.pair (.int .i64) (.pair (.int .i64) (.pair (.int .i64) (.int .i64)))))))), .d true (.pair .str (.pair (.int .i64) (.pair .str (.int .i64))))], rs := [.d false (.int .i64)], pre := fun _ => True, out := fun x => (findV x.1 x.2.1, ()), nw := id }
theorem c54 : CtrOk Try.prog 54 con54.ctr :=
  con_sound (G := ⟨[], [], []⟩) tab_ok EnvOk.nil rfl Try.func54 rfl con54 133115 (by kernel_rfl) (by decide) (by decide) rfl (by decide) rfl (by
    rintro ⟨(l : List Dep), (f : Flt), _⟩ hpre hwf X hT hG hk hK
    (simp only [go_sem, Prod.eta, Int.toNat_zero, Nat.reduceAdd, Nat.reduceMul, Nat.reduceSub, Nat.reduceEqDiff, Nat.reduceLT, Nat.reduceLeDiff, Nat.reduceShiftRight, Nat.reduceMod, Nat.reduceBEq, reduceCtorEq, reduceIte, reduceDIte, Int.reduceNeg, Bool.not_eq_true', Bool.not_eq_false', Bool.or_eq_true, Bool.or_eq_false_iff, Bool.and_eq_true, Bool.and_eq_false_iff, decide_eq_true_eq, decide_eq_false_iff_not, Classical.not_not, not_or, maxLen, con54, hT, hG, hk, hK, Try.results54] at hwf ⊢); (try simp (disch := decide +kernel) only [drawn, true_and, and_true])
    intro hl
    refine evk_loop ⟨{ i : Nat // i ≤ l.length ∧ findV l f = idxF (fun d => decide (d.1 = f)) (l.drop i) i }, 1000, fun i => [(3, .one (.loc 64 0)), (7, .one (.sl (.pair (.pair .str (.pair (.int .i64) (.pair .str (.int .i64)))) (.pair .str (.pair (.int .i64) (.pair (.int .i64) (.pair (.int .i64) (.pair (.int .i64) (.int .i64))))))) l false)), (8, .one (.int .i64 l.length)), (9, .one (.int .i64 i.1))], fun _ => [(64, .cells 34 (expl (.pair .str (.pair (.int .i64) (.pair .str (.int .i64)))) f))], fun i => l.length - i.1⟩ ⟨0, by simp, by simp [findV]⟩ ?_ ?_
    · simp only [go_sem, Prod.eta, Int.toNat_zero, Nat.reduceAdd, Nat.reduceMul, Nat.reduceSub, Nat.reduceEqDiff, Nat.reduceLT, Nat.reduceLeDiff, Nat.reduceShiftRight, Nat.reduceMod, Nat.reduceBEq, reduceCtorEq, reduceIte, reduceDIte, Int.reduceNeg]
      rfl
    · rintro ⟨i, (hi : i ≤ l.length), (he : findV l f = idxF (fun d => decide (d.1 = f)) (l.drop i) i)⟩
      (simp only [go_sem, Prod.eta, Int.toNat_zero, Nat.reduceAdd, Nat.reduceMul, Nat.reduceSub, Nat.reduceEqDiff, Nat.reduceLT, Nat.reduceLeDiff, Nat.reduceShiftRight, Nat.reduceMod, Nat.reduceBEq, reduceCtorEq, reduceIte, reduceDIte, Int.reduceNeg, Bool.not_eq_true', Bool.not_eq_false', Bool.or_eq_true, Bool.or_eq_false_iff, Bool.and_eq_true, Bool.and_eq_false_iff, decide_eq_true_eq, decide_eq_false_iff_not, Classical.not_not, not_or, maxLen, con54, hT, hG, hk, hK, Try.results54]); (try simp (disch := decide +kernel) only [drawn, true_and, and_true])
      refine ⟨fun hlt => ?_, fun hge => ?_⟩
      · have hi' : i < l.length := by omega
        have ek : ∀ z, l.getD (i : Int).toNat z = l[i] := fun z => by simp [hi']
        simp only [ek]
        have hst : findV l f = if decide (l[i].1 = f) = true then (i : Int) else idxF (fun d => decide (d.1 = f)) (l.drop (i + 1)) ((i + 1 : Nat) : Int) := by
          rw [he, List.drop_eq_getElem_cons hi', idxF]; rfl
        (repeat' (with_reducible (first | refine And.intro ?_ ?_ | intro _))) <;> (try (first | with_reducible (first | done | assumption | omega | contradiction) | decide))
        · rename_i h
          rw [hst, if_pos (decide_eq_true (flt_eq h))]
        · rename_i h
          refine fin_lp ⟨i + 1, by omega, by rw [hst, if_neg (by rw [decide_eq_true_eq]; exact flt_ne h)]⟩ (by simp only [go_sem, Prod.eta, Int.toNat_zero, Nat.reduceAdd, Nat.reduceMul, Nat.reduceSub, Nat.reduceEqDiff, Nat.reduceLT, Nat.reduceLeDiff, Nat.reduceShiftRight, Nat.reduceMod, Nat.reduceBEq, reduceCtorEq, reduceIte, reduceDIte, Int.reduceNeg]; first | rfl | with_reducible (first | assumption | omega | done)) (by dsimp only; omega)
      · rw [he, List.drop_of_length_le (by omega)]
        rfl)
def con55 : Con := { ps := [.d false (.sl (.int .i64)), .d false (.int .i64)], rs := [.d false (.int .i64)], pre := fun _ => True, out := fun x => (idxF (fun y : Int => decide (x.2.1 = y)) x.1 0, ()), nw := id }
theorem c55 : CtrOk Try.prog 55 con55.ctr :=
  con_sound (G := ⟨[], [], []⟩) tab_ok EnvOk.nil rfl Try.func55 rfl con55 66483 (by kernel_rfl) (by decide) (by decide) rfl (by decide) rfl (by
    rintro ⟨(l : List Int), (f : Int), _⟩ hpre hwf X hT hG hk hK
    (simp only [go_sem, Prod.eta, Int.toNat_zero, Nat.reduceAdd, Nat.reduceMul, Nat.reduceSub, Nat.reduceEqDiff, Nat.reduceLT, Nat.reduceLeDiff, Nat.reduceShiftRight, Nat.reduceMod, Nat.reduceBEq, reduceCtorEq, reduceIte, reduceDIte, Int.reduceNeg, Bool.not_eq_true', Bool.not_eq_false', Bool.or_eq_true, Bool.or_eq_false_iff, Bool.and_eq_true, Bool.and_eq_false_iff, decide_eq_true_eq, decide_eq_false_iff_not, Classical.not_not, not_or, maxLen, con55, hT, hG, hk, hK, Try.results55] at hwf ⊢); (try simp (disch := decide +kernel) only [drawn, true_and, and_true])
    intro hl
    refine evk_loop ⟨{ i : Nat // i ≤ l.length ∧ idxF (fun y : Int => decide (f = y)) l 0 = idxF (fun y : Int => decide (f = y)) (l.drop i) i }, 1000, fun i => [(0, .one (.sl (.int .i64) l false)), (1, .one (.int .i64 f)), (7, .one (.int .i64 l.length)), (8, .one (.int .i64 i.1))], fun _ => [], fun i => l.length - i.1⟩ ⟨0, by simp, by simp⟩ ?_ ?_
    · simp only [go_sem, Prod.eta, Int.toNat_zero, Nat.reduceAdd, Nat.reduceMul, Nat.reduceSub, Nat.reduceEqDiff, Nat.reduceLT, Nat.reduceLeDiff, Nat.reduceShiftRight, Nat.reduceMod, Nat.reduceBEq, reduceCtorEq, reduceIte, reduceDIte, Int.reduceNeg]
      rfl
    · rintro ⟨i, (hi : i ≤ l.length), (he : idxF (fun y : Int => decide (f = y)) l 0 = idxF (fun y : Int => decide (f = y)) (l.drop i) i)⟩
      (simp only [go_sem, Prod.eta, Int.toNat_zero, Nat.reduceAdd, Nat.reduceMul, Nat.reduceSub, Nat.reduceEqDiff, Nat.reduceLT, Nat.reduceLeDiff, Nat.reduceShiftRight, Nat.reduceMod, Nat.reduceBEq, reduceCtorEq, reduceIte, reduceDIte, Int.reduceNeg, Bool.not_eq_true', Bool.not_eq_false', Bool.or_eq_true, Bool.or_eq_false_iff, Bool.and_eq_true, Bool.and_eq_false_iff, decide_eq_true_eq, decide_eq_false_iff_not, Classical.not_not, not_or, maxLen, con55, hT, hG, hk, hK, Try.results55]); (try simp (disch := decide +kernel) only [drawn, true_and, and_true])
      refine ⟨fun hlt => ?_, fun hge => ?_⟩
      · have hi' : i < l.length := by omega
        have ek : ∀ z, l.getD (i : Int).toNat z = l[i] := fun z => by simp [hi']
        simp only [ek]
        have hst : idxF (fun y : Int => decide (f = y)) l 0 = if decide (f = l[i]) = true then (i : Int) else idxF (fun y : Int => decide (f = y)) (l.drop (i + 1)) ((i + 1 : Nat) : Int) := by
          rw [he, List.drop_eq_getElem_cons hi', idxF]; rfl
        (repeat' (with_reducible (first | refine And.intro ?_ ?_ | intro _))) <;> (try (first | with_reducible (first | done | assumption | omega | contradiction) | decide))
        · rename_i h
          rw [hst, if_pos (by simp [h])]
        · rename_i h
          refine fin_lp ⟨i + 1, by omega, by rw [hst, if_neg (by simp [h])]⟩ (by simp only [go_sem, Prod.eta, Int.toNat_zero, Nat.reduceAdd, Nat.reduceMul, Nat.reduceSub, Nat.reduceEqDiff, Nat.reduceLT, Nat.reduceLeDiff, Nat.reduceShiftRight, Nat.reduceMod, Nat.reduceBEq, reduceCtorEq, reduceIte, reduceDIte, Int.reduceNeg]; first | rfl | with_reducible (first | assumption | omega | done)) (by dsimp only; omega)
      · rw [he, List.drop_of_length_le (by omega)]
        rfl)
def con68 : Con := { ps := [.d false (.sl (.pair (.pair .str (.pair (.int .i64) (.pair .str (.int .i64)))) (.pair .str (.pair (.int .i64) (.pair (.int .i64) (.pair (.int .i64) (.pair (.int .i64) (.int .i64)))))))), .cl 49 []], rs := [.d false (.int .i64)], pre := fun _ => True, out := fun x => (idxF (fun d : Dep => !decide (d.state = 0)) x.1 0, ()), nw := id }
theorem c68 : CtrOk Try.prog 68 con68.ctr :=
  con_sound (G := ⟨[(49, con49.ctr)], [], []⟩) tab_ok (EnvOk.cons c49 has49 EnvOk.nil) rfl Try.func68 rfl con68 66483 (by kernel_rfl) (by decide) (by decide) rfl (by decide) rfl (by
    rintro ⟨(l : List Dep), _⟩ hpre hwf X hT hG hk hK
    (simp only [go_sem, Prod.eta, Int.toNat_zero, Nat.reduceAdd, Nat.reduceMul, Nat.reduceSub, Nat.reduceEqDiff, Nat.reduceLT, Nat.reduceLeDiff, Nat.reduceShiftRight, Nat.reduceMod, Nat.reduceBEq, reduceCtorEq, reduceIte, reduceDIte, Int.reduceNeg, Bool.not_eq_true', Bool.not_eq_false', Bool.or_eq_true, Bool.or_eq_false_iff, Bool.and_eq_true, Bool.and_eq_false_iff, decide_eq_true_eq, decide_eq_false_iff_not, Classical.not_not, not_or, maxLen, con68, con49, hT, hG, hk, hK, Try.results68] at hwf ⊢); (try simp (disch := decide +kernel) only [drawn, true_and, and_true])
    intro hl
    refine evk_loop ⟨{ i : Nat // i ≤ l.length ∧ idxF (fun d : Dep => !decide (d.state = 0)) l 0 = idxF (fun d : Dep => !decide (d.state = 0)) (l.drop i) i }, 1000, fun i => [(0, .one (.sl (.pair (.pair .str (.pair (.int .i64) (.pair .str (.int .i64)))) (.pair .str (.pair (.int .i64) (.pair (.int .i64) (.pair (.int .i64) (.pair (.int .i64) (.int .i64))))))) l false)), (1, .one (.fn 49 [])), (7, .one (.int .i64 l.length)), (8, .one (.int .i64 i.1))], fun _ => [], fun i => l.length - i.1⟩ ⟨0, by simp, by simp⟩ ?_ ?_
    · simp only [go_sem, Prod.eta, Int.toNat_zero, Nat.reduceAdd, Nat.reduceMul, Nat.reduceSub, Nat.reduceEqDiff, Nat.reduceLT, Nat.reduceLeDiff, Nat.reduceShiftRight, Nat.reduceMod, Nat.reduceBEq, reduceCtorEq, reduceIte, reduceDIte, Int.reduceNeg]
      rfl
    · rintro ⟨i, (hi : i ≤ l.length), (he : idxF (fun d : Dep => !decide (d.state = 0)) l 0 = idxF (fun d : Dep => !decide (d.state = 0)) (l.drop i) i)⟩
      (simp only [go_sem, Prod.eta, Int.toNat_zero, Nat.reduceAdd, Nat.reduceMul, Nat.reduceSub, Nat.reduceEqDiff, Nat.reduceLT, Nat.reduceLeDiff, Nat.reduceShiftRight, Nat.reduceMod, Nat.reduceBEq, reduceCtorEq, reduceIte, reduceDIte, Int.reduceNeg, Bool.not_eq_true', Bool.not_eq_false', Bool.or_eq_true, Bool.or_eq_false_iff, Bool.and_eq_true, Bool.and_eq_false_iff, decide_eq_true_eq, decide_eq_false_iff_not, Classical.not_not, not_or, maxLen, con68, con49, hT, hG, hk, hK, Try.results68]); (try simp (disch := decide +kernel) only [drawn, true_and, and_true])
      refine ⟨fun hlt => ?_, fun hge => ?_⟩
      · have hi' : i < l.length := by omega
        have ek : ∀ z, l.getD (i : Int).toNat z = l[i] := fun z => by simp [hi']
        simp only [ek]
        have hst : idxF (fun d : Dep => !decide (d.state = 0)) l 0 = if (!decide (l[i].state = 0)) = true then (i : Int) else idxF (fun d : Dep => !decide (d.state = 0)) (l.drop (i + 1)) ((i + 1 : Nat) : Int) := by
          rw [he, List.drop_eq_getElem_cons hi', idxF]; rfl
        (repeat' (with_reducible (first | refine And.intro ?_ ?_ | intro _))) <;> (try (first | with_reducible (first | done | assumption | omega | contradiction) | decide))
        · rename_i h
          rw [hst, if_pos (by simp [h])]
        · rename_i h
          refine fin_lp ⟨i + 1, by omega, by rw [hst, if_neg (by simp [h])]⟩ (by simp only [go_sem, Prod.eta, Int.toNat_zero, Nat.reduceAdd, Nat.reduceMul, Nat.reduceSub, Nat.reduceEqDiff, Nat.reduceLT, Nat.reduceLeDiff, Nat.reduceShiftRight, Nat.reduceMod, Nat.reduceBEq, reduceCtorEq, reduceIte, reduceDIte, Int.reduceNeg]; first | rfl | with_reducible (first | assumption | omega | done)) (by dsimp only; omega)
      · rw [he, List.drop_of_length_le (by omega)]
        rfl)
def con42 : Con := { ps := [.d false (.sl (.int .i64)), .d false (.int .i64)], rs := [.d false .bool], pre := fun _ => True, out := fun x => (decide (idxF (fun y : Int => decide (x.2.1 = y)) x.1 0 ≥ 0), ()), nw := id }
theorem c42 : CtrOk Try.prog 42 con42.ctr :=
  con_sound (G := ⟨[(55, con55.ctr)], [], []⟩) tab_ok (EnvOk.cons c55 has55 EnvOk.nil) rfl Try.func42 rfl con42 19 (by kernel_rfl) (by decide) (by decide) rfl (by decide) rfl (by
    rintro ⟨(l : List Int), (f : Int), _⟩ hpre hwf X hT hG hk hK
    (simp only [go_sem, Prod.eta, Int.toNat_zero, Nat.reduceAdd, Nat.reduceMul, Nat.reduceSub, Nat.reduceEqDiff, Nat.reduceLT, Nat.reduceLeDiff, Nat.reduceShiftRight, Nat.reduceMod, Nat.reduceBEq, reduceCtorEq, reduceIte, reduceDIte, Int.reduceNeg, Bool.not_eq_true', Bool.not_eq_false', Bool.or_eq_true, Bool.or_eq_false_iff, Bool.and_eq_true, Bool.and_eq_false_iff, decide_eq_true_eq, decide_eq_false_iff_not, Classical.not_not, not_or, maxLen, con42, con55, hT, hG, hk, hK, Try.results42] at hwf ⊢); (try simp (disch := decide +kernel) only [drawn, true_and, and_true]))
def chV : List All → Flt → Int × Bool
  | [], _ => (0, false)
  | a :: l, f => if a.1 = f then (a.2, true) else chV l f
def con23 : Con := { ps := [.d false (.sl (.pair (.pair .str (.pair (.int .i64) (.pair .str (.int .i64)))) (.int .i64))), .d true (.pair .str (.pair (.int .i64) (.pair .str (.int .i64))))], rs := [.d false (.int .i64), .d false .bool], pre := fun _ => True, out := fun x => ((chV x.1 x.2.1).1, (chV x.1 x.2.1).2, ()), nw := id }
theorem c23 : CtrOk Try.prog 23 con23.ctr :=
  con_sound (G := ⟨[], [], []⟩) tab_ok EnvOk.nil rfl Try.func23 rfl con23 135099 (by kernel_rfl) (by decide) (by decide) rfl (by decide) rfl (by
    rintro ⟨(l : List All), (f : Flt), _⟩ hpre hwf X hT hG hk hK
    (simp only [go_sem, Prod.eta, Int.toNat_zero, Nat.reduceAdd, Nat.reduceMul, Nat.reduceSub, Nat.reduceEqDiff, Nat.reduceLT, Nat.reduceLeDiff, Nat.reduceShiftRight, Nat.reduceMod, Nat.reduceBEq, reduceCtorEq, reduceIte, reduceDIte, Int.reduceNeg, Bool.not_eq_true', Bool.not_eq_false', Bool.or_eq_true, Bool.or_eq_false_iff, Bool.and_eq_true, Bool.and_eq_false_iff, decide_eq_true_eq, decide_eq_false_iff_not, Classical.not_not, not_or, maxLen, con23, hT, hG, hk, hK, Try.results23] at hwf ⊢); (try simp (disch := decide +kernel) only [drawn, true_and, and_true])
    intro hl
    refine evk_loop ⟨{ i : Nat // i ≤ l.length ∧ chV l f = chV (l.drop i) f }, 1000, fun i => [(3, .one (.loc 64 0)), (8, .one (.sl (.pair (.pair .str (.pair (.int .i64) (.pair .str (.int .i64)))) (.int .i64)) l false)), (9, .one (.int .i64 l.length)), (10, .one (.int .i64 i.1))], fun _ => [(64, .cells 34 (expl (.pair .str (.pair (.int .i64) (.pair .str (.int .i64)))) f))], fun i => l.length - i.1⟩ ⟨0, by simp, by simp⟩ ?_ ?_
    · simp only [go_sem, Prod.eta, Int.toNat_zero, Nat.reduceAdd, Nat.reduceMul, Nat.reduceSub, Nat.reduceEqDiff, Nat.reduceLT, Nat.reduceLeDiff, Nat.reduceShiftRight, Nat.reduceMod, Nat.reduceBEq, reduceCtorEq, reduceIte, reduceDIte, Int.reduceNeg]
      rfl
    · rintro ⟨i, (hi : i ≤ l.length), (he : chV l f = chV (l.drop i) f)⟩
      (simp only [go_sem, Prod.eta, Int.toNat_zero, Nat.reduceAdd, Nat.reduceMul, Nat.reduceSub, Nat.reduceEqDiff, Nat.reduceLT, Nat.reduceLeDiff, Nat.reduceShiftRight, Nat.reduceMod, Nat.reduceBEq, reduceCtorEq, reduceIte, reduceDIte, Int.reduceNeg, Bool.not_eq_true', Bool.not_eq_false', Bool.or_eq_true, Bool.or_eq_false_iff, Bool.and_eq_true, Bool.and_eq_false_iff, decide_eq_true_eq, decide_eq_false_iff_not, Classical.not_not, not_or, maxLen, con23, hT, hG, hk, hK, Try.results23]); (try simp (disch := decide +kernel) only [drawn, true_and, and_true])
      refine ⟨fun hlt => ?_, fun hge => ?_⟩
      · have hi' : i < l.length := by omega
        have ek : ∀ z, l.getD (i : Int).toNat z = l[i] := fun z => by simp [hi']
        simp only [ek]
        have hst : chV l f = if l[i].1 = f then (l[i].2, true) else chV (l.drop (i + 1)) f := by
          rw [he, List.drop_eq_getElem_cons hi', chV]
        (repeat' (with_reducible (first | refine And.intro ?_ ?_ | intro _))) <;> (try (first | with_reducible (first | done | assumption | omega | contradiction) | decide))
        any_goals (have hf : l[i].1 = f := flt_eq (by assumption)
                   rw [hst, if_pos hf])
        have hf : ¬ l[i].1 = f := flt_ne (by assumption)
        refine fin_lp ⟨i + 1, by omega, by rw [hst, if_neg hf]⟩ (by simp only [go_sem, Prod.eta, Int.toNat_zero, Nat.reduceAdd, Nat.reduceMul, Nat.reduceSub, Nat.reduceEqDiff, Nat.reduceLT, Nat.reduceLeDiff, Nat.reduceShiftRight, Nat.reduceMod, Nat.reduceBEq, reduceCtorEq, reduceIte, reduceDIte, Int.reduceNeg]; first | rfl | with_reducible (first | assumption | omega | done)) (by dsimp only; omega)
      · rw [he, List.drop_of_length_le (by omega)]
        exact ⟨rfl, rfl⟩)
def con24 : Con := { ps := [.d false (.sl (.pair (.pair .str (.pair (.int .i64) (.pair .str (.int .i64)))) (.int .i64))), .d true (.pair .str (.pair (.int .i64) (.pair .str (.int .i64))))], rs := [.d false (.int .i64), .d false .bool], pre := fun _ => True, out := fun x => ((chV x.1 x.2.1).1, (chV x.1 x.2.1).2, ()), nw := id }
theorem c24 : CtrOk Try.prog 24 con24.ctr :=
  con_sound (G := ⟨[], [], []⟩) tab_ok EnvOk.nil rfl Try.func24 rfl con24 525435 (by kernel_rfl) (by decide) (by decide) rfl (by decide) rfl (by
    rintro ⟨(l : List All), (f : Flt), _⟩ hpre hwf X hT hG hk hK
    (simp only [go_sem, Prod.eta, Int.toNat_zero, Nat.reduceAdd, Nat.reduceMul, Nat.reduceSub, Nat.reduceEqDiff, Nat.reduceLT, Nat.reduceLeDiff, Nat.reduceShiftRight, Nat.reduceMod, Nat.reduceBEq, reduceCtorEq, reduceIte, reduceDIte, Int.reduceNeg, Bool.not_eq_true', Bool.not_eq_false', Bool.or_eq_true, Bool.or_eq_false_iff, Bool.and_eq_true, Bool.and_eq_false_iff, decide_eq_true_eq, decide_eq_false_iff_not, Classical.not_not, not_or, maxLen, con24, hT, hG, hk, hK, Try.results24] at hwf ⊢); (try simp (disch := decide +kernel) only [drawn, true_and, and_true])
    refine evk_loop ⟨{ i : Nat // i ≤ l.length ∧ chV l f = chV (l.drop i) f }, 1000, fun i => [(0, .one (.sl (.pair (.pair .str (.pair (.int .i64) (.pair .str (.int .i64)))) (.int .i64)) l false)), (3, .one (.loc 64 0)), (6, .one (.int .i64 i.1))], fun _ => [(64, .cells 34 (expl (.pair .str (.pair (.int .i64) (.pair .str (.int .i64)))) f))], fun i => l.length - i.1⟩ ⟨0, by simp, by simp⟩ ?_ ?_
    · simp only [go_sem, Prod.eta, Int.toNat_zero, Nat.reduceAdd, Nat.reduceMul, Nat.reduceSub, Nat.reduceEqDiff, Nat.reduceLT, Nat.reduceLeDiff, Nat.reduceShiftRight, Nat.reduceMod, Nat.reduceBEq, reduceCtorEq, reduceIte, reduceDIte, Int.reduceNeg]
      rfl
    · rintro ⟨i, (hi : i ≤ l.length), (he : chV l f = chV (l.drop i) f)⟩
      (simp only [go_sem, Prod.eta, Int.toNat_zero, Nat.reduceAdd, Nat.reduceMul, Nat.reduceSub, Nat.reduceEqDiff, Nat.reduceLT, Nat.reduceLeDiff, Nat.reduceShiftRight, Nat.reduceMod, Nat.reduceBEq, reduceCtorEq, reduceIte, reduceDIte, Int.reduceNeg, Bool.not_eq_true', Bool.not_eq_false', Bool.or_eq_true, Bool.or_eq_false_iff, Bool.and_eq_true, Bool.and_eq_false_iff, decide_eq_true_eq, decide_eq_false_iff_not, Classical.not_not, not_or, maxLen, con24, hT, hG, hk, hK, Try.results24]); (try simp (disch := decide +kernel) only [drawn, true_and, and_true])
      intro hl
      refine ⟨fun hlt => ?_, fun hge => ?_⟩
      · have hi' : i < l.length := by omega
        have ek : ∀ z, l.getD (i : Int).toNat z = l[i] := fun z => by simp [hi']
        simp only [ek]
        have hst : chV l f = if l[i].1 = f then (l[i].2, true) else chV (l.drop (i + 1)) f := by
          rw [he, List.drop_eq_getElem_cons hi', chV]
        (repeat' (with_reducible (first | refine And.intro ?_ ?_ | intro _))) <;> (try (first | with_reducible (first | done | assumption | omega | contradiction) | decide))
        any_goals (have hf : l[i].1 = f := flt_eq (by assumption)
                   rw [hst, if_pos hf])
        have hf : ¬ l[i].1 = f := flt_ne (by assumption)
        refine fin_lp ⟨i + 1, by omega, by rw [hst, if_neg hf]⟩ (by simp only [go_sem, Prod.eta, Int.toNat_zero, Nat.reduceAdd, Nat.reduceMul, Nat.reduceSub, Nat.reduceEqDiff, Nat.reduceLT, Nat.reduceLeDiff, Nat.reduceShiftRight, Nat.reduceMod, Nat.reduceBEq, reduceCtorEq, reduceIte, reduceDIte, Int.reduceNeg]; first | rfl | with_reducible (first | assumption | omega | done)) (by dsimp only; omega)
      · rw [he, List.drop_of_length_le (by omega)]
        exact ⟨rfl, rfl⟩)
def ascF : List Flt → Bool
  | a :: b :: l => decide (fltC a b < 0) && ascF (b :: l)
  | _ => true
def con40 : Con := { ps := [.d false (.sl (.pair .str (.pair (.int .i64) (.pair .str (.int .i64)))))], rs := [.d false .bool], pre := fun _ => True, out := fun x => (ascF x.1, ()), nw := id }
theorem c40 : CtrOk Try.prog 40 con40.ctr :=
  con_sound (G := ⟨[(53, con53.ctr)], [], []⟩) tab_ok (EnvOk.cons c53 has53 EnvOk.nil) rfl Try.func40 rfl con40 1048717 (by kernel_rfl) (by decide) (by decide) rfl (by decide) rfl (by
    rintro ⟨(l : List Flt), _⟩ hpre hwf X hT hG hk hK
    (simp only [go_sem, Prod.eta, Int.toNat_zero, Nat.reduceAdd, Nat.reduceMul, Nat.reduceSub, Nat.reduceEqDiff, Nat.reduceLT, Nat.reduceLeDiff, Nat.reduceShiftRight, Nat.reduceMod, Nat.reduceBEq, reduceCtorEq, reduceIte, reduceDIte, Int.reduceNeg, Bool.not_eq_true', Bool.not_eq_false', Bool.or_eq_true, Bool.or_eq_false_iff, Bool.and_eq_true, Bool.and_eq_false_iff, decide_eq_true_eq, decide_eq_false_iff_not, Classical.not_not, not_or, maxLen, con40, con53, hT, hG, hk, hK, Try.results40] at hwf ⊢); (try simp (disch := decide +kernel) only [drawn, true_and, and_true])
    refine evk_loop ⟨{ i : Nat // (i ≤ l.length ∨ i = 0) ∧ ascF l = ascF (l.drop i) }, 1000, fun i => [(0, .one (.sl (.pair .str (.pair (.int .i64) (.pair .str (.int .i64)))) l false)), (3, .one (.int .i64 (i.1 + 1)))], fun _ => [], fun i => l.length - i.1⟩ ⟨0, by simp, by simp⟩ ?_ ?_
    · simp only [go_sem, Prod.eta, Int.toNat_zero, Nat.reduceAdd, Nat.reduceMul, Nat.reduceSub, Nat.reduceEqDiff, Nat.reduceLT, Nat.reduceLeDiff, Nat.reduceShiftRight, Nat.reduceMod, Nat.reduceBEq, reduceCtorEq, reduceIte, reduceDIte, Int.reduceNeg]
      rfl
    · rintro ⟨i, (hi : i ≤ l.length ∨ i = 0), (he : ascF l = ascF (l.drop i))⟩
      (simp only [go_sem, Prod.eta, Int.toNat_zero, Nat.reduceAdd, Nat.reduceMul, Nat.reduceSub, Nat.reduceEqDiff, Nat.reduceLT, Nat.reduceLeDiff, Nat.reduceShiftRight, Nat.reduceMod, Nat.reduceBEq, reduceCtorEq, reduceIte, reduceDIte, Int.reduceNeg, Bool.not_eq_true', Bool.not_eq_false', Bool.or_eq_true, Bool.or_eq_false_iff, Bool.and_eq_true, Bool.and_eq_false_iff, decide_eq_true_eq, decide_eq_false_iff_not, Classical.not_not, not_or, maxLen, con40, con53, hT, hG, hk, hK, Try.results40]); (try simp (disch := decide +kernel) only [drawn, true_and, and_true])
      intro hl
      refine ⟨fun hlt => ?_, fun hge => ?_⟩
      · have hi' : i < l.length := by omega
        have hi2 : i + 1 < l.length := by omega
        have ek : ∀ z, l.getD ((i : Int) + 1).toNat z = l[i + 1] := fun z => by
          rw [show ((i : Int) + 1).toNat = i + 1 by omega]; simp [hi2]
        have ek2 : ∀ z, l.getD ((i : Int) + 1 - 1).toNat z = l[i] := fun z => by
          rw [show ((i : Int) + 1 - 1).toNat = i by omega]; simp [hi']
        simp only [ek, ek2]
        have hst : ascF l = (decide (fltC l[i] l[i + 1] < 0) && ascF (l.drop (i + 1))) := by
          rw [he, List.drop_eq_getElem_cons hi', List.drop_eq_getElem_cons hi2, ascF]
        (repeat' (with_reducible (first | refine And.intro ?_ ?_ | intro _))) <;> (try (first | with_reducible (first | done | assumption | omega | contradiction) | decide))
        · rename_i h
          rw [hst, decide_eq_false (by omega)]
          rfl
        · rename_i h
          refine fin_lp ⟨i + 1, by omega, by rw [hst, decide_eq_true (by omega)]; rfl⟩ (by simp only [go_sem, Prod.eta, Int.toNat_zero, Nat.reduceAdd, Nat.reduceMul, Nat.reduceSub, Nat.reduceEqDiff, Nat.reduceLT, Nat.reduceLeDiff, Nat.reduceShiftRight, Nat.reduceMod, Nat.reduceBEq, reduceCtorEq, reduceIte, reduceDIte, Int.reduceNeg]; first | rfl | with_reducible (first | assumption | omega | done)) (by dsimp only; omega)
      · rw [he]
        rcases h : l.drop i with _ | ⟨a, _ | ⟨b, q⟩⟩
        · rfl
        · rfl
        · have := congrArg List.length h
          rw [List.length_drop] at this
          simp only [List.length_cons] at this
          omega)
def con41 : Con := { ps := [.d false (.sl (.pair .str (.pair (.int .i64) (.pair .str (.int .i64))))), .d false (.sl (.pair .str (.pair (.int .i64) (.pair .str (.int .i64)))))], rs := [.d false .bool], pre := fun _ => True, out := fun (x : List Flt × List Flt × Unit) => (decide (x.1 = x.2.1), ()), nw := id }
theorem c41 : CtrOk Try.prog 41 con41.ctr :=
  con_sound (G := ⟨[], [], []⟩) tab_ok EnvOk.nil rfl Try.func41 rfl con41 16806963 (by kernel_rfl) (by decide) (by decide) rfl (by decide) rfl (by
    rintro ⟨(a : List Flt), (b : List Flt), _⟩ hpre hwf X hT hG hk hK
    (simp only [go_sem, Prod.eta, Int.toNat_zero, Nat.reduceAdd, Nat.reduceMul, Nat.reduceSub, Nat.reduceEqDiff, Nat.reduceLT, Nat.reduceLeDiff, Nat.reduceShiftRight, Nat.reduceMod, Nat.reduceBEq, reduceCtorEq, reduceIte, reduceDIte, Int.reduceNeg, Bool.not_eq_true', Bool.not_eq_false', Bool.or_eq_true, Bool.or_eq_false_iff, Bool.and_eq_true, Bool.and_eq_false_iff, decide_eq_true_eq, decide_eq_false_iff_not, Classical.not_not, not_or, maxLen, con41, hT, hG, hk, hK, Try.results41] at hwf ⊢); (try simp (disch := decide +kernel) only [drawn, true_and, and_true])
    (repeat' (with_reducible (first | refine And.intro ?_ ?_ | intro _))) <;> (try (first | with_reducible (first | done | assumption | omega | contradiction) | decide))
    · rename_i h
      exact (decide_eq_false fun e => h (by rw [e])).symm
    · rename_i hq _
      refine evk_loop ⟨{ i : Nat // i ≤ a.length ∧ a.take i = b.take i }, 1000, fun i => [(0, .one (.sl (.pair .str (.pair (.int .i64) (.pair .str (.int .i64)))) a false)), (1, .one (.sl (.pair .str (.pair (.int .i64) (.pair .str (.int .i64)))) b false)), (12, .one (.int .i64 a.length)), (13, .one (.int .i64 i.1))], fun _ => [], fun i => a.length - i.1⟩ ⟨0, by simp, by simp⟩ ?_ ?_
      · simp only [go_sem, Prod.eta, Int.toNat_zero, Nat.reduceAdd, Nat.reduceMul, Nat.reduceSub, Nat.reduceEqDiff, Nat.reduceLT, Nat.reduceLeDiff, Nat.reduceShiftRight, Nat.reduceMod, Nat.reduceBEq, reduceCtorEq, reduceIte, reduceDIte, Int.reduceNeg]
        rfl
      · rintro ⟨i, (hi : i ≤ a.length), (he : a.take i = b.take i)⟩
        (simp only [go_sem, Prod.eta, Int.toNat_zero, Nat.reduceAdd, Nat.reduceMul, Nat.reduceSub, Nat.reduceEqDiff, Nat.reduceLT, Nat.reduceLeDiff, Nat.reduceShiftRight, Nat.reduceMod, Nat.reduceBEq, reduceCtorEq, reduceIte, reduceDIte, Int.reduceNeg, Bool.not_eq_true', Bool.not_eq_false', Bool.or_eq_true, Bool.or_eq_false_iff, Bool.and_eq_true, Bool.and_eq_false_iff, decide_eq_true_eq, decide_eq_false_iff_not, Classical.not_not, not_or, maxLen, con41, hT, hG, hk, hK, Try.results41]); (try simp (disch := decide +kernel) only [drawn, true_and, and_true])
        refine ⟨fun hlt => ?_, fun hge => ?_⟩
        · have hi' : i < a.length := by omega
          have hi2 : i < b.length := by omega
          have ek : ∀ z, a.getD (i : Int).toNat z = a[i] := fun z => by simp [hi']
          have ek2 : ∀ z, b.getD (i : Int).toNat z = b[i] := fun z => by simp [hi2]
          simp only [ek, ek2]
          (repeat' (with_reducible (first | refine And.intro ?_ ?_ | intro _))) <;> (try (first | with_reducible (first | done | assumption | omega | contradiction) | decide))
          · rename_i h
            exact (decide_eq_false fun e => flt_ne h (by simp only [e])).symm
          · rename_i h
            refine fin_lp ⟨i + 1, by omega, by rw [List.take_succ_eq_append_getElem hi', List.take_succ_eq_append_getElem hi2, he, flt_eq h]⟩ (by simp only [go_sem, Prod.eta, Int.toNat_zero, Nat.reduceAdd, Nat.reduceMul, Nat.reduceSub, Nat.reduceEqDiff, Nat.reduceLT, Nat.reduceLeDiff, Nat.reduceShiftRight, Nat.reduceMod, Nat.reduceBEq, reduceCtorEq, reduceIte, reduceDIte, Int.reduceNeg]; first | rfl | with_reducible (first | assumption | omega | done)) (by dsimp only; omega)
        · rw [List.take_of_length_le (by omega), List.take_of_length_le (by omega)] at he
          exact (decide_eq_true he).symm)
end Go.Proofs.Ytdmgmdppejopcaa
