/- The contracts of the reference's functions: what is the same, Find, Overlap. -/
import Derived.Test.YtdmgmdppejopcaaGreatMpMToR
import Derived.Test.YtdmgmdppejopcaaGreatMpFToV
set_option linter.unusedSimpArgs false
set_option linter.unusedVariables false
set_option maxRecDepth 100000
set_option maxHeartbeats 4000000
namespace Go.Proofs.YtdmgmdppejopcaaGreat
open Go.Ev

def con37 : Con := { ps := [.d false (.sl (.pair .str (.pair (.int .i64) (.pair .str (.int .i64))))), .d false (.sl (.pair .str (.pair (.int .i64) (.pair .str (.int .i64)))))], rs := [.d false .bool], pre := fun _ => True, out := fun (x : List Flt × List Flt × Unit) => (decide (x.1 = x.2.1), ()), nw := id }
theorem c37 : CtrOk Tryz.prog 37 con37.ctr :=
  con_sound (G := ⟨[], [], []⟩) tab_ok EnvOk.nil rfl Tryz.func37 rfl con37 33571891 (by kernel_rfl) (by decide) (by decide) rfl (by decide) rfl (by
    rintro ⟨(a : List Flt), (b : List Flt), _⟩ hpre hwf X hT hG hk hK
    (simp only [go_sem, Prod.eta, Option.isSome_none, Option.isSome_some, Int.toNat_zero, Nat.reduceAdd, Nat.reduceMul, Nat.reduceSub, Nat.reduceEqDiff, Nat.reduceLT, Nat.reduceLeDiff, Nat.reduceShiftRight, Nat.reduceMod, Nat.reduceBEq, reduceCtorEq, reduceIte, reduceDIte, Int.reduceNeg, Bool.not_eq_true', Bool.not_eq_false', Bool.or_eq_true, Bool.or_eq_false_iff, Bool.and_eq_true, Bool.and_eq_false_iff, decide_eq_true_eq, decide_eq_false_iff_not, Classical.not_not, not_or, maxLen, con37, hT, hG, hk, hK, Tryz.results37] at hwf ⊢); (try simp (disch := decide +kernel) only [drawn, true_and, and_true])
    (repeat' (with_reducible (first | refine And.intro ?_ ?_ | intro _))) <;> (try (first | with_reducible (first | done | assumption | omega | contradiction) | decide))
    · rename_i h
      exact (decide_eq_false fun e => h (by rw [e])).symm
    · have hq : (a.length : Int) = b.length := by assumption
      refine evk_loop ⟨{ i : Nat // i ≤ a.length ∧ a.take i = b.take i }, 1000, fun i => [(0, .one (.sl (.pair .str (.pair (.int .i64) (.pair .str (.int .i64)))) a false)), (1, .one (.sl (.pair .str (.pair (.int .i64) (.pair .str (.int .i64)))) b false)), (5, .one (.int .i64 i.1))], fun _ => [], fun i => a.length - i.1⟩ ⟨0, by simp, by simp⟩ ?_ ?_
      · simp only [go_sem, Prod.eta, Option.isSome_none, Option.isSome_some, Int.toNat_zero, Nat.reduceAdd, Nat.reduceMul, Nat.reduceSub, Nat.reduceEqDiff, Nat.reduceLT, Nat.reduceLeDiff, Nat.reduceShiftRight, Nat.reduceMod, Nat.reduceBEq, reduceCtorEq, reduceIte, reduceDIte, Int.reduceNeg]
        rfl
      · rintro ⟨i, (hi : i ≤ a.length), (he : a.take i = b.take i)⟩
        (simp only [go_sem, Prod.eta, Option.isSome_none, Option.isSome_some, Int.toNat_zero, Nat.reduceAdd, Nat.reduceMul, Nat.reduceSub, Nat.reduceEqDiff, Nat.reduceLT, Nat.reduceLeDiff, Nat.reduceShiftRight, Nat.reduceMod, Nat.reduceBEq, reduceCtorEq, reduceIte, reduceDIte, Int.reduceNeg, Bool.not_eq_true', Bool.not_eq_false', Bool.or_eq_true, Bool.or_eq_false_iff, Bool.and_eq_true, Bool.and_eq_false_iff, decide_eq_true_eq, decide_eq_false_iff_not, Classical.not_not, not_or, maxLen, con37, hT, hG, hk, hK, Tryz.results37]); (try simp (disch := decide +kernel) only [drawn, true_and, and_true])
        refine fun _ => ⟨fun hlt => ?_, fun hge => ?_⟩
        · have hi' : i < a.length := by omega
          have hi2 : i < b.length := by omega
          have ek : ∀ z, a.getD (i : Int).toNat z = a[i] := fun z => by simp [hi']
          have ek2 : ∀ z, b.getD (i : Int).toNat z = b[i] := fun z => by simp [hi2]
          simp only [ek, ek2]
          (repeat' (with_reducible (first | refine And.intro ?_ ?_ | intro _))) <;> (try (first | with_reducible (first | done | assumption | omega | contradiction) | decide))
          · rename_i h
            exact (decide_eq_false fun e => flt_ne h (by simp only [e])).symm
          · rename_i h
            refine fin_lp ⟨i + 1, by omega, by rw [List.take_succ_eq_append_getElem hi', List.take_succ_eq_append_getElem hi2, he, flt_eq h]⟩ (by simp only [go_sem, Prod.eta, Option.isSome_none, Option.isSome_some, Int.toNat_zero, Nat.reduceAdd, Nat.reduceMul, Nat.reduceSub, Nat.reduceEqDiff, Nat.reduceLT, Nat.reduceLeDiff, Nat.reduceShiftRight, Nat.reduceMod, Nat.reduceBEq, reduceCtorEq, reduceIte, reduceDIte, Int.reduceNeg]; first | rfl | ((repeat' apply And.intro) <;> first | rfl | assumption | omega)) (by dsimp only; omega)
        · rw [List.take_of_length_le (by omega), List.take_of_length_le (by omega)] at he
          exact (decide_eq_true he).symm)
def con49 : Con := { ps := [.d false (.sl (.pair (.pair .str (.pair (.int .i64) (.pair .str (.int .i64)))) (.pair .str (.pair (.int .i64) (.pair (.int .i64) (.pair (.int .i64) (.pair (.int .i64) (.int .i64)))))))), .d true (.pair .str (.pair (.int .i64) (.pair .str (.int .i64))))], rs := [.d false (.int .i64)], pre := fun _ => True, out := fun x => (findV x.1 x.2.1, ()), nw := id }
theorem c49 : CtrOk Tryz.prog 49 con49.ctr :=
  con_sound (G := ⟨[], [], []⟩) tab_ok EnvOk.nil rfl Tryz.func49 rfl con49 262715 (by kernel_rfl) (by decide) (by decide) rfl (by decide) rfl (by
    rintro ⟨(l : List Dep), (f : Flt), _⟩ hpre hwf X hT hG hk hK
    (simp only [go_sem, Prod.eta, Option.isSome_none, Option.isSome_some, Int.toNat_zero, Nat.reduceAdd, Nat.reduceMul, Nat.reduceSub, Nat.reduceEqDiff, Nat.reduceLT, Nat.reduceLeDiff, Nat.reduceShiftRight, Nat.reduceMod, Nat.reduceBEq, reduceCtorEq, reduceIte, reduceDIte, Int.reduceNeg, Bool.not_eq_true', Bool.not_eq_false', Bool.or_eq_true, Bool.or_eq_false_iff, Bool.and_eq_true, Bool.and_eq_false_iff, decide_eq_true_eq, decide_eq_false_iff_not, Classical.not_not, not_or, maxLen, con49, hT, hG, hk, hK, Tryz.results49] at hwf ⊢); (try simp (disch := decide +kernel) only [drawn, true_and, and_true])
    refine evk_loop ⟨{ i : Nat // i ≤ l.length ∧ findV l f = idxF (fun d => decide (d.1 = f)) (l.drop i) i }, 1000, fun i => [(0, .one (.sl (.pair (.pair .str (.pair (.int .i64) (.pair .str (.int .i64)))) (.pair .str (.pair (.int .i64) (.pair (.int .i64) (.pair (.int .i64) (.pair (.int .i64) (.int .i64))))))) l false)), (3, .one (.loc 64 0)), (5, .one (.int .i64 i.1))], fun _ => [(64, .cells 50 (expl (.pair .str (.pair (.int .i64) (.pair .str (.int .i64)))) f))], fun i => l.length - i.1⟩ ⟨0, by simp, by simp [findV]⟩ ?_ ?_
    · simp only [go_sem, Prod.eta, Option.isSome_none, Option.isSome_some, Int.toNat_zero, Nat.reduceAdd, Nat.reduceMul, Nat.reduceSub, Nat.reduceEqDiff, Nat.reduceLT, Nat.reduceLeDiff, Nat.reduceShiftRight, Nat.reduceMod, Nat.reduceBEq, reduceCtorEq, reduceIte, reduceDIte, Int.reduceNeg]
      rfl
    · rintro ⟨i, (hi : i ≤ l.length), (he : findV l f = idxF (fun d => decide (d.1 = f)) (l.drop i) i)⟩
      (simp only [go_sem, Prod.eta, Option.isSome_none, Option.isSome_some, Int.toNat_zero, Nat.reduceAdd, Nat.reduceMul, Nat.reduceSub, Nat.reduceEqDiff, Nat.reduceLT, Nat.reduceLeDiff, Nat.reduceShiftRight, Nat.reduceMod, Nat.reduceBEq, reduceCtorEq, reduceIte, reduceDIte, Int.reduceNeg, Bool.not_eq_true', Bool.not_eq_false', Bool.or_eq_true, Bool.or_eq_false_iff, Bool.and_eq_true, Bool.and_eq_false_iff, decide_eq_true_eq, decide_eq_false_iff_not, Classical.not_not, not_or, maxLen, con49, hT, hG, hk, hK, Tryz.results49]); (try simp (disch := decide +kernel) only [drawn, true_and, and_true])
      refine fun _ => ⟨fun hlt => ?_, fun hge => ?_⟩
      · have hi' : i < l.length := by omega
        have ek : ∀ z, l.getD (i : Int).toNat z = l[i] := fun z => by simp [hi']
        simp only [ek]
        have hst : findV l f = if decide (l[i].1 = f) = true then (i : Int) else idxF (fun d => decide (d.1 = f)) (l.drop (i + 1)) ((i + 1 : Nat) : Int) := by
          rw [he, List.drop_eq_getElem_cons hi', idxF]; rfl
        (repeat' (with_reducible (first | refine And.intro ?_ ?_ | intro _))) <;> (try (first | with_reducible (first | done | assumption | omega | contradiction) | decide))
        · rename_i h _
          have h : l[i].1.1 = f.1 ∧ l[i].1.2.1 = f.2.1 ∧ l[i].1.2.2.1 = f.2.2.1 ∧ l[i].1.2.2.2 = f.2.2.2 := by assumption
          rw [hst, if_pos (decide_eq_true (flt_eq h))]
        · have h : ¬ l[i].1.1 = f.1 ∨ ¬ l[i].1.2.1 = f.2.1 ∨ ¬ l[i].1.2.2.1 = f.2.2.1 ∨ ¬ l[i].1.2.2.2 = f.2.2.2 := by assumption
          refine fin_lp ⟨i + 1, by omega, by rw [hst, if_neg (by rw [decide_eq_true_eq]; exact flt_ne h)]⟩ (by simp only [go_sem, Prod.eta, Option.isSome_none, Option.isSome_some, Int.toNat_zero, Nat.reduceAdd, Nat.reduceMul, Nat.reduceSub, Nat.reduceEqDiff, Nat.reduceLT, Nat.reduceLeDiff, Nat.reduceShiftRight, Nat.reduceMod, Nat.reduceBEq, reduceCtorEq, reduceIte, reduceDIte, Int.reduceNeg]; first | rfl | ((repeat' apply And.intro) <;> first | rfl | assumption | omega)) (by dsimp only; omega)
      · rw [he, List.drop_of_length_le (by omega)]
        rfl)
end Go.Proofs.YtdmgmdppejopcaaGreat

/- The contracts of the reference's functions: SamePlan, Same. -/
set_option linter.unusedSimpArgs false
set_option linter.unusedVariables false
set_option maxRecDepth 100000
set_option maxHeartbeats 4000000
namespace Go.Proofs.YtdmgmdppejopcaaGreat
open Go.Ev

theorem all_eq {a b : All} (h : a.1.1 = b.1.1 ∧ a.1.2.1 = b.1.2.1 ∧ a.1.2.2.1 = b.1.2.2.1 ∧ a.1.2.2.2 = b.1.2.2.2 ∧ a.2 = b.2) : a = b :=
  Prod.ext (flt_eq ⟨h.1, h.2.1, h.2.2.1, h.2.2.2.1⟩) h.2.2.2.2
theorem all_ne {a b : All} (h : ¬ a.1.1 = b.1.1 ∨ ¬ a.1.2.1 = b.1.2.1 ∨ ¬ a.1.2.2.1 = b.1.2.2.1 ∨ ¬ a.1.2.2.2 = b.1.2.2.2 ∨ ¬ a.2 = b.2) : ¬ a = b := by
  rintro rfl
  simp at h
def con36 : Con := { ps := [.d false (.sl (.pair (.pair .str (.pair (.int .i64) (.pair .str (.int .i64)))) (.int .i64))), .d false (.sl (.pair (.pair .str (.pair (.int .i64) (.pair .str (.int .i64)))) (.int .i64)))], rs := [.d false .bool], pre := fun _ => True, out := fun (x : List All × List All × Unit) => (decide (x.1 = x.2.1), ()), nw := id }
theorem c36 : CtrOk Tryz.prog 36 con36.ctr :=
  con_sound (G := ⟨[], [], []⟩) tab_ok EnvOk.nil rfl Tryz.func36 rfl con36 33571891 (by kernel_rfl) (by decide) (by decide) rfl (by decide) rfl (by
    rintro ⟨(a : List All), (b : List All), _⟩ hpre hwf X hT hG hk hK
    (simp only [go_sem, Prod.eta, Option.isSome_none, Option.isSome_some, Int.toNat_zero, Nat.reduceAdd, Nat.reduceMul, Nat.reduceSub, Nat.reduceEqDiff, Nat.reduceLT, Nat.reduceLeDiff, Nat.reduceShiftRight, Nat.reduceMod, Nat.reduceBEq, reduceCtorEq, reduceIte, reduceDIte, Int.reduceNeg, Bool.not_eq_true', Bool.not_eq_false', Bool.or_eq_true, Bool.or_eq_false_iff, Bool.and_eq_true, Bool.and_eq_false_iff, decide_eq_true_eq, decide_eq_false_iff_not, Classical.not_not, not_or, maxLen, con36, hT, hG, hk, hK, Tryz.results36] at hwf ⊢); (try simp (disch := decide +kernel) only [drawn, true_and, and_true])
    (repeat' (with_reducible (first | refine And.intro ?_ ?_ | intro _))) <;> (try (first | with_reducible (first | done | assumption | omega | contradiction) | decide))
    · rename_i h
      exact (decide_eq_false fun e => h (by rw [e])).symm
    · have hq : (a.length : Int) = b.length := by assumption
      refine evk_loop ⟨{ i : Nat // i ≤ a.length ∧ a.take i = b.take i }, 1000, fun i => [(0, .one (.sl (.pair (.pair .str (.pair (.int .i64) (.pair .str (.int .i64)))) (.int .i64)) a false)), (1, .one (.sl (.pair (.pair .str (.pair (.int .i64) (.pair .str (.int .i64)))) (.int .i64)) b false)), (5, .one (.int .i64 i.1))], fun _ => [], fun i => a.length - i.1⟩ ⟨0, by simp, by simp⟩ ?_ ?_
      · simp only [go_sem, Prod.eta, Option.isSome_none, Option.isSome_some, Int.toNat_zero, Nat.reduceAdd, Nat.reduceMul, Nat.reduceSub, Nat.reduceEqDiff, Nat.reduceLT, Nat.reduceLeDiff, Nat.reduceShiftRight, Nat.reduceMod, Nat.reduceBEq, reduceCtorEq, reduceIte, reduceDIte, Int.reduceNeg]
        rfl
      · rintro ⟨i, (hi : i ≤ a.length), (he : a.take i = b.take i)⟩
        (simp only [go_sem, Prod.eta, Option.isSome_none, Option.isSome_some, Int.toNat_zero, Nat.reduceAdd, Nat.reduceMul, Nat.reduceSub, Nat.reduceEqDiff, Nat.reduceLT, Nat.reduceLeDiff, Nat.reduceShiftRight, Nat.reduceMod, Nat.reduceBEq, reduceCtorEq, reduceIte, reduceDIte, Int.reduceNeg, Bool.not_eq_true', Bool.not_eq_false', Bool.or_eq_true, Bool.or_eq_false_iff, Bool.and_eq_true, Bool.and_eq_false_iff, decide_eq_true_eq, decide_eq_false_iff_not, Classical.not_not, not_or, maxLen, con36, hT, hG, hk, hK, Tryz.results36]); (try simp (disch := decide +kernel) only [drawn, true_and, and_true])
        refine fun _ => ⟨fun hlt => ?_, fun hge => ?_⟩
        · have hi' : i < a.length := by omega
          have hi2 : i < b.length := by omega
          have ek : ∀ z, a.getD (i : Int).toNat z = a[i] := fun z => by simp [hi']
          have ek2 : ∀ z, b.getD (i : Int).toNat z = b[i] := fun z => by simp [hi2]
          simp only [ek, ek2]
          (repeat' (with_reducible (first | refine And.intro ?_ ?_ | intro _))) <;> (try (first | with_reducible (first | done | assumption | omega | contradiction) | decide))
          · rename_i h
            exact (decide_eq_false fun e => all_ne h (by simp only [e])).symm
          · rename_i h
            refine fin_lp ⟨i + 1, by omega, by rw [List.take_succ_eq_append_getElem hi', List.take_succ_eq_append_getElem hi2, he, all_eq h]⟩ (by simp only [go_sem, Prod.eta, Option.isSome_none, Option.isSome_some, Int.toNat_zero, Nat.reduceAdd, Nat.reduceMul, Nat.reduceSub, Nat.reduceEqDiff, Nat.reduceLT, Nat.reduceLeDiff, Nat.reduceShiftRight, Nat.reduceMod, Nat.reduceBEq, reduceCtorEq, reduceIte, reduceDIte, Int.reduceNeg]; first | rfl | ((repeat' apply And.intro) <;> first | rfl | assumption | omega)) (by dsimp only; omega)
        · rw [List.take_of_length_le (by omega), List.take_of_length_le (by omega)] at he
          exact (decide_eq_true he).symm)
def con12 : Con := { ps := [.d true (.pair (.sl (.pair (.pair .str (.pair (.int .i64) (.pair .str (.int .i64)))) (.int .i64))) (.pair (.int .i64) (.sl (.pair .str (.pair (.int .i64) (.pair .str (.int .i64))))))), .d true (.pair (.sl (.pair (.pair .str (.pair (.int .i64) (.pair .str (.int .i64)))) (.int .i64))) (.pair (.int .i64) (.sl (.pair .str (.pair (.int .i64) (.pair .str (.int .i64)))))))], rs := [.d false .bool], pre := fun _ => True, out := fun (x : Mk × Mk × Unit) => (decide (x.1.2.1 = x.2.1.2.1) && decide (x.1.1 = x.2.1.1) && decide (x.1.2.2 = x.2.1.2.2), ()), nw := id }
theorem c12 : CtrOk Tryz.prog 12 con12.ctr :=
  con_sound (G := ⟨[(36, con36.ctr), (37, con37.ctr)], [], []⟩) tab_ok (EnvOk.cons c36 has36 (EnvOk.cons c37 has37 EnvOk.nil)) rfl Tryz.func12 rfl con12 31 (by kernel_rfl) (by decide) (by decide) rfl (by decide) rfl (by
    rintro ⟨⟨(p : List All), (t : Int), (q : List Flt)⟩, ⟨(p2 : List All), (t2 : Int), (q2 : List Flt)⟩, _⟩ hpre hwf X hT hG hk hK
    (simp only [go_sem, Prod.eta, Option.isSome_none, Option.isSome_some, Int.toNat_zero, Nat.reduceAdd, Nat.reduceMul, Nat.reduceSub, Nat.reduceEqDiff, Nat.reduceLT, Nat.reduceLeDiff, Nat.reduceShiftRight, Nat.reduceMod, Nat.reduceBEq, reduceCtorEq, reduceIte, reduceDIte, Int.reduceNeg, Bool.not_eq_true', Bool.not_eq_false', Bool.or_eq_true, Bool.or_eq_false_iff, Bool.and_eq_true, Bool.and_eq_false_iff, decide_eq_true_eq, decide_eq_false_iff_not, Classical.not_not, not_or, maxLen, con12, con36, con37, hT, hG, hk, hK, Tryz.results12] at hwf ⊢); (try simp (disch := decide +kernel) only [drawn, true_and, and_true]))
end Go.Proofs.YtdmgmdppejopcaaGreat

/- The contracts of the reference's functions: Overlap. -/
set_option linter.unusedSimpArgs false
set_option linter.unusedVariables false
set_option maxRecDepth 100000
set_option maxHeartbeats 4000000
namespace Go.Proofs.YtdmgmdppejopcaaGreat
open Go.Ev

def maxI (a b : Int) : Int := if b > a then b else a
def overR (a b : Dep) : Bool := isOpenV a (maxI a.opens b.opens) && isOpenV b (maxI a.opens b.opens)
def con34 : Con := { ps := [.d true (.pair (.pair .str (.pair (.int .i64) (.pair .str (.int .i64)))) (.pair .str (.pair (.int .i64) (.pair (.int .i64) (.pair (.int .i64) (.pair (.int .i64) (.int .i64))))))), .d true (.pair (.pair .str (.pair (.int .i64) (.pair .str (.int .i64)))) (.pair .str (.pair (.int .i64) (.pair (.int .i64) (.pair (.int .i64) (.pair (.int .i64) (.int .i64)))))))], rs := [.d false .bool], pre := fun _ => True, out := fun (x : Dep × Dep × Unit) => (overR x.1 x.2.1, ()), nw := id }
theorem c34 : CtrOk Tryz.prog 34 con34.ctr :=
  con_sound (G := ⟨[(42, con42.ctr)], [], []⟩) tab_ok (EnvOk.cons c42 has42 EnvOk.nil) rfl Tryz.func34 rfl con34 31 (by kernel_rfl) (by decide) (by decide) rfl (by decide) rfl (by
    rintro ⟨(a : Dep), (b : Dep), _⟩ hpre hwf X hT hG hk hK
    (simp only [go_sem, Prod.eta, Option.isSome_none, Option.isSome_some, Int.toNat_zero, Nat.reduceAdd, Nat.reduceMul, Nat.reduceSub, Nat.reduceEqDiff, Nat.reduceLT, Nat.reduceLeDiff, Nat.reduceShiftRight, Nat.reduceMod, Nat.reduceBEq, reduceCtorEq, reduceIte, reduceDIte, Int.reduceNeg, Bool.not_eq_true', Bool.not_eq_false', Bool.or_eq_true, Bool.or_eq_false_iff, Bool.and_eq_true, Bool.and_eq_false_iff, decide_eq_true_eq, decide_eq_false_iff_not, Classical.not_not, not_or, maxLen, con34, con42, hT, hG, hk, hK, Tryz.results34] at hwf ⊢); (try simp (disch := decide +kernel) only [drawn, true_and, and_true])
    (repeat' (with_reducible (first | refine And.intro ?_ ?_ | intro _))) <;> (try (first | with_reducible (first | done | assumption | omega | contradiction) | decide))
    all_goals rfl)
/-- Planned departures with sound times: the two say the same. -/
theorem overR_eq {a b : Dep} (ha : a.state = 0) (hb : b.state = 0) (h1 : a.opens < a.closes) (h2 : b.opens < b.closes) : overR a b = overV a b := by
  unfold overR overV
  rw [Bool.eq_iff_iff, Bool.and_eq_true, isOpenV_iff, isOpenV_iff, decide_eq_true_eq]
  unfold maxI
  (repeat' split) <;> omega
end Go.Proofs.YtdmgmdppejopcaaGreat

/- The contracts of the reference's functions: Validate, Valid. -/

set_option linter.unusedSimpArgs false
set_option linter.unusedVariables false
set_option maxRecDepth 100000
set_option maxHeartbeats 4000000
namespace Go.Proofs.YtdmgmdppejopcaaGreat
open Go.Ev

theorem fltC_pos1 {a b : Flt} (h : fltC a b > 0) : fltC a b = 1 := by
  have := fltC_cmp.unit a b
  omega
def con60 : Con := { ps := [.d false (.sl (.pair (.pair .str (.pair (.int .i64) (.pair .str (.int .i64)))) (.pair .str (.pair (.int .i64) (.pair (.int .i64) (.pair (.int .i64) (.pair (.int .i64) (.int .i64))))))))], rs := [.d false (.int .i64)], pre := fun _ => True, out := fun x => (validateV x.1, ()), nw := id }
theorem c60 : CtrOk Tryz.prog 60 con60.ctr :=
  con_sound (G := ⟨[(61, con61.ctr), (74, con74.ctr)], [], []⟩) tab_ok (EnvOk.cons c61 has61 (EnvOk.cons c74 has74 EnvOk.nil)) rfl Tryz.func60 rfl con60 171801315485 (by kernel_rfl) (by decide) (by decide) rfl (by decide) rfl (by
    rintro ⟨(l : List Dep), _⟩ hpre hwf X hT hG hk hK
    (simp only [go_sem, Prod.eta, Option.isSome_none, Option.isSome_some, Int.toNat_zero, Nat.reduceAdd, Nat.reduceMul, Nat.reduceSub, Nat.reduceEqDiff, Nat.reduceLT, Nat.reduceLeDiff, Nat.reduceShiftRight, Nat.reduceMod, Nat.reduceBEq, reduceCtorEq, reduceIte, reduceDIte, Int.reduceNeg, Bool.not_eq_true', Bool.not_eq_false', Bool.or_eq_true, Bool.or_eq_false_iff, Bool.and_eq_true, Bool.and_eq_false_iff, decide_eq_true_eq, decide_eq_false_iff_not, Classical.not_not, not_or, maxLen, con60, con61, con74, hT, hG, hk, hK, Tryz.results60] at hwf ⊢); (try simp (disch := decide +kernel) only [drawn, true_and, and_true])
    (repeat' (with_reducible (first | refine And.intro ?_ ?_ | intro _))) <;> (try (first | with_reducible (first | done | assumption | omega | contradiction) | decide))
    · rename_i h
      unfold validateV; rw [if_pos h]
    · have e0 : validateV l = valF none l := by unfold validateV; rw [if_neg (by omega)]
      refine evk_loop ⟨{ i : Nat // i ≤ l.length ∧ valF none l = valF (prevF l i) (l.drop i) }, 1000, fun i => [(0, .one (.sl (.pair (.pair .str (.pair (.int .i64) (.pair .str (.int .i64)))) (.pair .str (.pair (.int .i64) (.pair (.int .i64) (.pair (.int .i64) (.pair (.int .i64) (.int .i64))))))) l false)), (3, .one (.int .i64 i.1))], fun _ => [], fun i => l.length - i.1⟩ ⟨0, by simp, by simp [prevF]⟩ ?_ ?_
      · simp only [go_sem, Prod.eta, Option.isSome_none, Option.isSome_some, Int.toNat_zero, Nat.reduceAdd, Nat.reduceMul, Nat.reduceSub, Nat.reduceEqDiff, Nat.reduceLT, Nat.reduceLeDiff, Nat.reduceShiftRight, Nat.reduceMod, Nat.reduceBEq, reduceCtorEq, reduceIte, reduceDIte, Int.reduceNeg]
        rfl
      · rintro ⟨i, (hi : i ≤ l.length), (he : valF none l = valF (prevF l i) (l.drop i))⟩
        (simp only [go_sem, Prod.eta, Option.isSome_none, Option.isSome_some, Int.toNat_zero, Nat.reduceAdd, Nat.reduceMul, Nat.reduceSub, Nat.reduceEqDiff, Nat.reduceLT, Nat.reduceLeDiff, Nat.reduceShiftRight, Nat.reduceMod, Nat.reduceBEq, reduceCtorEq, reduceIte, reduceDIte, Int.reduceNeg, Bool.not_eq_true', Bool.not_eq_false', Bool.or_eq_true, Bool.or_eq_false_iff, Bool.and_eq_true, Bool.and_eq_false_iff, decide_eq_true_eq, decide_eq_false_iff_not, Classical.not_not, not_or, maxLen, con60, con61, con74, hT, hG, hk, hK, Tryz.results60]); (try simp (disch := decide +kernel) only [drawn, true_and, and_true])
        refine fun _ => ⟨fun hlt => ?_, fun hge => ?_⟩
        · have hi' : i < l.length := by omega
          have ek : ∀ z, l.getD (i : Int).toNat z = l[i] := fun z => by simp [hi']
          simp only [ek]
          have hp : prevF l (i + 1) = some l[i].1 := by
            unfold prevF
            rw [dif_pos ⟨by omega, by omega⟩]
            rfl
          have hst : valF none l = if validV l[i] = false then 1 else match prevF l i with
              | none => valF (prevF l (i + 1)) (l.drop (i + 1))
              | some f => if fltC f l[i].1 = 0 then 5 else if fltC f l[i].1 = 1 then 9 else valF (prevF l (i + 1)) (l.drop (i + 1)) := by
            rw [he, List.drop_eq_getElem_cons hi', hp]
            generalize prevF l i = q
            cases q <;> rfl
          have hp2 : ∀ z, 0 < i → prevF l i = some (l.getD ((i : Int) - 1).toNat z).1 := fun z h => by
            unfold prevF
            rw [dif_pos ⟨h, by omega⟩]
            have e2 : ((i : Int) - 1).toNat = i - 1 := by omega
            rw [e2]
            simp [show i - 1 < l.length by omega]
          (repeat' (with_reducible (first | refine And.intro ?_ ?_ | intro _))) <;> (try (first | with_reducible (first | done | assumption | omega | contradiction) | decide))
          · rename_i h
            rw [e0, hst, if_pos h]
          · have h1 : validV l[i] = true := by assumption
            have hp0 : prevF l i = none := by unfold prevF; rw [dif_neg (by omega)]
            refine fin_lp ⟨i + 1, by omega, by rw [hst, if_neg (by rw [h1]; simp), hp0]⟩ (by simp only [go_sem, Prod.eta, Option.isSome_none, Option.isSome_some, Int.toNat_zero, Nat.reduceAdd, Nat.reduceMul, Nat.reduceSub, Nat.reduceEqDiff, Nat.reduceLT, Nat.reduceLeDiff, Nat.reduceShiftRight, Nat.reduceMod, Nat.reduceBEq, reduceCtorEq, reduceIte, reduceDIte, Int.reduceNeg]; first | rfl | ((repeat' apply And.intro) <;> first | rfl | assumption | omega)) (by dsimp only; omega)
          · rename_i h
            have h1 : validV l[i] = true := by assumption
            rw [e0, hst, if_neg (by rw [h1]; simp), hp2 _ (by omega)]
            dsimp only
            rw [if_pos h]
          · rename_i h3 h
            have h1 : validV l[i] = true := by assumption
            rw [e0, hst, if_neg (by rw [h1]; simp), hp2 _ (by omega)]
            dsimp only
            rw [if_neg h3, if_pos (fltC_pos1 h)]
          · rename_i h3 h
            have h1 : validV l[i] = true := by assumption
            refine fin_lp ⟨i + 1, by omega, by rw [hst, if_neg (by rw [h1]; simp), hp2 _ (by omega)]; dsimp only; rw [if_neg h3, if_neg (by omega)]⟩ (by simp only [go_sem, Prod.eta, Option.isSome_none, Option.isSome_some, Int.toNat_zero, Nat.reduceAdd, Nat.reduceMul, Nat.reduceSub, Nat.reduceEqDiff, Nat.reduceLT, Nat.reduceLeDiff, Nat.reduceShiftRight, Nat.reduceMod, Nat.reduceBEq, reduceCtorEq, reduceIte, reduceDIte, Int.reduceNeg]; first | rfl | ((repeat' apply And.intro) <;> first | rfl | assumption | omega)) (by dsimp only; omega)
        · rw [e0, he, List.drop_of_length_le (by omega)]
          rfl)
def con29 : Con := { ps := [.d false (.sl (.pair (.pair .str (.pair (.int .i64) (.pair .str (.int .i64)))) (.pair .str (.pair (.int .i64) (.pair (.int .i64) (.pair (.int .i64) (.pair (.int .i64) (.int .i64)))))))), .d false (.sl (.int .i64))], rs := [.d false (.int .i64)], pre := fun (x : List Dep × List Int × Unit) => x.1.length ≤ 1048576, out := fun x => (argsV x.1 x.2.1, ()), nw := id }
theorem c29 : CtrOk Tryz.prog 29 con29.ctr :=
  con_sound (G := ⟨[(60, con60.ctr), (32, con32.ctr)], [], []⟩) tab_ok (EnvOk.cons c60 has60 (EnvOk.cons c32 has32 EnvOk.nil)) rfl Tryz.func29 rfl con29 281548026808563 (by kernel_rfl) (by decide) (by decide) rfl (by decide) rfl (by
    rintro ⟨(l : List Dep), (cs : List Int), _⟩ hpre hwf X hT hG hk hK
    have hl : l.length ≤ 1048576 := hpre
    (simp only [go_sem, Prod.eta, Option.isSome_none, Option.isSome_some, Int.toNat_zero, Nat.reduceAdd, Nat.reduceMul, Nat.reduceSub, Nat.reduceEqDiff, Nat.reduceLT, Nat.reduceLeDiff, Nat.reduceShiftRight, Nat.reduceMod, Nat.reduceBEq, reduceCtorEq, reduceIte, reduceDIte, Int.reduceNeg, Bool.not_eq_true', Bool.not_eq_false', Bool.or_eq_true, Bool.or_eq_false_iff, Bool.and_eq_true, Bool.and_eq_false_iff, decide_eq_true_eq, decide_eq_false_iff_not, Classical.not_not, not_or, maxLen, con29, con60, con32, hT, hG, hk, hK, Tryz.results29] at hwf ⊢); (try simp (disch := decide +kernel) only [drawn, true_and, and_true])
    (repeat' (with_reducible (first | refine And.intro ?_ ?_ | intro _))) <;> (try (first | with_reducible (first | done | assumption | omega | contradiction) | decide))
    · rename_i h
      unfold argsV; rw [if_pos h]
    · have h0 : validateV l = 0 := by assumption
      have h1 : ((planV l).length : Int) > 16 ∨ (cs.length : Int) > 6 := by assumption
      unfold argsV; rw [if_neg (by omega), if_pos h1]
    · have h0 : validateV l = 0 := by assumption
      have h1 : ¬ ((planV l).length : Int) > 16 ∧ ¬ (cs.length : Int) > 6 := by assumption
      have e0 : argsV l cs = if cs.all (fun c => decide (0 ≤ c)) = false then 1 else if ascI cs = false then 9 else 0 := by
        unfold argsV; rw [if_neg (by omega), if_neg (by omega)]
      refine evk_loop ⟨{ i : Nat // i ≤ cs.length ∧ (cs.take i).all (fun c => decide (0 ≤ c)) = true }, 1000, fun i => [(1, .one (.sl (.int .i64) cs false)), (6, .one (.int .i64 i.1))], fun _ => [], fun i => cs.length - i.1⟩ ⟨0, by simp, by simp⟩ ?_ ?_
      · simp only [go_sem, Prod.eta, Option.isSome_none, Option.isSome_some, Int.toNat_zero, Nat.reduceAdd, Nat.reduceMul, Nat.reduceSub, Nat.reduceEqDiff, Nat.reduceLT, Nat.reduceLeDiff, Nat.reduceShiftRight, Nat.reduceMod, Nat.reduceBEq, reduceCtorEq, reduceIte, reduceDIte, Int.reduceNeg]
        rfl
      · rintro ⟨i, (hi : i ≤ cs.length), (hx : (cs.take i).all (fun c => decide (0 ≤ c)) = true)⟩
        (simp only [go_sem, Prod.eta, Option.isSome_none, Option.isSome_some, Int.toNat_zero, Nat.reduceAdd, Nat.reduceMul, Nat.reduceSub, Nat.reduceEqDiff, Nat.reduceLT, Nat.reduceLeDiff, Nat.reduceShiftRight, Nat.reduceMod, Nat.reduceBEq, reduceCtorEq, reduceIte, reduceDIte, Int.reduceNeg, Bool.not_eq_true', Bool.not_eq_false', Bool.or_eq_true, Bool.or_eq_false_iff, Bool.and_eq_true, Bool.and_eq_false_iff, decide_eq_true_eq, decide_eq_false_iff_not, Classical.not_not, not_or, maxLen, con29, con60, con32, hT, hG, hk, hK, Tryz.results29]); (try simp (disch := decide +kernel) only [drawn, true_and, and_true])
        refine fun _ => ⟨fun hlt => ?_, fun hge => ?_⟩
        · have hi' : i < cs.length := by omega
          have ek : ∀ z, cs.getD (i : Int).toNat z = cs[i] := fun z => by simp [hi']
          simp only [ek]
          (repeat' (with_reducible (first | refine And.intro ?_ ?_ | intro _))) <;> (try (first | with_reducible (first | done | assumption | omega | contradiction) | decide))
          · rename_i h
            rw [e0, if_pos]
            rw [List.all_eq_false]
            exact ⟨cs[i], List.getElem_mem hi', by rw [decide_eq_true_eq]; omega⟩
          · rename_i h
            refine fin_lp ⟨i + 1, by omega, by rw [List.take_succ_eq_append_getElem hi', List.all_append, hx]; simp; omega⟩ (by simp only [go_sem, Prod.eta, Option.isSome_none, Option.isSome_some, Int.toNat_zero, Nat.reduceAdd, Nat.reduceMul, Nat.reduceSub, Nat.reduceEqDiff, Nat.reduceLT, Nat.reduceLeDiff, Nat.reduceShiftRight, Nat.reduceMod, Nat.reduceBEq, reduceCtorEq, reduceIte, reduceDIte, Int.reduceNeg]; first | rfl | ((repeat' apply And.intro) <;> first | rfl | assumption | omega)) (by dsimp only; omega)
        · rw [List.take_of_length_le (by omega)] at hx
          have e1 : argsV l cs = if ascI cs = false then 9 else 0 := by rw [e0, if_neg (by rw [hx]; simp)]
          refine evk_loop ⟨{ i : Nat // (i ≤ cs.length ∨ i = 0) ∧ ascI cs = ascI (cs.drop i) }, 2000, fun i => [(1, .one (.sl (.int .i64) cs false)), (7, .one (.int .i64 (i.1 + 1)))], fun _ => [], fun i => cs.length - i.1⟩ ⟨0, by simp, by simp⟩ ?_ ?_
          · simp only [go_sem, Prod.eta, Option.isSome_none, Option.isSome_some, Int.toNat_zero, Nat.reduceAdd, Nat.reduceMul, Nat.reduceSub, Nat.reduceEqDiff, Nat.reduceLT, Nat.reduceLeDiff, Nat.reduceShiftRight, Nat.reduceMod, Nat.reduceBEq, reduceCtorEq, reduceIte, reduceDIte, Int.reduceNeg]
            rfl
          · rintro ⟨i, (hi : i ≤ cs.length ∨ i = 0), (he : ascI cs = ascI (cs.drop i))⟩
            (simp only [go_sem, Prod.eta, Option.isSome_none, Option.isSome_some, Int.toNat_zero, Nat.reduceAdd, Nat.reduceMul, Nat.reduceSub, Nat.reduceEqDiff, Nat.reduceLT, Nat.reduceLeDiff, Nat.reduceShiftRight, Nat.reduceMod, Nat.reduceBEq, reduceCtorEq, reduceIte, reduceDIte, Int.reduceNeg, Bool.not_eq_true', Bool.not_eq_false', Bool.or_eq_true, Bool.or_eq_false_iff, Bool.and_eq_true, Bool.and_eq_false_iff, decide_eq_true_eq, decide_eq_false_iff_not, Classical.not_not, not_or, maxLen, con29, con60, con32, hT, hG, hk, hK, Tryz.results29]); (try simp (disch := decide +kernel) only [drawn, true_and, and_true])
            refine fun _ => ⟨fun hlt => ?_, fun hge => ?_⟩
            · have hi' : i < cs.length := by omega
              have hi2 : i + 1 < cs.length := by omega
              have ek : ∀ z, cs.getD ((i : Int) + 1).toNat z = cs[i + 1] := fun z => by
                rw [show ((i : Int) + 1).toNat = i + 1 by omega]; simp [hi2]
              have ek2 : ∀ z, cs.getD ((i : Int) + 1 - 1).toNat z = cs[i] := fun z => by
                rw [show ((i : Int) + 1 - 1).toNat = i by omega]; simp [hi']
              simp only [ek, ek2]
              have hst : ascI cs = (decide (cs[i] < cs[i + 1]) && ascI (cs.drop (i + 1))) := by
                rw [he, List.drop_eq_getElem_cons hi', List.drop_eq_getElem_cons hi2, ascI]
              (repeat' (with_reducible (first | refine And.intro ?_ ?_ | intro _))) <;> (try (first | with_reducible (first | done | assumption | omega | contradiction) | decide))
              · rename_i h
                rw [e1, hst, decide_eq_false (by omega)]
                rfl
              · rename_i h
                refine fin_lp ⟨i + 1, by omega, by rw [hst, decide_eq_true (by omega)]; rfl⟩ (by simp only [go_sem, Prod.eta, Option.isSome_none, Option.isSome_some, Int.toNat_zero, Nat.reduceAdd, Nat.reduceMul, Nat.reduceSub, Nat.reduceEqDiff, Nat.reduceLT, Nat.reduceLeDiff, Nat.reduceShiftRight, Nat.reduceMod, Nat.reduceBEq, reduceCtorEq, reduceIte, reduceDIte, Int.reduceNeg]; first | rfl | ((repeat' apply And.intro) <;> first | rfl | assumption | omega)) (by dsimp only; omega)
            · have ha : ascI cs = true := by
                rw [he]
                rcases h : cs.drop i with _ | ⟨a, _ | ⟨b, q⟩⟩
                · rfl
                · rfl
                · have := congrArg List.length h
                  rw [List.length_drop] at this
                  simp only [List.length_cons] at this
                  omega
              rw [e1, if_neg (by rw [ha]; simp)])
end Go.Proofs.YtdmgmdppejopcaaGreat

/- The contracts of the reference's functions: ByOpens, Place. -/
set_option linter.unusedSimpArgs false
set_option linter.unusedVariables false
set_option maxRecDepth 100000
set_option maxHeartbeats 4000000
namespace Go.Proofs.YtdmgmdppejopcaaGreat
open Go.Ev

theorem shift_ins {α : Type} (P : List α) (z : α) (k : Nat) (hk : k ≤ P.length) : ∃ c, (P ++ [z]).take (k + 1) ++ (((P ++ [z]).take (k + (P.length + 1 - k))).drop k |>.take (min (P.length - k) (((P ++ [z]).take (k + (P.length + 1 - k))).drop k).length)) ++ (P ++ [z]).drop (k + 1 + min (P.length - k) (((P ++ [z]).take (k + (P.length + 1 - k))).drop k).length) = P.take k ++ c :: P.drop k := by
  have e1 : (P ++ [z]).take (k + (P.length + 1 - k)) = P ++ [z] := List.take_of_length_le (by simp; omega)
  have e2 : (P ++ [z]).drop k = P.drop k ++ [z] := by
    rw [List.drop_append, show k - P.length = 0 by omega]; rfl
  have e3 : min (P.length - k) (P.drop k ++ [z]).length = P.length - k := by
    simp
  have e4 : (P.drop k ++ [z]).take (P.length - k) = P.drop k := by
    rw [List.take_append_of_le_length (by rw [List.length_drop]; omega), List.take_of_length_le (by rw [List.length_drop]; omega)]
  have e5 : (P ++ [z]).drop (k + 1 + (P.length - k)) = [] := List.drop_of_length_le (by simp; omega)
  have hk2 : k < (P ++ [z]).length := by simp; omega
  have e6 : (P ++ [z]).take (k + 1) = P.take k ++ [(P ++ [z])[k]] := by
    rw [List.take_succ_eq_append_getElem hk2, List.take_append_of_le_length hk]
  refine ⟨(P ++ [z])[k], ?_⟩
  rw [e1, e2, e3, e4, e5, e6]
  simp
theorem set_mid {α : Type} (A B : List α) (c x : α) (k : Nat) (h : A.length = k) : (A ++ c :: B).set k x = A ++ x :: B := by
  subst h
  simp
def con31 : Con := { ps := [.d false (.sl (.pair (.pair .str (.pair (.int .i64) (.pair .str (.int .i64)))) (.pair .str (.pair (.int .i64) (.pair (.int .i64) (.pair (.int .i64) (.pair (.int .i64) (.int .i64))))))))], rs := [.o 54 (.pair (.pair .str (.pair (.int .i64) (.pair .str (.int .i64)))) (.pair .str (.pair (.int .i64) (.pair (.int .i64) (.pair (.int .i64) (.pair (.int .i64) (.int .i64)))))))], pre := fun (x : List Dep × Unit) => x.1.length ≤ 1000, out := fun x => (isort x.1, ()), nw := id }
theorem c31 : CtrOk Tryz.prog 31 con31.ctr :=
  con_sound (G := ⟨[], [], [(39, 1), (42, 1)]⟩) tab_ok EnvOk.nil rfl Tryz.func31 rfl con31 536871485 (by kernel_rfl) (by decide) (by decide) rfl (by decide) rfl (by
    rintro ⟨(l : List Dep), _⟩ hpre hwf X hT hG hk hK
    have hl : l.length ≤ 1000 := hpre
    (simp only [go_sem, Prod.eta, Option.isSome_none, Option.isSome_some, Int.toNat_zero, Nat.reduceAdd, Nat.reduceMul, Nat.reduceSub, Nat.reduceEqDiff, Nat.reduceLT, Nat.reduceLeDiff, Nat.reduceShiftRight, Nat.reduceMod, Nat.reduceBEq, reduceCtorEq, reduceIte, reduceDIte, Int.reduceNeg, Bool.not_eq_true', Bool.not_eq_false', Bool.or_eq_true, Bool.or_eq_false_iff, Bool.and_eq_true, Bool.and_eq_false_iff, decide_eq_true_eq, decide_eq_false_iff_not, Classical.not_not, not_or, maxLen, con31, hT, hG, hk, hK, Tryz.results31] at hwf ⊢); (try simp (disch := decide +kernel) only [drawn, true_and, and_true])
    refine evk_loop ⟨{ i : Nat // i ≤ l.length }, 1000, fun i => [(0, .one (.sl (.pair (.pair .str (.pair (.int .i64) (.pair .str (.int .i64)))) (.pair .str (.pair (.int .i64) (.pair (.int .i64) (.pair (.int .i64) (.pair (.int .i64) (.int .i64))))))) l false)), (3, .one (.row 64)), (4, .one (.int .i64 i.1))], fun i => [(64, .row 54 (.pair (.pair .str (.pair (.int .i64) (.pair .str (.int .i64)))) (.pair .str (.pair (.int .i64) (.pair (.int .i64) (.pair (.int .i64) (.pair (.int .i64) (.int .i64))))))) (isort (l.take i.1)))], fun i => l.length - i.1⟩ ⟨0, by simp⟩ ?_ ?_
    · simp only [go_sem, Prod.eta, Option.isSome_none, Option.isSome_some, Int.toNat_zero, Nat.reduceAdd, Nat.reduceMul, Nat.reduceSub, Nat.reduceEqDiff, Nat.reduceLT, Nat.reduceLeDiff, Nat.reduceShiftRight, Nat.reduceMod, Nat.reduceBEq, reduceCtorEq, reduceIte, reduceDIte, Int.reduceNeg]
      exact ⟨rfl, rfl⟩
    · rintro ⟨i, (hi : i ≤ l.length)⟩
      (simp only [go_sem, Prod.eta, Option.isSome_none, Option.isSome_some, Int.toNat_zero, Nat.reduceAdd, Nat.reduceMul, Nat.reduceSub, Nat.reduceEqDiff, Nat.reduceLT, Nat.reduceLeDiff, Nat.reduceShiftRight, Nat.reduceMod, Nat.reduceBEq, reduceCtorEq, reduceIte, reduceDIte, Int.reduceNeg, Bool.not_eq_true', Bool.not_eq_false', Bool.or_eq_true, Bool.or_eq_false_iff, Bool.and_eq_true, Bool.and_eq_false_iff, decide_eq_true_eq, decide_eq_false_iff_not, Classical.not_not, not_or, maxLen, con31, hT, hG, hk, hK, Tryz.results31]); (try simp (disch := decide +kernel) only [drawn, true_and, and_true])
      refine fun _ => ⟨fun hlt => ?_, fun hge => ?_⟩
      · have hi' : i < l.length := by omega
        have ek : ∀ z, l.getD (i : Int).toNat z = l[i] := fun z => by simp [hi']
        have hP := isort_len (l.take i)
        rw [List.length_take] at hP
        have hPs := isort_sorted (l.take i)
        have hsn : isort (l.take (i + 1)) = insV l[i] (isort (l.take i)) := by rw [List.take_succ_eq_append_getElem hi', isort_snoc]
        generalize hPe : isort (l.take i) = P at hP hPs hsn ⊢
        intro hPl
        refine evk_loop ⟨{ k : Nat // k ≤ P.length ∧ ∀ y ∈ P.drop k, (l[i]).opens < y.opens }, 2000, fun k => [(0, .one (.sl (.pair (.pair .str (.pair (.int .i64) (.pair .str (.int .i64)))) (.pair .str (.pair (.int .i64) (.pair (.int .i64) (.pair (.int .i64) (.pair (.int .i64) (.int .i64))))))) l false)), (3, .one (.row 64)), (4, .one (.int .i64 i)), (5, .one (.int .i64 k.1))], fun k => [(64, .row 54 (.pair (.pair .str (.pair (.int .i64) (.pair .str (.int .i64)))) (.pair .str (.pair (.int .i64) (.pair (.int .i64) (.pair (.int .i64) (.pair (.int .i64) (.int .i64))))))) P)], fun k => k.1⟩ ⟨P.length, by simp, by simp⟩ ?_ ?_
        · simp only [go_sem, Prod.eta, Option.isSome_none, Option.isSome_some, Int.toNat_zero, Nat.reduceAdd, Nat.reduceMul, Nat.reduceSub, Nat.reduceEqDiff, Nat.reduceLT, Nat.reduceLeDiff, Nat.reduceShiftRight, Nat.reduceMod, Nat.reduceBEq, reduceCtorEq, reduceIte, reduceDIte, Int.reduceNeg]
        · rintro ⟨k, (hk1 : k ≤ P.length), (hk2 : ∀ y ∈ P.drop k, (l[i]).opens < y.opens)⟩
          (simp only [go_sem, Prod.eta, Option.isSome_none, Option.isSome_some, Int.toNat_zero, Nat.reduceAdd, Nat.reduceMul, Nat.reduceSub, Nat.reduceEqDiff, Nat.reduceLT, Nat.reduceLeDiff, Nat.reduceShiftRight, Nat.reduceMod, Nat.reduceBEq, reduceCtorEq, reduceIte, reduceDIte, Int.reduceNeg, Bool.not_eq_true', Bool.not_eq_false', Bool.or_eq_true, Bool.or_eq_false_iff, Bool.and_eq_true, Bool.and_eq_false_iff, decide_eq_true_eq, decide_eq_false_iff_not, Classical.not_not, not_or, maxLen, con31, hT, hG, hk, hK, Tryz.results31]); (try simp (disch := decide +kernel) only [drawn, true_and, and_true])
          simp only [ek, List.length_append, List.length_singleton]
          (repeat' (with_reducible (first | refine And.intro ?_ ?_ | intro _))) <;> (try (first | with_reducible (first | done | assumption | omega | contradiction) | decide))
          · rename_i h
            refine fin_lp ⟨k - 1, by omega, fun y hy => ?_⟩ (by simp only [go_sem, Prod.eta, Option.isSome_none, Option.isSome_some, Int.toNat_zero, Nat.reduceAdd, Nat.reduceMul, Nat.reduceSub, Nat.reduceEqDiff, Nat.reduceLT, Nat.reduceLeDiff, Nat.reduceShiftRight, Nat.reduceMod, Nat.reduceBEq, reduceCtorEq, reduceIte, reduceDIte, Int.reduceNeg]; first | rfl | ((repeat' apply And.intro) <;> first | rfl | assumption | omega)) (by dsimp only; omega)
            have hk0 : k - 1 < P.length := by omega
            have ez : ∀ z, P.getD ((k : Int) - 1).toNat z = P[k - 1] := fun z => by rw [show ((k : Int) - 1).toNat = k - 1 by omega]; simp [hk0]
            rw [List.drop_eq_getElem_cons hk0, show k - 1 + 1 = k by omega] at hy
            rcases List.mem_cons.1 hy with rfl | hy
            · have := h.2
              rw [ez] at this
              exact this
            · exact hk2 y hy
          · rename_i h
            have e1 : ((k : Int) + 1).toNat = k + 1 := by omega
            have e2 : (((P.length + 1 : Nat) : Int) - ((k : Int) + 1)).toNat = P.length - k := by omega
            have e3 : (k : Int).toNat = k := by omega
            have e4 : (((P.length + 1 : Nat) : Int) - (k : Int)).toNat = P.length + 1 - k := by omega
            have e5 : (k + 1 + (P.length - k) ≤ P.length + 1) = True := by rw [eq_iff_iff, iff_true]; omega
            have e6 : (k + (P.length + 1 - k) ≤ P.length + 1) = True := by rw [eq_iff_iff, iff_true]; omega
            (simp only [go_sem, Prod.eta, Option.isSome_none, Option.isSome_some, Int.toNat_zero, Nat.reduceAdd, Nat.reduceMul, Nat.reduceSub, Nat.reduceEqDiff, Nat.reduceLT, Nat.reduceLeDiff, Nat.reduceShiftRight, Nat.reduceMod, Nat.reduceBEq, reduceCtorEq, reduceIte, reduceDIte, Int.reduceNeg, Bool.not_eq_true', Bool.not_eq_false', Bool.or_eq_true, Bool.or_eq_false_iff, Bool.and_eq_true, Bool.and_eq_false_iff, decide_eq_true_eq, decide_eq_false_iff_not, Classical.not_not, not_or, maxLen, con31, hT, hG, hk, hK, Tryz.results31, e1, e2, e3, e4, e5, e6, List.length_append, List.length_singleton]); (try simp (disch := decide +kernel) only [drawn, true_and, and_true])
            obtain ⟨c, hc⟩ := shift_ins P ((ByteArray.empty, 0, ByteArray.empty, 0), ByteArray.empty, 0, 0, 0, 0, 0) k hk1
            rw [List.append_assoc] at hc
            have hlc := congrArg List.length hc
            rw [show (P.take k ++ c :: P.drop k).length = P.length + 1 by simp; omega] at hlc
            simp only [List.length_append] at hlc
            (repeat' (with_reducible (first | refine And.intro ?_ ?_ | intro _))) <;> (try (first | with_reducible (first | done | assumption | omega | contradiction) | decide))
            have hins : insV l[i] P = P.take k ++ l[i] :: P.drop k := insV_mid l[i] P k hk1 hPs hk2 (fun hk0 hkl => by
                have ez : ∀ z, P.getD ((k : Int) - 1).toNat z = P[k - 1] := fun z => by rw [show ((k : Int) - 1).toNat = k - 1 by omega]; simp [hkl]
                rw [ez] at h
                rcases h with h | h
                · omega
                · exact h)
            refine fin_lp ⟨i + 1, by omega⟩ ?_ (by dsimp only; omega)
            simp only [go_sem, Prod.eta, Option.isSome_none, Option.isSome_some, Int.toNat_zero, Nat.reduceAdd, Nat.reduceMul, Nat.reduceSub, Nat.reduceEqDiff, Nat.reduceLT, Nat.reduceLeDiff, Nat.reduceShiftRight, Nat.reduceMod, Nat.reduceBEq, reduceCtorEq, reduceIte, reduceDIte, Int.reduceNeg]
            rw [hc, hsn, hins, ek, set_mid (P.take k) (P.drop k) c l[i] k (by rw [List.length_take]; omega)]
            first | done | rfl | exact ⟨rfl, rfl⟩
      · rw [List.take_of_length_le (by omega)])
/-- A list of allocations with one more. -/
def placeV (p : List All) (a : All) : List All := p.takeWhile (fun x => decide (fltC x.1 a.1 < 0)) ++ a :: p.dropWhile (fun x => decide (fltC x.1 a.1 < 0))
theorem tw_take {α : Type} (f : α → Bool) : ∀ (p : List α) (k : Nat), (∀ x ∈ p.take k, f x = true) → (∀ h : k < p.length, f p[k] = false) → k ≤ p.length → p.takeWhile f = p.take k ∧ p.dropWhile f = p.drop k
  | [], k, _, _, hk => by simp
  | x :: p, 0, _, h, _ => by
    have := h (by simp)
    simp at this
    simp [this]
  | x :: p, k + 1, h1, h2, hk => by
    have hx := h1 x (by simp)
    obtain ⟨e1, e2⟩ := tw_take f p k (fun y hy => h1 y (by simp [hy])) (fun h => h2 (by simpa using h)) (by simpa using hk)
    simp [hx, e1, e2]
def con35 : Con := { ps := [.d false (.sl (.pair (.pair .str (.pair (.int .i64) (.pair .str (.int .i64)))) (.int .i64))), .d true (.pair (.pair .str (.pair (.int .i64) (.pair .str (.int .i64)))) (.int .i64))], rs := [.o 62 (.pair (.pair .str (.pair (.int .i64) (.pair .str (.int .i64)))) (.int .i64))], pre := fun (x : List All × All × Unit) => x.1.length ≤ 1000, out := fun (x : List All × All × Unit) => (placeV x.1 x.2.1, ()), nw := id }
theorem c35 : CtrOk Tryz.prog 35 con35.ctr :=
  con_sound (G := ⟨[(61, con61.ctr)], [], []⟩) tab_ok (EnvOk.cons c61 has61 EnvOk.nil) rfl Tryz.func35 rfl con35 2097275 (by kernel_rfl) (by decide) (by decide) rfl (by decide) rfl (by
    rintro ⟨(p : List All), (a : All), _⟩ hpre hwf X hT hG hk hK
    have hl : p.length ≤ 1000 := hpre
    (simp only [go_sem, Prod.eta, Option.isSome_none, Option.isSome_some, Int.toNat_zero, Nat.reduceAdd, Nat.reduceMul, Nat.reduceSub, Nat.reduceEqDiff, Nat.reduceLT, Nat.reduceLeDiff, Nat.reduceShiftRight, Nat.reduceMod, Nat.reduceBEq, reduceCtorEq, reduceIte, reduceDIte, Int.reduceNeg, Bool.not_eq_true', Bool.not_eq_false', Bool.or_eq_true, Bool.or_eq_false_iff, Bool.and_eq_true, Bool.and_eq_false_iff, decide_eq_true_eq, decide_eq_false_iff_not, Classical.not_not, not_or, maxLen, con35, con61, hT, hG, hk, hK, Tryz.results35] at hwf ⊢); (try simp (disch := decide +kernel) only [drawn, true_and, and_true])
    refine evk_loop ⟨{ k : Nat // k ≤ p.length ∧ ∀ x ∈ p.take k, fltC x.1 a.1 < 0 }, 1000, fun k => [(0, .one (.sl (.pair (.pair .str (.pair (.int .i64) (.pair .str (.int .i64)))) (.int .i64)) p false)), (3, .one (.loc 64 0)), (5, .one (.int .i64 k.1))], fun k => [(64, .cells 62 (expl (.pair (.pair .str (.pair (.int .i64) (.pair .str (.int .i64)))) (.int .i64)) a))], fun k => p.length - k.1⟩ ⟨0, by simp, by simp⟩ ?_ ?_
    · simp only [go_sem, Prod.eta, Option.isSome_none, Option.isSome_some, Int.toNat_zero, Nat.reduceAdd, Nat.reduceMul, Nat.reduceSub, Nat.reduceEqDiff, Nat.reduceLT, Nat.reduceLeDiff, Nat.reduceShiftRight, Nat.reduceMod, Nat.reduceBEq, reduceCtorEq, reduceIte, reduceDIte, Int.reduceNeg]
      rfl
    · rintro ⟨k, (hk1 : k ≤ p.length), (hk2 : ∀ x ∈ p.take k, fltC x.1 a.1 < 0)⟩
      (simp only [go_sem, Prod.eta, Option.isSome_none, Option.isSome_some, Int.toNat_zero, Nat.reduceAdd, Nat.reduceMul, Nat.reduceSub, Nat.reduceEqDiff, Nat.reduceLT, Nat.reduceLeDiff, Nat.reduceShiftRight, Nat.reduceMod, Nat.reduceBEq, reduceCtorEq, reduceIte, reduceDIte, Int.reduceNeg, Bool.not_eq_true', Bool.not_eq_false', Bool.or_eq_true, Bool.or_eq_false_iff, Bool.and_eq_true, Bool.and_eq_false_iff, decide_eq_true_eq, decide_eq_false_iff_not, Classical.not_not, not_or, maxLen, con35, con61, hT, hG, hk, hK, Tryz.results35]); (try simp (disch := decide +kernel) only [drawn, true_and, and_true])
      have e3 : (k : Int).toNat = k := by omega
      have e4 : (p.length : Int).toNat = p.length := by omega
      simp only [e3, e4]
      have el : (p.take k).length = k := by rw [List.length_take]; omega
      have hb : (List.drop k (List.take p.length p)).length ≤ p.length := by simp
      have hap : (p.take k ++ [a]).length = k + 1 := by simp; omega
      (repeat' (with_reducible (first | refine And.intro ?_ ?_ | intro _))) <;> (try (first | with_reducible (first | done | assumption | omega | contradiction) | decide))
      · have h : (k : Int) < p.length ∧ fltC (p.getD k ((ByteArray.empty, 0, ByteArray.empty, 0), 0)).1 a.1 < 0 := by assumption
        have hkl : k < p.length := by omega
        have ez : ∀ z, p.getD k z = p[k] := fun z => by simp [hkl]
        rw [ez] at h
        refine fin_lp ⟨k + 1, by omega, fun x hx => ?_⟩ (by simp only [go_sem, Prod.eta, Option.isSome_none, Option.isSome_some, Int.toNat_zero, Nat.reduceAdd, Nat.reduceMul, Nat.reduceSub, Nat.reduceEqDiff, Nat.reduceLT, Nat.reduceLeDiff, Nat.reduceShiftRight, Nat.reduceMod, Nat.reduceBEq, reduceCtorEq, reduceIte, reduceDIte, Int.reduceNeg]; first | rfl | ((repeat' apply And.intro) <;> first | rfl | assumption | omega)) (by dsimp only; omega)
        rw [List.take_succ_eq_append_getElem hkl, List.mem_append, List.mem_singleton] at hx
        rcases hx with hx | rfl
        · exact hk2 x hx
        · exact h.2
      · have h : ¬ (k : Int) < p.length ∨ ¬ fltC (p.getD k ((ByteArray.empty, 0, ByteArray.empty, 0), 0)).1 a.1 < 0 := by assumption
        obtain ⟨w1, w2⟩ := tw_take (fun x : All => decide (fltC x.1 a.1 < 0)) p k (fun x hx => decide_eq_true (hk2 x hx)) (fun hkl => by
          have ez : ∀ z, p.getD k z = p[k] := fun z => by simp [hkl]
          rw [ez] at h
          refine decide_eq_false (h.elim (fun h => absurd ?_ h) id)
          omega) hk1
        unfold placeV
        rw [w1, w2, List.take_of_length_le (Nat.le_refl _), List.append_assoc]
        rfl)
end Go.Proofs.YtdmgmdppejopcaaGreat
