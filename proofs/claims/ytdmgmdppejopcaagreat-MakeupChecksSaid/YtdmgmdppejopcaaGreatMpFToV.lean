/- The contracts of the functions that the statements about the makeup reach: schedules out of numbers. -/
import Derived.Test.YtdmgmdppejopcaaGreatMpE
set_option linter.unusedSimpArgs false
set_option linter.unusedVariables false
set_option maxRecDepth 100000
set_option maxHeartbeats 4000000
namespace Go.Proofs.YtdmgmdppejopcaaGreat
open Go.Ev

def con25 : Con := { ps := [.d false (.sl (.pair (.pair .str (.pair (.int .i64) (.pair .str (.int .i64)))) (.pair .str (.pair (.int .i64) (.pair (.int .i64) (.pair (.int .i64) (.pair (.int .i64) (.int .i64))))))))], rs := [.o 54 (.pair (.pair .str (.pair (.int .i64) (.pair .str (.int .i64)))) (.pair .str (.pair (.int .i64) (.pair (.int .i64) (.pair (.int .i64) (.pair (.int .i64) (.int .i64)))))))], pre := fun (x : List Dep × Unit) => x.1.length ≤ 1048576, out := fun x => (planV x.1, ()), nw := id }
theorem c25 : CtrOk Tryz.prog 25 con25.ctr :=
  con_sound (G := ⟨[(54, con54.ctr)], [], []⟩) tab_ok (EnvOk.cons c54 has54 EnvOk.nil) rfl Tryz.func25 rfl con25 13 (by kernel_rfl) (by decide) (by decide) rfl (by decide) rfl (by
    rintro ⟨(l : List Dep), _⟩ hpre hwf X hT hG hk hK
    have hl : l.length ≤ 1048576 := hpre
    (simp only [go_sem, Prod.eta, Option.isSome_none, Option.isSome_some, Int.toNat_zero, Nat.reduceAdd, Nat.reduceMul, Nat.reduceSub, Nat.reduceEqDiff, Nat.reduceLT, Nat.reduceLeDiff, Nat.reduceShiftRight, Nat.reduceMod, Nat.reduceBEq, reduceCtorEq, reduceIte, reduceDIte, Int.reduceNeg, Bool.not_eq_true', Bool.not_eq_false', Bool.or_eq_true, Bool.or_eq_false_iff, Bool.and_eq_true, Bool.and_eq_false_iff, decide_eq_true_eq, decide_eq_false_iff_not, Classical.not_not, not_or, maxLen, con25, con54, hT, hG, hk, hK, Tryz.results25] at hwf ⊢); (try simp (disch := decide +kernel) only [drawn, true_and, and_true])
    (repeat' (with_reducible (first | refine And.intro ?_ ?_ | intro _))) <;> (try (first | with_reducible (first | done | assumption | omega | contradiction) | decide)))
def ascI : List Int → Bool
  | a :: b :: l => decide (a < b) && ascI (b :: l)
  | _ => true
def argsV (l : List Dep) (cs : List Int) : Int :=
  if validateV l ≠ 0 then validateV l else if ((planV l).length : Int) > 16 ∨ (cs.length : Int) > 6 then 2 else if cs.all (fun c => decide (0 ≤ c)) = false then 1 else if ascI cs = false then 9 else 0
def con22 : Con := { ps := [.d false (.sl (.pair (.pair .str (.pair (.int .i64) (.pair .str (.int .i64)))) (.pair .str (.pair (.int .i64) (.pair (.int .i64) (.pair (.int .i64) (.pair (.int .i64) (.int .i64)))))))), .d false (.sl (.int .i64))], rs := [.d false (.int .i64)], pre := fun (x : List Dep × List Int × Unit) => x.1.length ≤ 1048576, out := fun x => (argsV x.1 x.2.1, ()), nw := id }
theorem c22 : CtrOk Tryz.prog 22 con22.ctr :=
  con_sound (G := ⟨[(25, con25.ctr), (51, con51.ctr)], [], []⟩) tab_ok (EnvOk.cons c25 has25 (EnvOk.cons c51 has51 EnvOk.nil)) rfl Tryz.func22 rfl con22 140773051863475 (by kernel_rfl) (by decide) (by decide) rfl (by decide) rfl (by
    rintro ⟨(l : List Dep), (cs : List Int), _⟩ hpre hwf X hT hG hk hK
    have hl : l.length ≤ 1048576 := hpre
    (simp only [go_sem, Prod.eta, Option.isSome_none, Option.isSome_some, Int.toNat_zero, Nat.reduceAdd, Nat.reduceMul, Nat.reduceSub, Nat.reduceEqDiff, Nat.reduceLT, Nat.reduceLeDiff, Nat.reduceShiftRight, Nat.reduceMod, Nat.reduceBEq, reduceCtorEq, reduceIte, reduceDIte, Int.reduceNeg, Bool.not_eq_true', Bool.not_eq_false', Bool.or_eq_true, Bool.or_eq_false_iff, Bool.and_eq_true, Bool.and_eq_false_iff, decide_eq_true_eq, decide_eq_false_iff_not, Classical.not_not, not_or, maxLen, con22, con25, con51, hT, hG, hk, hK, Tryz.results22] at hwf ⊢); (try simp (disch := decide +kernel) only [drawn, true_and, and_true])
    (repeat' (with_reducible (first | refine And.intro ?_ ?_ | intro _))) <;> (try (first | with_reducible (first | done | assumption | omega | contradiction) | decide))
    · rename_i h
      unfold argsV; rw [if_pos h]
    · have h0 : validateV l = 0 := by assumption
      have h1 : ((planV l).length : Int) > 16 ∨ (cs.length : Int) > 6 := by assumption
      unfold argsV; rw [if_neg (by omega), if_pos h1]
    · have h0 : validateV l = 0 := by assumption
      have h1 : ¬ ((planV l).length : Int) > 16 ∧ ¬ (cs.length : Int) > 6 := by assumption
      have e0 : argsV l cs = if cs.all (fun c => decide (0 ≤ c)) = false then 1 else if ascI cs = false then 9 else 0 := by
        unfold argsV; rw [if_neg (by omega), if_neg (by omega)]
      refine evk_loop ⟨{ i : Nat // i ≤ cs.length ∧ (cs.take i).all (fun c => decide (0 ≤ c)) = true }, 1000, fun i => [(1, .one (.sl (.int .i64) cs false)), (23, .one (.sl (.int .i64) cs false)), (24, .one (.int .i64 cs.length)), (25, .one (.int .i64 i.1))], fun _ => [], fun i => cs.length - i.1⟩ ⟨0, by simp, by simp⟩ ?_ ?_
      · simp only [go_sem, Prod.eta, Option.isSome_none, Option.isSome_some, Int.toNat_zero, Nat.reduceAdd, Nat.reduceMul, Nat.reduceSub, Nat.reduceEqDiff, Nat.reduceLT, Nat.reduceLeDiff, Nat.reduceShiftRight, Nat.reduceMod, Nat.reduceBEq, reduceCtorEq, reduceIte, reduceDIte, Int.reduceNeg]
        rfl
      · rintro ⟨i, (hi : i ≤ cs.length), (hx : (cs.take i).all (fun c => decide (0 ≤ c)) = true)⟩
        (simp only [go_sem, Prod.eta, Option.isSome_none, Option.isSome_some, Int.toNat_zero, Nat.reduceAdd, Nat.reduceMul, Nat.reduceSub, Nat.reduceEqDiff, Nat.reduceLT, Nat.reduceLeDiff, Nat.reduceShiftRight, Nat.reduceMod, Nat.reduceBEq, reduceCtorEq, reduceIte, reduceDIte, Int.reduceNeg, Bool.not_eq_true', Bool.not_eq_false', Bool.or_eq_true, Bool.or_eq_false_iff, Bool.and_eq_true, Bool.and_eq_false_iff, decide_eq_true_eq, decide_eq_false_iff_not, Classical.not_not, not_or, maxLen, con22, con25, con51, hT, hG, hk, hK, Tryz.results22]); (try simp (disch := decide +kernel) only [drawn, true_and, and_true])
        refine ⟨fun hlt => ?_, fun hge => ?_⟩
        · have hi' : i < cs.length := by omega
          have ek : ∀ z, cs.getD (i : Int).toNat z = cs[i] := fun z => by simp [hi']
          simp only [ek]
          (repeat' (with_reducible (first | refine And.intro ?_ ?_ | intro _))) <;> (try (first | with_reducible (first | done | assumption | omega | contradiction) | decide))
          · rename_i h
            rw [e0, if_pos]
            rw [List.all_eq_false]
            exact ⟨cs[i], List.getElem_mem hi', by rw [decide_eq_true_eq]; omega⟩
          · rename_i h
            refine fin_lp ⟨i + 1, by omega, by rw [List.take_succ_eq_append_getElem hi', List.all_append, hx]; simp; omega⟩ (by simp only [go_sem, Prod.eta, Option.isSome_none, Option.isSome_some, Int.toNat_zero, Nat.reduceAdd, Nat.reduceMul, Nat.reduceSub, Nat.reduceEqDiff, Nat.reduceLT, Nat.reduceLeDiff, Nat.reduceShiftRight, Nat.reduceMod, Nat.reduceBEq, reduceCtorEq, reduceIte, reduceDIte, Int.reduceNeg]; first | rfl | ((repeat' apply And.intro) <;> first | rfl | assumption | omega)) (by dsimp only; omega)
        · rw [List.take_of_length_le (by omega)] at hx
          have e1 : argsV l cs = if ascI cs = false then 9 else 0 := by rw [e0, if_neg (by rw [hx]; simp)]
          refine evk_loop ⟨{ i : Nat // (i ≤ cs.length ∨ i = 0) ∧ ascI cs = ascI (cs.drop i) }, 2000, fun i => [(1, .one (.sl (.int .i64) cs false)), (8, .one (.int .i64 (i.1 + 1)))], fun _ => [], fun i => cs.length - i.1⟩ ⟨0, by simp, by simp⟩ ?_ ?_
          · simp only [go_sem, Prod.eta, Option.isSome_none, Option.isSome_some, Int.toNat_zero, Nat.reduceAdd, Nat.reduceMul, Nat.reduceSub, Nat.reduceEqDiff, Nat.reduceLT, Nat.reduceLeDiff, Nat.reduceShiftRight, Nat.reduceMod, Nat.reduceBEq, reduceCtorEq, reduceIte, reduceDIte, Int.reduceNeg]
            rfl
          · rintro ⟨i, (hi : i ≤ cs.length ∨ i = 0), (he : ascI cs = ascI (cs.drop i))⟩
            (simp only [go_sem, Prod.eta, Option.isSome_none, Option.isSome_some, Int.toNat_zero, Nat.reduceAdd, Nat.reduceMul, Nat.reduceSub, Nat.reduceEqDiff, Nat.reduceLT, Nat.reduceLeDiff, Nat.reduceShiftRight, Nat.reduceMod, Nat.reduceBEq, reduceCtorEq, reduceIte, reduceDIte, Int.reduceNeg, Bool.not_eq_true', Bool.not_eq_false', Bool.or_eq_true, Bool.or_eq_false_iff, Bool.and_eq_true, Bool.and_eq_false_iff, decide_eq_true_eq, decide_eq_false_iff_not, Classical.not_not, not_or, maxLen, con22, con25, con51, hT, hG, hk, hK, Tryz.results22]); (try simp (disch := decide +kernel) only [drawn, true_and, and_true])
            refine fun _ => ⟨fun hlt => ?_, fun hge => ?_⟩
            · have hi' : i < cs.length := by omega
              have hi2 : i + 1 < cs.length := by omega
              have ek : ∀ z, cs.getD ((i : Int) + 1).toNat z = cs[i + 1] := fun z => by
                rw [show ((i : Int) + 1).toNat = i + 1 by omega]; simp [hi2]
              have ek2 : ∀ z, cs.getD ((i : Int) + 1 - 1).toNat z = cs[i] := fun z => by
                rw [show ((i : Int) + 1 - 1).toNat = i by omega]; simp [hi']
              simp only [ek, ek2]
              have hst : ascI cs = (decide (cs[i] < cs[i + 1]) && ascI (cs.drop (i + 1))) := by
                rw [he, List.drop_eq_getElem_cons hi', List.drop_eq_getElem_cons hi2, ascI]
              (repeat' (with_reducible (first | refine And.intro ?_ ?_ | intro _))) <;> (try (first | with_reducible (first | done | assumption | omega | contradiction) | decide))
              · rename_i h
                rw [e1, hst, decide_eq_false (by omega)]
                rfl
              · rename_i h
                refine fin_lp ⟨i + 1, by omega, by rw [hst, decide_eq_true (by omega)]; rfl⟩ (by simp only [go_sem, Prod.eta, Option.isSome_none, Option.isSome_some, Int.toNat_zero, Nat.reduceAdd, Nat.reduceMul, Nat.reduceSub, Nat.reduceEqDiff, Nat.reduceLT, Nat.reduceLeDiff, Nat.reduceShiftRight, Nat.reduceMod, Nat.reduceBEq, reduceCtorEq, reduceIte, reduceDIte, Int.reduceNeg]; first | rfl | ((repeat' apply And.intro) <;> first | rfl | assumption | omega)) (by dsimp only; omega)
            · have ha : ascI cs = true := by
                rw [he]
                rcases h : cs.drop i with _ | ⟨a, _ | ⟨b, q⟩⟩
                · rfl
                · rfl
                · have := congrArg List.length h
                  rw [List.length_drop] at this
                  simp only [List.length_cons] at this
                  omega
              rw [e1, if_neg (by rw [ha]; simp)])
def strs3 : List ByteArray := [⟨#[66, 65]⟩, ⟨#[76, 72]⟩, ⟨#[83, 75]⟩]
def fltsV (n : Int) : Flt := (strs3.getD (goMod n 27 / 9).toNat ByteArray.empty, 1 + goMod n 27 / 3 % 3, ByteArray.empty, 1 + goMod n 27 % 3)
def con19 : Con := { ps := [.d false (.int .i64)], rs := [.d true (.pair .str (.pair (.int .i64) (.pair .str (.int .i64))))], pre := fun _ => True, out := fun x => (fltsV x.1, ()), nw := id }
theorem c19 : CtrOk Tryz.prog 19 con19.ctr :=
  con_sound (G := ⟨[(41, con41.ctr)], [], []⟩) tab_ok (EnvOk.cons c41 has41 EnvOk.nil) rfl Tryz.func19 rfl con19 5 (by kernel_rfl) (by decide) (by decide) rfl (by decide) rfl (by
    rintro ⟨(n : Int), _⟩ hpre hwf X hT hG hk hK
    (simp only [go_sem, Prod.eta, Option.isSome_none, Option.isSome_some, Int.toNat_zero, Nat.reduceAdd, Nat.reduceMul, Nat.reduceSub, Nat.reduceEqDiff, Nat.reduceLT, Nat.reduceLeDiff, Nat.reduceShiftRight, Nat.reduceMod, Nat.reduceBEq, reduceCtorEq, reduceIte, reduceDIte, Int.reduceNeg, Bool.not_eq_true', Bool.not_eq_false', Bool.or_eq_true, Bool.or_eq_false_iff, Bool.and_eq_true, Bool.and_eq_false_iff, decide_eq_true_eq, decide_eq_false_iff_not, Classical.not_not, not_or, maxLen, con19, con41, hT, hG, hk, hK, Tryz.results19] at hwf ⊢); (try simp (disch := decide +kernel) only [drawn, true_and, and_true])
    have hb := goMod_bd n 27 (by omega)
    have e : fltsV n = (strs3.getD (goMod n 27 / 9).toNat ByteArray.empty, 1 + goMod n 27 / 3 % 3, ByteArray.empty, 1 + goMod n 27 % 3) := rfl
    rw [e]
    generalize goMod n 27 = k at hb ⊢
    have e1 : k.tdiv 9 = k / 9 := Int.tdiv_eq_ediv_of_nonneg hb.1
    have e2 : k.tdiv 3 = k / 3 := Int.tdiv_eq_ediv_of_nonneg hb.1
    have e3 : k.tmod 3 = k % 3 := Int.tmod_eq_emod_of_nonneg hb.1
    have e4 : (k / 3).tmod 3 = k / 3 % 3 := Int.tmod_eq_emod_of_nonneg (by omega)
    simp only [e1, e2, e3, e4]
    (repeat' (with_reducible (first | refine And.intro ?_ ?_ | intro _))) <;> (try (first | with_reducible (first | done | assumption | omega | contradiction) | decide))
    all_goals rfl)
def con50 : Con := { ps := [.p 48 (.pair (.sl (.int .i64)) (.int .i64)), .d false (.sl .str)], rs := [.d false .str], pre := fun (x : Src × List ByteArray × Unit) => 0 ≤ x.1.2 ∧ 0 < x.2.1.length, out := fun (x : Src × List ByteArray × Unit) => (x.2.1.getD (goMod x.1.raw x.2.1.length).toNat ByteArray.empty, ()), nw := fun x => (Src.step x.1, x.2) }
theorem c50 : CtrOk Tryz.prog 50 con50.ctr :=
  con_sound (G := ⟨[(15, con15.ctr)], [], []⟩) tab_ok (EnvOk.cons c15 has15 EnvOk.nil) rfl Tryz.func50 rfl con50 19 (by kernel_rfl) (by decide) (by decide) rfl (by decide) rfl (by
    rintro ⟨⟨(l : List Int), (a : Int)⟩, (s : List ByteArray), _⟩ hpre hwf X hT hG hk hK
    obtain ⟨h1, h2⟩ : 0 ≤ a ∧ 0 < s.length := hpre
    (simp only [go_sem, Prod.eta, Option.isSome_none, Option.isSome_some, Int.toNat_zero, Nat.reduceAdd, Nat.reduceMul, Nat.reduceSub, Nat.reduceEqDiff, Nat.reduceLT, Nat.reduceLeDiff, Nat.reduceShiftRight, Nat.reduceMod, Nat.reduceBEq, reduceCtorEq, reduceIte, reduceDIte, Int.reduceNeg, Bool.not_eq_true', Bool.not_eq_false', Bool.or_eq_true, Bool.or_eq_false_iff, Bool.and_eq_true, Bool.and_eq_false_iff, decide_eq_true_eq, decide_eq_false_iff_not, Classical.not_not, not_or, maxLen, con50, con15, hT, hG, hk, hK, Tryz.results50] at hwf ⊢); (try simp (disch := decide +kernel) only [drawn, true_and, and_true])
    have := goMod_bd (Src.raw (l, a)) s.length (by omega)
    (repeat' (with_reducible (first | refine And.intro ?_ ?_ | intro _))) <;> (try (first | with_reducible (first | done | assumption | omega | contradiction) | decide)))
def ports : List ByteArray := [⟨#[67, 80, 72]⟩, ⟨#[76, 72, 82]⟩, ⟨#[70, 82, 65]⟩, ⟨#[79, 83, 76]⟩, ⟨#[65, 82, 78]⟩]
def con20 : Con := { ps := [.p 48 (.pair (.sl (.int .i64)) (.int .i64))], rs := [.d false .str], pre := fun (x : Src × Unit) => 0 ≤ x.1.2, out := fun (x : Src × Unit) => (ports.getD (goMod x.1.raw 5).toNat ByteArray.empty, ()), nw := fun x => (Src.step x.1, x.2) }
theorem c20 : CtrOk Tryz.prog 20 con20.ctr :=
  con_sound (G := ⟨[(50, con50.ctr)], [], []⟩) tab_ok (EnvOk.cons c50 has50 EnvOk.nil) rfl Tryz.func20 rfl con20 5 (by kernel_rfl) (by decide) (by decide) rfl (by decide) rfl (by
    rintro ⟨⟨(l : List Int), (a : Int)⟩, _⟩ hpre hwf X hT hG hk hK
    have h1 : 0 ≤ a := hpre
    (simp only [go_sem, Prod.eta, Option.isSome_none, Option.isSome_some, Int.toNat_zero, Nat.reduceAdd, Nat.reduceMul, Nat.reduceSub, Nat.reduceEqDiff, Nat.reduceLT, Nat.reduceLeDiff, Nat.reduceShiftRight, Nat.reduceMod, Nat.reduceBEq, reduceCtorEq, reduceIte, reduceDIte, Int.reduceNeg, Bool.not_eq_true', Bool.not_eq_false', Bool.or_eq_true, Bool.or_eq_false_iff, Bool.and_eq_true, Bool.and_eq_false_iff, decide_eq_true_eq, decide_eq_false_iff_not, Classical.not_not, not_or, maxLen, con20, con50, hT, hG, hk, hK, Tryz.results20] at hwf ⊢); (try simp (disch := decide +kernel) only [drawn, true_and, and_true])
    (repeat' (with_reducible (first | refine And.intro ?_ ?_ | intro _))) <;> (try (first | with_reducible (first | done | assumption | omega | contradiction) | decide))
    all_goals rfl)
def con7 : Con := { ps := [.d false (.sl (.pair (.pair .str (.pair (.int .i64) (.pair .str (.int .i64)))) (.pair .str (.pair (.int .i64) (.pair (.int .i64) (.pair (.int .i64) (.pair (.int .i64) (.int .i64))))))))], rs := [.d false (.sl (.pair (.pair .str (.pair (.int .i64) (.pair .str (.int .i64)))) (.pair .str (.pair (.int .i64) (.pair (.int .i64) (.pair (.int .i64) (.pair (.int .i64) (.int .i64))))))))], pre := fun _ => True, out := fun (x : List Dep × Unit) => (x.1.take 30, ()), nw := id }
theorem c7 : CtrOk Tryz.prog 7 con7.ctr :=
  con_sound (G := ⟨[], [], []⟩) tab_ok EnvOk.nil rfl Tryz.func7 rfl con7 5 (by kernel_rfl) (by decide) (by decide) rfl (by decide) rfl (by
    rintro ⟨(l : List Dep), _⟩ hpre hwf X hT hG hk hK
    (simp only [go_sem, Prod.eta, Option.isSome_none, Option.isSome_some, Int.toNat_zero, Nat.reduceAdd, Nat.reduceMul, Nat.reduceSub, Nat.reduceEqDiff, Nat.reduceLT, Nat.reduceLeDiff, Nat.reduceShiftRight, Nat.reduceMod, Nat.reduceBEq, reduceCtorEq, reduceIte, reduceDIte, Int.reduceNeg, Bool.not_eq_true', Bool.not_eq_false', Bool.or_eq_true, Bool.or_eq_false_iff, Bool.and_eq_true, Bool.and_eq_false_iff, decide_eq_true_eq, decide_eq_false_iff_not, Classical.not_not, not_or, maxLen, con7, hT, hG, hk, hK, Tryz.results7] at hwf ⊢); (try simp (disch := decide +kernel) only [drawn, true_and, and_true])
    (repeat' (with_reducible (first | refine And.intro ?_ ?_ | intro _))) <;> (try (first | with_reducible (first | done | assumption | omega | contradiction) | decide))
    split
    · rfl
    · rw [List.take_of_length_le (by omega), List.take_of_length_le (by omega)])
def depV (k : Int) (s : Src) : Dep :=
  (fltsV k, ports.getD (goMod s.raw 5).toNat ByteArray.empty, goMod s.step.raw 40, goMod s.step.raw 40 + 1 + goMod s.step.step.step.raw 20, goMod s.step.raw 40 + 1 + goMod s.step.step.step.raw 20 + goMod s.step.step.step.step.raw 10, goMod s.step.step.raw 100, ([0, 0, 0, 0, 1, 2] : List Int).getD (goMod s.step.step.step.step.step.raw 6).toNat 0)
def dep6 (s : Src) : Src := s.step.step.step.step.step.step
def schedL : Nat → Src → Int → List Dep × Src
  | 0, s, _ => ([], s)
  | n + 1, s, k => if k < 27 then (if k + goMod s.raw 3 ≥ 27 then ([], s.step) else (depV (k + goMod s.raw 3) s.step :: (schedL n (dep6 s.step) (k + goMod s.raw 3 + 1)).1, (schedL n (dep6 s.step) (k + goMod s.raw 3 + 1)).2)) else ([], s)
def schedV (s : Src) (most : Int) : List Dep × Src := schedL (goMod s.raw (most + 1)).toNat s.step 0
def con6 : Con := { ps := [.p 48 (.pair (.sl (.int .i64)) (.int .i64)), .d false (.int .i64)], rs := [.d false (.sl (.pair (.pair .str (.pair (.int .i64) (.pair .str (.int .i64)))) (.pair .str (.pair (.int .i64) (.pair (.int .i64) (.pair (.int .i64) (.pair (.int .i64) (.int .i64))))))))], pre := fun (x : Src × Int × Unit) => 0 ≤ x.1.2 ∧ 0 ≤ x.2.1 ∧ x.2.1 ≤ 1000, out := fun (x : Src × Int × Unit) => ((schedV x.1 x.2.1).1, ()), nw := fun x => ((schedV x.1 x.2.1).2, x.2) }
theorem c6 : CtrOk Tryz.prog 6 con6.ctr :=
  con_sound (G := ⟨[(15, con15.ctr), (19, con19.ctr), (20, con20.ctr)], [], []⟩) tab_ok (EnvOk.cons c15 has15 (EnvOk.cons c19 has19 (EnvOk.cons c20 has20 EnvOk.nil))) rfl Tryz.func6 rfl con6 269485043 (by kernel_rfl) (by decide) (by decide) rfl (by decide) rfl (by
    rintro ⟨⟨(sl : List Int), (sa : Int)⟩, (most : Int), _⟩ hpre hwf X hT hG hk hK
    obtain ⟨h1, h2, h3⟩ : 0 ≤ sa ∧ 0 ≤ most ∧ most ≤ 1000 := hpre
    (simp only [go_sem, Prod.eta, Option.isSome_none, Option.isSome_some, Int.toNat_zero, Nat.reduceAdd, Nat.reduceMul, Nat.reduceSub, Nat.reduceEqDiff, Nat.reduceLT, Nat.reduceLeDiff, Nat.reduceShiftRight, Nat.reduceMod, Nat.reduceBEq, reduceCtorEq, reduceIte, reduceDIte, Int.reduceNeg, Bool.not_eq_true', Bool.not_eq_false', Bool.or_eq_true, Bool.or_eq_false_iff, Bool.and_eq_true, Bool.and_eq_false_iff, decide_eq_true_eq, decide_eq_false_iff_not, Classical.not_not, not_or, maxLen, con6, con15, con19, con20, hT, hG, hk, hK, Tryz.results6] at hwf ⊢); (try simp (disch := decide +kernel) only [drawn, true_and, and_true])
    have hn0 := goMod_bd (Src.raw (sl, sa)) (most + 1) (by omega)
    have hs := Src.step_pos (sl, sa) h1
    have hv : schedV (sl, sa) most = schedL (goMod (Src.raw (sl, sa)) (most + 1)).toNat (Src.step (sl, sa)) 0 := rfl
    generalize goMod (Src.raw (sl, sa)) (most + 1) = n0 at hn0 hv ⊢
    generalize Src.step (sl, sa) = s1 at hs hv ⊢
    (repeat' (with_reducible (first | refine And.intro ?_ ?_ | intro _))) <;> (try (first | with_reducible (first | done | assumption | omega | contradiction) | decide))
    refine evk_loop ⟨{ q : Src × Int × Nat × List Dep // 0 ≤ q.1.2 ∧ 0 ≤ q.2.1 ∧ q.2.1 ≤ 27 ∧ q.2.2.1 ≤ n0.toNat ∧ q.2.2.2.length ≤ q.2.2.1 ∧ schedL n0.toNat s1 0 = (q.2.2.2 ++ (schedL (n0.toNat - q.2.2.1) q.1 q.2.1).1, (schedL (n0.toNat - q.2.2.1) q.1 q.2.1).2) }, 1000,
      fun q => [(0, .one (.loc 0 0)), (5, .one (.int .i64 n0)), (6, .one (.row 64)), (7, .one (.int .i64 q.1.2.1)), (8, .one (.int .i64 q.1.2.2.1))],
      fun q => [(0, .cells 48 [.sl (.int .i64) q.1.1.1 false, .int .i64 q.1.1.2]), (64, .row 54 (.pair (.pair .str (.pair (.int .i64) (.pair .str (.int .i64)))) (.pair .str (.pair (.int .i64) (.pair (.int .i64) (.pair (.int .i64) (.pair (.int .i64) (.int .i64))))))) q.1.2.2.2)], fun q => n0.toNat - q.1.2.2.1⟩
      ⟨(s1, 0, 0, []), hs, by simp, by simp, by simp, by simp, by simp⟩ ?_ ?_
    · simp only [go_sem, Prod.eta, Option.isSome_none, Option.isSome_some, Int.toNat_zero, Nat.reduceAdd, Nat.reduceMul, Nat.reduceSub, Nat.reduceEqDiff, Nat.reduceLT, Nat.reduceLeDiff, Nat.reduceShiftRight, Nat.reduceMod, Nat.reduceBEq, reduceCtorEq, reduceIte, reduceDIte, Int.reduceNeg]
      rfl
    · rintro ⟨⟨⟨ql, qa⟩, k, i, out⟩, (c1 : 0 ≤ qa), (c2 : 0 ≤ k), (c3 : k ≤ 27), (c4 : i ≤ n0.toNat), (c5 : out.length ≤ i), (c6 : schedL n0.toNat s1 0 = (out ++ (schedL (n0.toNat - i) (ql, qa) k).1, (schedL (n0.toNat - i) (ql, qa) k).2))⟩
      (simp only [go_sem, Prod.eta, Option.isSome_none, Option.isSome_some, Int.toNat_zero, Nat.reduceAdd, Nat.reduceMul, Nat.reduceSub, Nat.reduceEqDiff, Nat.reduceLT, Nat.reduceLeDiff, Nat.reduceShiftRight, Nat.reduceMod, Nat.reduceBEq, reduceCtorEq, reduceIte, reduceDIte, Int.reduceNeg, Bool.not_eq_true', Bool.not_eq_false', Bool.or_eq_true, Bool.or_eq_false_iff, Bool.and_eq_true, Bool.and_eq_false_iff, decide_eq_true_eq, decide_eq_false_iff_not, Classical.not_not, not_or, maxLen, con6, con15, con19, con20, hT, hG, hk, hK, Tryz.results6]); (try simp (disch := decide +kernel) only [drawn, true_and, and_true])
      have b3 := goMod_bd (Src.raw (ql, qa)) 3 (by omega)
      have p1 := Src.step_pos (ql, qa) c1
      have p2 := Src.step_pos _ p1
      have p3 := Src.step_pos _ p2
      have p4 := Src.step_pos _ p3
      have p5 := Src.step_pos _ p4
      have p6 := Src.step_pos _ p5
      have p7 := Src.step_pos _ p6
      refine ⟨fun hc => ?_, fun hc => ?_⟩
      · have hm : n0.toNat - i = (n0.toNat - (i + 1)) + 1 := by omega
        rw [hm, schedL, if_pos hc.2] at c6
        have q40 := goMod_bd (Src.raw (Src.step (Src.step (ql, qa)))) 40 (by omega)
        have q100 := goMod_bd (Src.raw (Src.step (Src.step (Src.step (ql, qa))))) 100 (by omega)
        have q20 := goMod_bd (Src.raw (Src.step (Src.step (Src.step (Src.step (ql, qa)))))) 20 (by omega)
        have q10 := goMod_bd (Src.raw (Src.step (Src.step (Src.step (Src.step (Src.step (ql, qa))))))) 10 (by omega)
        have q6 := goMod_bd (Src.raw (Src.step (Src.step (Src.step (Src.step (Src.step (Src.step (ql, qa)))))))) 6 (by omega)
        have e := @depV.eq_1 (k + goMod (Src.raw (ql, qa)) 3) (Src.step (ql, qa))
        have e7 : dep6 (Src.step (ql, qa)) = Src.step (Src.step (Src.step (Src.step (Src.step (Src.step (Src.step (ql, qa))))))) := rfl
        (repeat' (with_reducible (first | refine And.intro ?_ ?_ | intro _))) <;> (try (first | with_reducible (first | done | assumption | omega | contradiction) | decide))
        · rename_i h
          rw [if_pos h] at c6
          rw [hv, c6]
        · rename_i h
          rw [if_pos h] at c6
          rw [hv, c6]
        · rename_i h
          rw [if_pos h] at c6
          rw [hv, c6]; simp
        · have h : ¬ k + goMod (Src.raw (ql, qa)) 3 ≥ 27 := by assumption
          rw [if_neg h] at c6
          rw [e7] at c6
          refine fin_lp ⟨(Src.step (Src.step (Src.step (Src.step (Src.step (Src.step (Src.step (ql, qa))))))), k + goMod (Src.raw (ql, qa)) 3 + 1, i + 1, out ++ [depV (k + goMod (Src.raw (ql, qa)) 3) (Src.step (ql, qa))]), p7, by dsimp only; omega, by dsimp only; omega, by dsimp only; omega, by rw [List.length_append]; simp only [List.length_singleton]; omega, by dsimp only; rw [c6]; simp⟩ (by simp only [go_sem, Prod.eta, Option.isSome_none, Option.isSome_some, Int.toNat_zero, Nat.reduceAdd, Nat.reduceMul, Nat.reduceSub, Nat.reduceEqDiff, Nat.reduceLT, Nat.reduceLeDiff, Nat.reduceShiftRight, Nat.reduceMod, Nat.reduceBEq, reduceCtorEq, reduceIte, reduceDIte, Int.reduceNeg]; first | rfl | ((repeat' apply And.intro) <;> first | rfl | assumption | omega)) (by dsimp only; omega)
      · have hx : schedL (n0.toNat - i) (ql, qa) k = ([], (ql, qa)) := by
          cases hq : n0.toNat - i with
          | zero => rfl
          | succ m => rw [schedL, if_neg (by omega)]
        rw [hx] at c6
        rw [hv, c6]
        exact ⟨rfl, rfl, by simp⟩)
def chL : Nat → Src → Int → List Int × Src
  | 0, s, _ => ([], s)
  | n + 1, s, c => ((c + (1 + goMod s.raw 3)) :: (chL n s.step (c + (1 + goMod s.raw 3))).1, (chL n s.step (c + (1 + goMod s.raw 3))).2)
def chutesV (s : Src) (n : Int) : List Int × Src := chL (goMod s.raw (n + 1)).toNat s.step 0
def con9 : Con := { ps := [.p 48 (.pair (.sl (.int .i64)) (.int .i64)), .d false (.int .i64)], rs := [.d false (.sl (.int .i64))], pre := fun (x : Src × Int × Unit) => 0 ≤ x.1.2 ∧ 0 ≤ x.2.1 ∧ x.2.1 ≤ 1000, out := fun (x : Src × Int × Unit) => ((chutesV x.1 x.2.1).1, ()), nw := fun x => ((chutesV x.1 x.2.1).2, x.2) }
theorem c9 : CtrOk Tryz.prog 9 con9.ctr :=
  con_sound (G := ⟨[(15, con15.ctr)], [], []⟩) tab_ok (EnvOk.cons c15 has15 EnvOk.nil) rfl Tryz.func9 rfl con9 8435 (by kernel_rfl) (by decide) (by decide) rfl (by decide) rfl (by
    rintro ⟨⟨(sl : List Int), (sa : Int)⟩, (most : Int), _⟩ hpre hwf X hT hG hk hK
    obtain ⟨h1, h2, h3⟩ : 0 ≤ sa ∧ 0 ≤ most ∧ most ≤ 1000 := hpre
    (simp only [go_sem, Prod.eta, Option.isSome_none, Option.isSome_some, Int.toNat_zero, Nat.reduceAdd, Nat.reduceMul, Nat.reduceSub, Nat.reduceEqDiff, Nat.reduceLT, Nat.reduceLeDiff, Nat.reduceShiftRight, Nat.reduceMod, Nat.reduceBEq, reduceCtorEq, reduceIte, reduceDIte, Int.reduceNeg, Bool.not_eq_true', Bool.not_eq_false', Bool.or_eq_true, Bool.or_eq_false_iff, Bool.and_eq_true, Bool.and_eq_false_iff, decide_eq_true_eq, decide_eq_false_iff_not, Classical.not_not, not_or, maxLen, con9, con15, hT, hG, hk, hK, Tryz.results9] at hwf ⊢); (try simp (disch := decide +kernel) only [drawn, true_and, and_true])
    have hn0 := goMod_bd (Src.raw (sl, sa)) (most + 1) (by omega)
    have hs := Src.step_pos (sl, sa) h1
    have hv : chutesV (sl, sa) most = chL (goMod (Src.raw (sl, sa)) (most + 1)).toNat (Src.step (sl, sa)) 0 := rfl
    generalize goMod (Src.raw (sl, sa)) (most + 1) = n0 at hn0 hv ⊢
    generalize Src.step (sl, sa) = s1 at hs hv ⊢
    (repeat' (with_reducible (first | refine And.intro ?_ ?_ | intro _))) <;> (try (first | with_reducible (first | done | assumption | omega | contradiction) | decide))
    refine evk_loop ⟨{ q : Src × Int × Nat × List Int // 0 ≤ q.1.2 ∧ 0 ≤ q.2.1 ∧ q.2.1 ≤ 3 * (n0 - q.2.2.1) ∧ q.2.2.2.length + q.2.2.1 ≤ n0.toNat ∧ chL n0.toNat s1 0 = (q.2.2.2 ++ (chL q.2.2.1 q.1 q.2.1).1, (chL q.2.2.1 q.1 q.2.1).2) }, 1000,
      fun q => [(0, .one (.loc 0 0)), (5, .one (.row 64)), (6, .one (.int .i64 q.1.2.1)), (7, .one (.int .i64 q.1.2.2.1))],
      fun q => [(0, .cells 48 [.sl (.int .i64) q.1.1.1 false, .int .i64 q.1.1.2]), (64, .row 3 (.int .i64) q.1.2.2.2)], fun q => q.1.2.2.1⟩
      ⟨(s1, 0, n0.toNat, []), hs, by simp, by simp only; omega, by simp, by simp⟩ ?_ ?_
    · simp only [go_sem, Prod.eta, Option.isSome_none, Option.isSome_some, Int.toNat_zero, Nat.reduceAdd, Nat.reduceMul, Nat.reduceSub, Nat.reduceEqDiff, Nat.reduceLT, Nat.reduceLeDiff, Nat.reduceShiftRight, Nat.reduceMod, Nat.reduceBEq, reduceCtorEq, reduceIte, reduceDIte, Int.reduceNeg]
      first
        | rfl
        | omega
    · rintro ⟨⟨⟨ql, qa⟩, k, i, out⟩, (c1 : 0 ≤ qa), (c2 : 0 ≤ k), (c3 : k ≤ 3 * (n0 - i)), (c5 : out.length + i ≤ n0.toNat), (c6 : chL n0.toNat s1 0 = (out ++ (chL i (ql, qa) k).1, (chL i (ql, qa) k).2))⟩
      (simp only [go_sem, Prod.eta, Option.isSome_none, Option.isSome_some, Int.toNat_zero, Nat.reduceAdd, Nat.reduceMul, Nat.reduceSub, Nat.reduceEqDiff, Nat.reduceLT, Nat.reduceLeDiff, Nat.reduceShiftRight, Nat.reduceMod, Nat.reduceBEq, reduceCtorEq, reduceIte, reduceDIte, Int.reduceNeg, Bool.not_eq_true', Bool.not_eq_false', Bool.or_eq_true, Bool.or_eq_false_iff, Bool.and_eq_true, Bool.and_eq_false_iff, decide_eq_true_eq, decide_eq_false_iff_not, Classical.not_not, not_or, maxLen, con9, con15, hT, hG, hk, hK, Tryz.results9]); (try simp (disch := decide +kernel) only [drawn, true_and, and_true])
      have b3 := goMod_bd (Src.raw (ql, qa)) 3 (by omega)
      have p1 := Src.step_pos (ql, qa) c1
      refine ⟨fun hc => ?_, fun hc => ?_⟩
      · obtain ⟨j, rfl⟩ : ∃ j, i = j + 1 := ⟨i - 1, by omega⟩
        rw [chL] at c6
        (repeat' (with_reducible (first | refine And.intro ?_ ?_ | intro _))) <;> (try (first | with_reducible (first | done | assumption | omega | contradiction) | decide))
        refine fin_lp ⟨(Src.step (ql, qa), k + (1 + goMod (Src.raw (ql, qa)) 3), j, out ++ [k + (1 + goMod (Src.raw (ql, qa)) 3)]), p1, by dsimp only; omega, by dsimp only; omega, by rw [List.length_append]; simp only [List.length_singleton]; omega, by dsimp only; rw [c6]; simp⟩ (by simp only [go_sem, Prod.eta, Option.isSome_none, Option.isSome_some, Int.toNat_zero, Nat.reduceAdd, Nat.reduceMul, Nat.reduceSub, Nat.reduceEqDiff, Nat.reduceLT, Nat.reduceLeDiff, Nat.reduceShiftRight, Nat.reduceMod, Nat.reduceBEq, reduceCtorEq, reduceIte, reduceDIte, Int.reduceNeg]; first | rfl | ((repeat' apply And.intro) <;> first | rfl | assumption | omega)) (by dsimp only; omega)
      · obtain rfl : i = 0 := by omega
        rw [chL] at c6
        rw [hv, c6]
        exact ⟨rfl, rfl, by simp⟩)
def day1 (i : Nat) (t : Int) : Dep := (fltsV i, ⟨#[67, 80, 72]⟩, t, t + 10, t + 12, 0, 0)
def dayV : List Dep := [day1 0 10, day1 1 15, day1 2 20]
def con38 : Con := { ps := [], rs := [.d false (.sl (.pair (.pair .str (.pair (.int .i64) (.pair .str (.int .i64)))) (.pair .str (.pair (.int .i64) (.pair (.int .i64) (.pair (.int .i64) (.pair (.int .i64) (.int .i64))))))))], pre := fun _ => True, out := fun _ => (dayV, ()), nw := id }
theorem c38 : CtrOk Tryz.prog 38 con38.ctr :=
  con_sound (G := ⟨[(19, con19.ctr)], [], []⟩) tab_ok (EnvOk.cons c19 has19 EnvOk.nil) rfl Tryz.func38 rfl con38 255 (by kernel_rfl) (by decide) (by decide) rfl (by decide) rfl (by
    rintro _ hpre hwf X hT hG hk hK
    (simp only [go_sem, Prod.eta, Option.isSome_none, Option.isSome_some, Int.toNat_zero, Nat.reduceAdd, Nat.reduceMul, Nat.reduceSub, Nat.reduceEqDiff, Nat.reduceLT, Nat.reduceLeDiff, Nat.reduceShiftRight, Nat.reduceMod, Nat.reduceBEq, reduceCtorEq, reduceIte, reduceDIte, Int.reduceNeg, Bool.not_eq_true', Bool.not_eq_false', Bool.or_eq_true, Bool.or_eq_false_iff, Bool.and_eq_true, Bool.and_eq_false_iff, decide_eq_true_eq, decide_eq_false_iff_not, Classical.not_not, not_or, maxLen, con38, con19, hT, hG, hk, hK, Tryz.results38] at hwf ⊢); (try simp (disch := decide +kernel) only [drawn, true_and, and_true])
    refine fun _ => evk_loop ⟨{ i : Nat // i ≤ 3 }, 1000, fun i => [(1, .one (.row 64)), (4, .one (.row 96)), (5, .one (.int .i64 3)), (6, .one (.int .i64 i.1))],
      fun i => [(64, .row 54 (.pair (.pair .str (.pair (.int .i64) (.pair .str (.int .i64)))) (.pair .str (.pair (.int .i64) (.pair (.int .i64) (.pair (.int .i64) (.pair (.int .i64) (.int .i64))))))) (dayV.take i.1)), (96, .row 3 (.int .i64) [10, 15, 20])], fun i => 3 - i.1⟩ ⟨0, by omega⟩ ?_ ?_
    · simp only [go_sem, Prod.eta, Option.isSome_none, Option.isSome_some, Int.toNat_zero, Nat.reduceAdd, Nat.reduceMul, Nat.reduceSub, Nat.reduceEqDiff, Nat.reduceLT, Nat.reduceLeDiff, Nat.reduceShiftRight, Nat.reduceMod, Nat.reduceBEq, reduceCtorEq, reduceIte, reduceDIte, Int.reduceNeg]
      exact ⟨rfl, rfl⟩
    · rintro ⟨i, (hi : i ≤ 3)⟩
      (simp only [go_sem, Prod.eta, Option.isSome_none, Option.isSome_some, Int.toNat_zero, Nat.reduceAdd, Nat.reduceMul, Nat.reduceSub, Nat.reduceEqDiff, Nat.reduceLT, Nat.reduceLeDiff, Nat.reduceShiftRight, Nat.reduceMod, Nat.reduceBEq, reduceCtorEq, reduceIte, reduceDIte, Int.reduceNeg, Bool.not_eq_true', Bool.not_eq_false', Bool.or_eq_true, Bool.or_eq_false_iff, Bool.and_eq_true, Bool.and_eq_false_iff, decide_eq_true_eq, decide_eq_false_iff_not, Classical.not_not, not_or, maxLen, con38, con19, hT, hG, hk, hK, Tryz.results38]); (try simp (disch := decide +kernel) only [drawn, true_and, and_true])
      have hl : (dayV.take i).length ≤ 3 := by rw [List.length_take]; exact Nat.le_trans (Nat.min_le_right _ _) (by decide)
      have hs : i < 3 → dayV.take (i + 1) = dayV.take i ++ [(fltsV i, ⟨#[67, 80, 72]⟩, ([10, 15, 20] : List Int).getD (i : Int).toNat 0, ([10, 15, 20] : List Int).getD (i : Int).toNat 0 + 10, ([10, 15, 20] : List Int).getD (i : Int).toNat 0 + 12, 0, 0)] := fun h => by
        rcases (by omega : i = 0 ∨ i = 1 ∨ i = 2) with rfl | rfl | rfl <;> rfl
      have hg : i < 3 → 10 ≤ ([10, 15, 20] : List Int).getD (i : Int).toNat 0 ∧ ([10, 15, 20] : List Int).getD (i : Int).toNat 0 ≤ 20 := fun h => by
        rcases (by omega : i = 0 ∨ i = 1 ∨ i = 2) with rfl | rfl | rfl <;> decide
      generalize ([10, 15, 20] : List Int).getD (i : Int).toNat 0 = t at hs hg ⊢
      (repeat' (with_reducible (first | refine And.intro ?_ ?_ | intro _))) <;> (try (first | with_reducible (first | done | assumption | omega | contradiction) | decide))
      · have h3 : i < 3 := by omega
        have := hg h3
        (repeat' (with_reducible (first | refine And.intro ?_ ?_ | intro _))) <;> (try (first | with_reducible (first | done | assumption | omega | contradiction) | decide))
        refine fin_lp ⟨i + 1, by omega⟩ ?_ ?_
        · simp only [go_sem, Prod.eta, Option.isSome_none, Option.isSome_some, Int.toNat_zero, Nat.reduceAdd, Nat.reduceMul, Nat.reduceSub, Nat.reduceEqDiff, Nat.reduceLT, Nat.reduceLeDiff, Nat.reduceShiftRight, Nat.reduceMod, Nat.reduceBEq, reduceCtorEq, reduceIte, reduceDIte, Int.reduceNeg]
          rw [hs h3]
          exact ⟨rfl, rfl⟩
        · dsimp only; omega
      · rw [List.take_of_length_le (by show 3 ≤ i; omega)])
def flightV (s : Src) : Flt := (([⟨#[83, 75]⟩, ⟨#[66, 65]⟩, ⟨#[76, 72]⟩] : List ByteArray).getD (goMod s.raw 3).toNat ByteArray.empty, 1 + goMod s.step.raw 3, ByteArray.empty, 1 + goMod s.step.step.raw 3)
def con40 : Con := { ps := [.p 48 (.pair (.sl (.int .i64)) (.int .i64))], rs := [.d true (.pair .str (.pair (.int .i64) (.pair .str (.int .i64))))], pre := fun (x : Src × Unit) => 0 ≤ x.1.2, out := fun (x : Src × Unit) => (flightV x.1, ()), nw := fun x => (Src.step (Src.step (Src.step x.1)), x.2) }
theorem c40 : CtrOk Tryz.prog 40 con40.ctr :=
  con_sound (G := ⟨[(15, con15.ctr), (50, con50.ctr)], [], []⟩) tab_ok (EnvOk.cons c15 has15 (EnvOk.cons c50 has50 EnvOk.nil)) rfl Tryz.func40 rfl con40 5 (by kernel_rfl) (by decide) (by decide) rfl (by decide) rfl (by
    rintro ⟨⟨(l : List Int), (a : Int)⟩, _⟩ hpre hwf X hT hG hk hK
    have h1 : 0 ≤ a := hpre
    (simp only [go_sem, Prod.eta, Option.isSome_none, Option.isSome_some, Int.toNat_zero, Nat.reduceAdd, Nat.reduceMul, Nat.reduceSub, Nat.reduceEqDiff, Nat.reduceLT, Nat.reduceLeDiff, Nat.reduceShiftRight, Nat.reduceMod, Nat.reduceBEq, reduceCtorEq, reduceIte, reduceDIte, Int.reduceNeg, Bool.not_eq_true', Bool.not_eq_false', Bool.or_eq_true, Bool.or_eq_false_iff, Bool.and_eq_true, Bool.and_eq_false_iff, decide_eq_true_eq, decide_eq_false_iff_not, Classical.not_not, not_or, maxLen, con40, con15, con50, hT, hG, hk, hK, Tryz.results40] at hwf ⊢); (try simp (disch := decide +kernel) only [drawn, true_and, and_true])
    have p1 := Src.step_pos (l, a) h1
    have p2 := Src.step_pos _ p1
    have q1 := goMod_bd (Src.raw (Src.step (l, a))) 3 (by omega)
    have q2 := goMod_bd (Src.raw (Src.step (Src.step (l, a)))) 3 (by omega)
    (repeat' (with_reducible (first | refine And.intro ?_ ?_ | intro _))) <;> (try (first | with_reducible (first | done | assumption | omega | contradiction) | decide))
    all_goals rfl)
end Go.Proofs.YtdmgmdppejopcaaGreat

/- The contracts of the reference's functions: what is valid. -/
set_option linter.unusedSimpArgs false
set_option linter.unusedVariables false
set_option maxRecDepth 100000
set_option maxHeartbeats 4000000
namespace Go.Proofs.YtdmgmdppejopcaaGreat
open Go.Ev

def con115 : Con := { ps := [.d false (.int .u8)], rs := [.d false .bool], pre := fun _ => True, out := fun x => (letterV x.1, ()), nw := id }
theorem c115 : CtrOk Tryz.prog 115 con115.ctr :=
  con_sound (G := ⟨[], [], []⟩) tab_ok EnvOk.nil rfl Tryz.func115 rfl con115 5 (by kernel_rfl) (by decide) (by decide) rfl (by decide) rfl (by
    rintro ⟨(b : Int), _⟩ hpre hwf X hT hG hk hK
    (simp only [go_sem, Prod.eta, Option.isSome_none, Option.isSome_some, Int.toNat_zero, Nat.reduceAdd, Nat.reduceMul, Nat.reduceSub, Nat.reduceEqDiff, Nat.reduceLT, Nat.reduceLeDiff, Nat.reduceShiftRight, Nat.reduceMod, Nat.reduceBEq, reduceCtorEq, reduceIte, reduceDIte, Int.reduceNeg, Bool.not_eq_true', Bool.not_eq_false', Bool.or_eq_true, Bool.or_eq_false_iff, Bool.and_eq_true, Bool.and_eq_false_iff, decide_eq_true_eq, decide_eq_false_iff_not, Classical.not_not, not_or, maxLen, con115, hT, hG, hk, hK, Tryz.results115] at hwf ⊢); (try simp (disch := decide +kernel) only [drawn, true_and, and_true])
    (repeat' (with_reducible (first | refine And.intro ?_ ?_ | intro _))) <;> (try (first | with_reducible (first | done | assumption | omega | contradiction) | decide))
    rfl)
def con121 : Con := { ps := [.d false (.int .u8)], rs := [.d false .bool], pre := fun _ => True, out := fun x => (digitV x.1, ()), nw := id }
theorem c121 : CtrOk Tryz.prog 121 con121.ctr :=
  con_sound (G := ⟨[], [], []⟩) tab_ok EnvOk.nil rfl Tryz.func121 rfl con121 5 (by kernel_rfl) (by decide) (by decide) rfl (by decide) rfl (by
    rintro ⟨(b : Int), _⟩ hpre hwf X hT hG hk hK
    (simp only [go_sem, Prod.eta, Option.isSome_none, Option.isSome_some, Int.toNat_zero, Nat.reduceAdd, Nat.reduceMul, Nat.reduceSub, Nat.reduceEqDiff, Nat.reduceLT, Nat.reduceLeDiff, Nat.reduceShiftRight, Nat.reduceMod, Nat.reduceBEq, reduceCtorEq, reduceIte, reduceDIte, Int.reduceNeg, Bool.not_eq_true', Bool.not_eq_false', Bool.or_eq_true, Bool.or_eq_false_iff, Bool.and_eq_true, Bool.and_eq_false_iff, decide_eq_true_eq, decide_eq_false_iff_not, Classical.not_not, not_or, maxLen, con121, hT, hG, hk, hK, Tryz.results121] at hwf ⊢); (try simp (disch := decide +kernel) only [drawn, true_and, and_true])
    (repeat' (with_reducible (first | refine And.intro ?_ ?_ | intro _))) <;> (try (first | with_reducible (first | done | assumption | omega | contradiction) | decide))
    rfl)
theorem carrierV_eq (s : ByteArray) (h : s.size = 2) : carrierV s = ((letterV (byteAt s 0) || digitV (byteAt s 0)) && (letterV (byteAt s 1) || digitV (byteAt s 1)) && (letterV (byteAt s 0) || letterV (byteAt s 1))) := by
  unfold carrierV
  rw [if_neg (by omega), h]
  simp only [carF]
  cases letterV (byteAt s 0) <;> cases digitV (byteAt s 0) <;> cases letterV (byteAt s 1) <;> cases digitV (byteAt s 1) <;> decide
def con113 : Con := { ps := [.d false .str], rs := [.d false .bool], pre := fun _ => True, out := fun x => (carrierV x.1, ()), nw := id }
theorem c113 : CtrOk Tryz.prog 113 con113.ctr :=
  con_sound (G := ⟨[(115, con115.ctr), (121, con121.ctr)], [], []⟩) tab_ok (EnvOk.cons c115 has115 (EnvOk.cons c121 has121 EnvOk.nil)) rfl Tryz.func113 rfl con113 157 (by kernel_rfl) (by decide) (by decide) rfl (by decide) rfl (by
    rintro ⟨(s : ByteArray), _⟩ hpre hwf X hT hG hk hK
    (simp only [go_sem, Prod.eta, Option.isSome_none, Option.isSome_some, Int.toNat_zero, Nat.reduceAdd, Nat.reduceMul, Nat.reduceSub, Nat.reduceEqDiff, Nat.reduceLT, Nat.reduceLeDiff, Nat.reduceShiftRight, Nat.reduceMod, Nat.reduceBEq, reduceCtorEq, reduceIte, reduceDIte, Int.reduceNeg, Bool.not_eq_true', Bool.not_eq_false', Bool.or_eq_true, Bool.or_eq_false_iff, Bool.and_eq_true, Bool.and_eq_false_iff, decide_eq_true_eq, decide_eq_false_iff_not, Classical.not_not, not_or, maxLen, con113, con115, con121, hT, hG, hk, hK, Tryz.results113] at hwf ⊢); (try simp (disch := decide +kernel) only [drawn, true_and, and_true])
    (repeat' (with_reducible (first | refine And.intro ?_ ?_ | intro _))) <;> (try (first | with_reducible (first | done | assumption | omega | contradiction) | decide))
    · have h : ¬ (s.size : Int) = 2 := by assumption
      unfold carrierV; rw [if_pos h]
    all_goals first
      | (have h : (letterV (byteAt s 0) = true ∨ digitV (byteAt s 0) = true) ∧ (letterV (byteAt s 1) = true ∨ digitV (byteAt s 1) = true) := by assumption
         first
           | exact h.1
           | exact h.2)
      | (rename_i h
         exact (carrierV_eq s (by omega)).symm))
def con114 : Con := { ps := [.d false .str], rs := [.d false .bool], pre := fun _ => True, out := fun x => (lettersV x.1 0 1, ()), nw := id }
theorem c114 : CtrOk Tryz.prog 114 con114.ctr :=
  con_sound (G := ⟨[(115, con115.ctr)], [], []⟩) tab_ok (EnvOk.cons c115 has115 EnvOk.nil) rfl Tryz.func114 rfl con114 5 (by kernel_rfl) (by decide) (by decide) rfl (by decide) rfl (by
    rintro ⟨(s : ByteArray), _⟩ hpre hwf X hT hG hk hK
    (simp only [go_sem, Prod.eta, Option.isSome_none, Option.isSome_some, Int.toNat_zero, Nat.reduceAdd, Nat.reduceMul, Nat.reduceSub, Nat.reduceEqDiff, Nat.reduceLT, Nat.reduceLeDiff, Nat.reduceShiftRight, Nat.reduceMod, Nat.reduceBEq, reduceCtorEq, reduceIte, reduceDIte, Int.reduceNeg, Bool.not_eq_true', Bool.not_eq_false', Bool.or_eq_true, Bool.or_eq_false_iff, Bool.and_eq_true, Bool.and_eq_false_iff, decide_eq_true_eq, decide_eq_false_iff_not, Classical.not_not, not_or, maxLen, con114, con115, hT, hG, hk, hK, Tryz.results114] at hwf ⊢); (try simp (disch := decide +kernel) only [drawn, true_and, and_true])
    (repeat' (with_reducible (first | refine And.intro ?_ ?_ | intro _))) <;> (try (first | with_reducible (first | done | assumption | omega | contradiction) | decide))
    unfold lettersV
    have e : decide (s = ByteArray.empty) = decide (s.size = 0) := by
      rw [decide_eq_decide]
      exact ⟨fun h => by rw [h]; rfl, fun h => ByteArray.ext (Array.eq_empty_of_size_eq_zero h)⟩
    show (decide (s = ByteArray.empty) || _) = _
    rw [e]
    rcases hs : s.size with _ | _ | n
    · rfl
    · simp [allFrom]
    · rw [decide_eq_false (by omega), decide_eq_false (by omega), decide_eq_false (p := ((n + 1 + 1 : Nat) : Int) ≤ 1) (by omega)]
      simp)
def con101 : Con := { ps := [.d false .str], rs := [.d false .bool], pre := fun _ => True, out := fun x => (lettersV x.1 3 3, ()), nw := id }
theorem c101 : CtrOk Tryz.prog 101 con101.ctr :=
  con_sound (G := ⟨[(115, con115.ctr)], [], []⟩) tab_ok (EnvOk.cons c115 has115 EnvOk.nil) rfl Tryz.func101 rfl con101 5 (by kernel_rfl) (by decide) (by decide) rfl (by decide) rfl (by
    rintro ⟨(s : ByteArray), _⟩ hpre hwf X hT hG hk hK
    (simp only [go_sem, Prod.eta, Option.isSome_none, Option.isSome_some, Int.toNat_zero, Nat.reduceAdd, Nat.reduceMul, Nat.reduceSub, Nat.reduceEqDiff, Nat.reduceLT, Nat.reduceLeDiff, Nat.reduceShiftRight, Nat.reduceMod, Nat.reduceBEq, reduceCtorEq, reduceIte, reduceDIte, Int.reduceNeg, Bool.not_eq_true', Bool.not_eq_false', Bool.or_eq_true, Bool.or_eq_false_iff, Bool.and_eq_true, Bool.and_eq_false_iff, decide_eq_true_eq, decide_eq_false_iff_not, Classical.not_not, not_or, maxLen, con101, con115, hT, hG, hk, hK, Tryz.results101] at hwf ⊢); (try simp (disch := decide +kernel) only [drawn, true_and, and_true])
    (repeat' (with_reducible (first | refine And.intro ?_ ?_ | intro _))) <;> (try (first | with_reducible (first | done | assumption | omega | contradiction) | decide))
    unfold lettersV
    by_cases hs : s.size = 3
    · rw [hs]; simp [allFrom, Bool.and_assoc]
    · rw [decide_eq_false (by omega)]
      by_cases h : (s.size : Int) ≥ 3
      · rw [decide_eq_false (p := (s.size : Int) ≤ 3) (by omega)]; simp
      · rw [decide_eq_false h]; simp)
def con100 : Con := { ps := [.d true (.pair .str (.pair (.int .i64) (.pair .str (.int .i64))))], rs := [.d false .bool], pre := fun _ => True, out := fun x => (fltOk x.1, ()), nw := id }
theorem c100 : CtrOk Tryz.prog 100 con100.ctr :=
  con_sound (G := ⟨[(113, con113.ctr), (114, con114.ctr)], [], []⟩) tab_ok (EnvOk.cons c113 has113 (EnvOk.cons c114 has114 EnvOk.nil)) rfl Tryz.func100 rfl con100 7 (by kernel_rfl) (by decide) (by decide) rfl (by decide) rfl (by
    rintro ⟨⟨a1, (a2 : Int), a3, (a4 : Int)⟩, _⟩ hpre hwf X hT hG hk hK
    (simp only [go_sem, Prod.eta, Option.isSome_none, Option.isSome_some, Int.toNat_zero, Nat.reduceAdd, Nat.reduceMul, Nat.reduceSub, Nat.reduceEqDiff, Nat.reduceLT, Nat.reduceLeDiff, Nat.reduceShiftRight, Nat.reduceMod, Nat.reduceBEq, reduceCtorEq, reduceIte, reduceDIte, Int.reduceNeg, Bool.not_eq_true', Bool.not_eq_false', Bool.or_eq_true, Bool.or_eq_false_iff, Bool.and_eq_true, Bool.and_eq_false_iff, decide_eq_true_eq, decide_eq_false_iff_not, Classical.not_not, not_or, maxLen, con100, con113, con114, hT, hG, hk, hK, Tryz.results100] at hwf ⊢); (try simp (disch := decide +kernel) only [drawn, true_and, and_true])
    (repeat' (with_reducible (first | refine And.intro ?_ ?_ | intro _))) <;> (try (first | with_reducible (first | done | assumption | omega | contradiction) | decide))
    rfl)
def con74 : Con := { ps := [.d true (.pair (.pair .str (.pair (.int .i64) (.pair .str (.int .i64)))) (.pair .str (.pair (.int .i64) (.pair (.int .i64) (.pair (.int .i64) (.pair (.int .i64) (.int .i64)))))))], rs := [.d false .bool], pre := fun _ => True, out := fun x => (validV x.1, ()), nw := id }
theorem c74 : CtrOk Tryz.prog 74 con74.ctr :=
  con_sound (G := ⟨[(100, con100.ctr), (101, con101.ctr)], [], []⟩) tab_ok (EnvOk.cons c100 has100 (EnvOk.cons c101 has101 EnvOk.nil)) rfl Tryz.func74 rfl con74 7 (by kernel_rfl) (by decide) (by decide) rfl (by decide) rfl (by
    rintro ⟨(a : Dep), _⟩ hpre hwf X hT hG hk hK
    obtain ⟨a0, a1, (a2 : Int), (a3 : Int), (a4 : Int), (a5 : Int), (a6 : Int)⟩ := a
    (simp only [go_sem, Prod.eta, Option.isSome_none, Option.isSome_some, Int.toNat_zero, Nat.reduceAdd, Nat.reduceMul, Nat.reduceSub, Nat.reduceEqDiff, Nat.reduceLT, Nat.reduceLeDiff, Nat.reduceShiftRight, Nat.reduceMod, Nat.reduceBEq, reduceCtorEq, reduceIte, reduceDIte, Int.reduceNeg, Bool.not_eq_true', Bool.not_eq_false', Bool.or_eq_true, Bool.or_eq_false_iff, Bool.and_eq_true, Bool.and_eq_false_iff, decide_eq_true_eq, decide_eq_false_iff_not, Classical.not_not, not_or, maxLen, con74, con100, con101, hT, hG, hk, hK, Tryz.results74] at hwf ⊢); (try simp (disch := decide +kernel) only [drawn, true_and, and_true])
    (repeat' (with_reducible (first | refine And.intro ?_ ?_ | intro _))) <;> (try (first | with_reducible (first | done | assumption | omega | contradiction) | decide))
    unfold validV inV
    dsimp only
    generalize fltOk a0 = b3
    generalize lettersV a1 3 3 = b4
    rw [Bool.eq_iff_iff]
    simp only [Bool.and_eq_true, decide_eq_true_eq]
    constructor
    · rintro ⟨⟨⟨⟨⟨⟨⟨⟨⟨h1, h2⟩, h3⟩, h4⟩, h5⟩, h6⟩, h7⟩, h8⟩, h9⟩, h10⟩
      refine ⟨⟨⟨⟨⟨⟨⟨⟨h1, h2⟩, ?_⟩, ?_⟩, ?_⟩, ?_⟩, ?_⟩, ?_⟩, ?_⟩ <;> omega
    · rintro ⟨⟨⟨⟨⟨⟨⟨⟨h1, h2⟩, h3⟩, h4⟩, h5⟩, h6⟩, h7⟩, h8⟩, h9⟩
      refine ⟨⟨⟨⟨⟨⟨⟨⟨⟨h1, h2⟩, ?_⟩, ?_⟩, ?_⟩, ?_⟩, ?_⟩, ?_⟩, ?_⟩, ?_⟩ <;> omega)
end Go.Proofs.YtdmgmdppejopcaaGreat
