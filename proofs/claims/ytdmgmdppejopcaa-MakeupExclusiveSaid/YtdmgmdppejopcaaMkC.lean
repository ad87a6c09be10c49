/- The contracts of the functions that the statements about the makeup reach: what is valid. -/
import Derived.Test.YtdmgmdppejopcaaMkB
set_option linter.unusedSimpArgs false
set_option linter.unusedVariables false
set_option maxRecDepth 100000
set_option maxHeartbeats 4000000
namespace Go.Proofs.Ytdmgmdppejopcaa
open Go.Ev

/-- All bytes from a place on. -/
def allFrom (p : Int → Bool) (s : ByteArray) : Nat → Nat → Bool
  | _, 0 => true
  | i, n + 1 => p (byteAt s i) && allFrom p s (i + 1) n
def con103 : Con := { ps := [.d false .str, .cl 101 []], rs := [.d false .bool], pre := fun _ => True, out := fun x => (allFrom letterV x.1 0 (ByteArray.size x.1), ()), nw := id }
theorem c103 : CtrOk Try.prog 103 con103.ctr :=
  con_sound (G := ⟨[(101, con101.ctr)], [], []⟩) tab_ok (EnvOk.cons c101 has101 EnvOk.nil) rfl Try.func103 rfl con103 66483 (by kernel_rfl) (by decide) (by decide) rfl (by decide) rfl (by
    rintro ⟨(s : ByteArray), _⟩ hpre hwf X hT hG hk hK
    (simp only [go_sem, Prod.eta, Int.toNat_zero, Nat.reduceAdd, Nat.reduceMul, Nat.reduceSub, Nat.reduceEqDiff, Nat.reduceLT, Nat.reduceLeDiff, Nat.reduceShiftRight, Nat.reduceMod, Nat.reduceBEq, reduceCtorEq, reduceIte, reduceDIte, Int.reduceNeg, Bool.not_eq_true', Bool.not_eq_false', Bool.or_eq_true, Bool.or_eq_false_iff, Bool.and_eq_true, Bool.and_eq_false_iff, decide_eq_true_eq, decide_eq_false_iff_not, Classical.not_not, not_or, maxLen, con103, con101, hT, hG, hk, hK, Try.results103] at hwf ⊢); (try simp (disch := decide +kernel) only [drawn, true_and, and_true])
    intro hl
    refine evk_loop ⟨{ i : Nat // i ≤ s.size ∧ allFrom letterV s 0 s.size = allFrom letterV s i (s.size - i) }, 1000, fun i => [(0, .one (.str s)), (1, .one (.fn 101 [])), (7, .one (.int .i64 s.size)), (8, .one (.int .i64 i.1))], fun _ => [], fun i => s.size - i.1⟩ ⟨0, by simp, by simp⟩ ?_ ?_
    · simp only [go_sem, Prod.eta, Int.toNat_zero, Nat.reduceAdd, Nat.reduceMul, Nat.reduceSub, Nat.reduceEqDiff, Nat.reduceLT, Nat.reduceLeDiff, Nat.reduceShiftRight, Nat.reduceMod, Nat.reduceBEq, reduceCtorEq, reduceIte, reduceDIte, Int.reduceNeg]
      rfl
    · rintro ⟨i, (hi : i ≤ s.size), (he : allFrom letterV s 0 s.size = allFrom letterV s i (s.size - i))⟩
      (simp only [go_sem, Prod.eta, Int.toNat_zero, Nat.reduceAdd, Nat.reduceMul, Nat.reduceSub, Nat.reduceEqDiff, Nat.reduceLT, Nat.reduceLeDiff, Nat.reduceShiftRight, Nat.reduceMod, Nat.reduceBEq, reduceCtorEq, reduceIte, reduceDIte, Int.reduceNeg, Bool.not_eq_true', Bool.not_eq_false', Bool.or_eq_true, Bool.or_eq_false_iff, Bool.and_eq_true, Bool.and_eq_false_iff, decide_eq_true_eq, decide_eq_false_iff_not, Classical.not_not, not_or, maxLen, con103, con101, hT, hG, hk, hK, Try.results103]); (try simp (disch := decide +kernel) only [drawn, true_and, and_true])
      refine ⟨fun hlt => ?_, fun hge => ?_⟩
      · have hi' : i < s.size := by omega
        have hst : allFrom letterV s 0 s.size = (letterV (byteAt s i) && allFrom letterV s (i + 1) (s.size - (i + 1))) := by
          rw [he, show s.size - i = (s.size - (i + 1)) + 1 by omega, allFrom]
        (repeat' (with_reducible (first | refine And.intro ?_ ?_ | intro _))) <;> (try (first | with_reducible (first | done | assumption | omega | contradiction) | decide))
        · rename_i h
          rw [hst, h]; rfl
        · rename_i h
          refine fin_lp ⟨i + 1, by omega, ?_⟩ ?_ ?_
          · show allFrom letterV s 0 s.size = allFrom letterV s (i + 1) (s.size - (i + 1))
            rw [hst, h]; rfl
          · simp only [go_sem, Prod.eta, Int.toNat_zero, Nat.reduceAdd, Nat.reduceMul, Nat.reduceSub, Nat.reduceEqDiff, Nat.reduceLT, Nat.reduceLeDiff, Nat.reduceShiftRight, Nat.reduceMod, Nat.reduceBEq, reduceCtorEq, reduceIte, reduceDIte, Int.reduceNeg]
            rfl
          · show s.size - (i + 1) < s.size - i
            omega
      · rw [he, show s.size - i = 0 by omega]
        rfl)
def lettersV (s : ByteArray) (a b : Int) : Bool := decide ((s.size : Int) ≥ a) && decide ((s.size : Int) ≤ b) && allFrom letterV s 0 s.size
def con96 : Con := { ps := [.d false .str, .d false (.int .i64), .d false (.int .i64)], rs := [.d false .bool], pre := fun _ => True, out := fun x => (lettersV x.1 x.2.1 x.2.2.1, ()), nw := id }
theorem c96 : CtrOk Try.prog 96 con96.ctr :=
  con_sound (G := ⟨[(103, con103.ctr)], [], []⟩) tab_ok (EnvOk.cons c103 has103 EnvOk.nil) rfl Try.func96 rfl con96 71 (by kernel_rfl) (by decide) (by decide) rfl (by decide) rfl (by
    rintro ⟨(s : ByteArray), (a : Int), (b : Int), _⟩ hpre hwf X hT hG hk hK
    (simp only [go_sem, Prod.eta, Int.toNat_zero, Nat.reduceAdd, Nat.reduceMul, Nat.reduceSub, Nat.reduceEqDiff, Nat.reduceLT, Nat.reduceLeDiff, Nat.reduceShiftRight, Nat.reduceMod, Nat.reduceBEq, reduceCtorEq, reduceIte, reduceDIte, Int.reduceNeg, Bool.not_eq_true', Bool.not_eq_false', Bool.or_eq_true, Bool.or_eq_false_iff, Bool.and_eq_true, Bool.and_eq_false_iff, decide_eq_true_eq, decide_eq_false_iff_not, Classical.not_not, not_or, maxLen, con96, con103, hT, hG, hk, hK, Try.results96] at hwf ⊢); (try simp (disch := decide +kernel) only [drawn, true_and, and_true])
    (repeat' (with_reducible (first | refine And.intro ?_ ?_ | intro _))) <;> (try (first | with_reducible (first | done | assumption | omega | contradiction) | decide))
    rfl)
def con82 : Con := { ps := [.d false .str], rs := [.d false .bool], pre := fun _ => True, out := fun x => (lettersV x.1 3 3, ()), nw := id }
theorem c82 : CtrOk Try.prog 82 con82.ctr :=
  con_sound (G := ⟨[(96, con96.ctr)], [], []⟩) tab_ok (EnvOk.cons c96 has96 EnvOk.nil) rfl Try.func82 rfl con82 5 (by kernel_rfl) (by decide) (by decide) rfl (by decide) rfl (by
    rintro ⟨(s : ByteArray), _⟩ hpre hwf X hT hG hk hK
    (simp only [go_sem, Prod.eta, Int.toNat_zero, Nat.reduceAdd, Nat.reduceMul, Nat.reduceSub, Nat.reduceEqDiff, Nat.reduceLT, Nat.reduceLeDiff, Nat.reduceShiftRight, Nat.reduceMod, Nat.reduceBEq, reduceCtorEq, reduceIte, reduceDIte, Int.reduceNeg, Bool.not_eq_true', Bool.not_eq_false', Bool.or_eq_true, Bool.or_eq_false_iff, Bool.and_eq_true, Bool.and_eq_false_iff, decide_eq_true_eq, decide_eq_false_iff_not, Classical.not_not, not_or, maxLen, con82, con96, hT, hG, hk, hK, Try.results82] at hwf ⊢); (try simp (disch := decide +kernel) only [drawn, true_and, and_true]))
def carF (s : ByteArray) : Nat → Nat → Nat → Bool
  | _, 0, k => decide (0 < k)
  | i, n + 1, k => if letterV (byteAt s i) then carF s (i + 1) n (k + 1) else if digitV (byteAt s i) then carF s (i + 1) n k else false
def carrierV (s : ByteArray) : Bool := if (s.size : Int) ≠ 2 then false else carF s 0 s.size 0
def con95 : Con := { ps := [.d false .str], rs := [.d false .bool], pre := fun _ => True, out := fun x => (carrierV x.1, ()), nw := id }
theorem c95 : CtrOk Try.prog 95 con95.ctr :=
  con_sound (G := ⟨[(101, con101.ctr), (102, con102.ctr)], [], []⟩) tab_ok (EnvOk.cons c101 has101 (EnvOk.cons c102 has102 EnvOk.nil)) rfl Try.func95 rfl con95 1060509 (by kernel_rfl) (by decide) (by decide) rfl (by decide) rfl (by
    rintro ⟨(s : ByteArray), _⟩ hpre hwf X hT hG hk hK
    (simp only [go_sem, Prod.eta, Int.toNat_zero, Nat.reduceAdd, Nat.reduceMul, Nat.reduceSub, Nat.reduceEqDiff, Nat.reduceLT, Nat.reduceLeDiff, Nat.reduceShiftRight, Nat.reduceMod, Nat.reduceBEq, reduceCtorEq, reduceIte, reduceDIte, Int.reduceNeg, Bool.not_eq_true', Bool.not_eq_false', Bool.or_eq_true, Bool.or_eq_false_iff, Bool.and_eq_true, Bool.and_eq_false_iff, decide_eq_true_eq, decide_eq_false_iff_not, Classical.not_not, not_or, maxLen, con95, con101, con102, hT, hG, hk, hK, Try.results95] at hwf ⊢); (try simp (disch := decide +kernel) only [drawn, true_and, and_true])
    (repeat' (with_reducible (first | refine And.intro ?_ ?_ | intro _))) <;> (try (first | with_reducible (first | done | assumption | omega | contradiction) | decide))
    · rename_i h
      unfold carrierV; rw [if_pos h]
    · rename_i h2 hl
      have e0 : carrierV s = carF s 0 s.size 0 := by unfold carrierV; rw [if_neg (by omega)]
      refine evk_loop ⟨{ q : Nat × Nat // q.1 ≤ s.size ∧ q.2 ≤ q.1 ∧ carF s 0 s.size 0 = carF s q.1 (s.size - q.1) q.2 }, 1000, fun q => [(0, .one (.str s)), (3, .one (.int .i64 q.1.2)), (9, .one (.int .i64 s.size)), (10, .one (.int .i64 q.1.1))], fun _ => [], fun q => s.size - q.1.1⟩ ⟨(0, 0), by simp, by simp, by simp⟩ ?_ ?_
      · simp only [go_sem, Prod.eta, Int.toNat_zero, Nat.reduceAdd, Nat.reduceMul, Nat.reduceSub, Nat.reduceEqDiff, Nat.reduceLT, Nat.reduceLeDiff, Nat.reduceShiftRight, Nat.reduceMod, Nat.reduceBEq, reduceCtorEq, reduceIte, reduceDIte, Int.reduceNeg]
        rfl
      · rintro ⟨⟨i, k⟩, (hi : i ≤ s.size), (hki : k ≤ i), (he : carF s 0 s.size 0 = carF s i (s.size - i) k)⟩
        (simp only [go_sem, Prod.eta, Int.toNat_zero, Nat.reduceAdd, Nat.reduceMul, Nat.reduceSub, Nat.reduceEqDiff, Nat.reduceLT, Nat.reduceLeDiff, Nat.reduceShiftRight, Nat.reduceMod, Nat.reduceBEq, reduceCtorEq, reduceIte, reduceDIte, Int.reduceNeg, Bool.not_eq_true', Bool.not_eq_false', Bool.or_eq_true, Bool.or_eq_false_iff, Bool.and_eq_true, Bool.and_eq_false_iff, decide_eq_true_eq, decide_eq_false_iff_not, Classical.not_not, not_or, maxLen, con95, con101, con102, hT, hG, hk, hK, Try.results95]); (try simp (disch := decide +kernel) only [drawn, true_and, and_true])
        refine ⟨fun hlt => ?_, fun hge => ?_⟩
        · have hi' : i < s.size := by omega
          have hst : carF s 0 s.size 0 = if letterV (byteAt s i) then carF s (i + 1) (s.size - (i + 1)) (k + 1) else if digitV (byteAt s i) then carF s (i + 1) (s.size - (i + 1)) k else false := by
            rw [he, show s.size - i = (s.size - (i + 1)) + 1 by omega, carF]
          (repeat' (with_reducible (first | refine And.intro ?_ ?_ | intro _))) <;> (try (first | with_reducible (first | done | assumption | omega | contradiction) | decide))
          · rename_i h
            refine fin_lp ⟨(i + 1, k + 1), by omega, by omega, by dsimp only; rw [hst, if_pos h]⟩ (by simp only [go_sem, Prod.eta, Int.toNat_zero, Nat.reduceAdd, Nat.reduceMul, Nat.reduceSub, Nat.reduceEqDiff, Nat.reduceLT, Nat.reduceLeDiff, Nat.reduceShiftRight, Nat.reduceMod, Nat.reduceBEq, reduceCtorEq, reduceIte, reduceDIte, Int.reduceNeg]; first | rfl | with_reducible (first | assumption | omega | done)) (by dsimp only; omega)
          · rename_i h1 h
            rw [e0, hst, if_neg (by rw [h1]; simp), if_neg (by rw [h]; simp)]
          · rename_i h1 h
            refine fin_lp ⟨(i + 1, k), by omega, by omega, by dsimp only; rw [hst, if_neg (by rw [h1]; simp), if_pos h]⟩ (by simp only [go_sem, Prod.eta, Int.toNat_zero, Nat.reduceAdd, Nat.reduceMul, Nat.reduceSub, Nat.reduceEqDiff, Nat.reduceLT, Nat.reduceLeDiff, Nat.reduceShiftRight, Nat.reduceMod, Nat.reduceBEq, reduceCtorEq, reduceIte, reduceDIte, Int.reduceNeg]; first | rfl | with_reducible (first | assumption | omega | done)) (by dsimp only; omega)
        · rw [e0, he, show s.size - i = 0 by omega]
          rw [carF]
          rw [decide_eq_decide]; omega)
def fltOk (f : Flt) : Bool := carrierV f.1 && decide (f.2.1 ≥ 1) && decide (f.2.1 ≤ 9999) && lettersV f.2.2.1 0 1 && decide (f.2.2.2 ≥ 0) && decide (f.2.2.2 ≤ 99)
def con81 : Con := { ps := [.d true (.pair .str (.pair (.int .i64) (.pair .str (.int .i64))))], rs := [.d false .bool], pre := fun _ => True, out := fun x => (fltOk x.1, ()), nw := id }
theorem c81 : CtrOk Try.prog 81 con81.ctr :=
  con_sound (G := ⟨[(95, con95.ctr), (96, con96.ctr)], [], []⟩) tab_ok (EnvOk.cons c95 has95 (EnvOk.cons c96 has96 EnvOk.nil)) rfl Try.func81 rfl con81 7 (by kernel_rfl) (by decide) (by decide) rfl (by decide) rfl (by
    rintro ⟨⟨a1, (a2 : Int), a3, (a4 : Int)⟩, _⟩ hpre hwf X hT hG hk hK
    (simp only [go_sem, Prod.eta, Int.toNat_zero, Nat.reduceAdd, Nat.reduceMul, Nat.reduceSub, Nat.reduceEqDiff, Nat.reduceLT, Nat.reduceLeDiff, Nat.reduceShiftRight, Nat.reduceMod, Nat.reduceBEq, reduceCtorEq, reduceIte, reduceDIte, Int.reduceNeg, Bool.not_eq_true', Bool.not_eq_false', Bool.or_eq_true, Bool.or_eq_false_iff, Bool.and_eq_true, Bool.and_eq_false_iff, decide_eq_true_eq, decide_eq_false_iff_not, Classical.not_not, not_or, maxLen, con81, con95, con96, hT, hG, hk, hK, Try.results81] at hwf ⊢); (try simp (disch := decide +kernel) only [drawn, true_and, and_true])
    (repeat' (with_reducible (first | refine And.intro ?_ ?_ | intro _))) <;> (try (first | with_reducible (first | done | assumption | omega | contradiction) | decide))
    rfl)
def validV (d : Dep) : Bool := fltOk d.1 && lettersV d.2.1 3 3 && inV d.2.2.1 0 1048576 && inV d.2.2.2.1 0 1048576 && inV d.2.2.2.2.1 0 1048576 && decide (d.2.2.1 < d.2.2.2.1) && decide (d.2.2.2.1 ≤ d.2.2.2.2.1) && inV d.2.2.2.2.2.1 0 99 && inV d.2.2.2.2.2.2 0 2
def con67 : Con := { ps := [.d true (.pair (.pair .str (.pair (.int .i64) (.pair .str (.int .i64)))) (.pair .str (.pair (.int .i64) (.pair (.int .i64) (.pair (.int .i64) (.pair (.int .i64) (.int .i64)))))))], rs := [.d false .bool], pre := fun _ => True, out := fun x => (validV x.1, ()), nw := id }
theorem c67 : CtrOk Try.prog 67 con67.ctr :=
  con_sound (G := ⟨[(81, con81.ctr), (82, con82.ctr), (83, con83.ctr)], [], []⟩) tab_ok (EnvOk.cons c81 has81 (EnvOk.cons c82 has82 (EnvOk.cons c83 has83 EnvOk.nil))) rfl Try.func67 rfl con67 4398046515207 (by kernel_rfl) (by decide) (by decide) rfl (by decide) rfl (by
    rintro ⟨(a : Dep), _⟩ hpre hwf X hT hG hk hK
    obtain ⟨a0, a1, (a2 : Int), (a3 : Int), (a4 : Int), (a5 : Int), (a6 : Int)⟩ := a
    (simp only [go_sem, Prod.eta, Int.toNat_zero, Nat.reduceAdd, Nat.reduceMul, Nat.reduceSub, Nat.reduceEqDiff, Nat.reduceLT, Nat.reduceLeDiff, Nat.reduceShiftRight, Nat.reduceMod, Nat.reduceBEq, reduceCtorEq, reduceIte, reduceDIte, Int.reduceNeg, Bool.not_eq_true', Bool.not_eq_false', Bool.or_eq_true, Bool.or_eq_false_iff, Bool.and_eq_true, Bool.and_eq_false_iff, decide_eq_true_eq, decide_eq_false_iff_not, Classical.not_not, not_or, maxLen, con67, con81, con82, con83, hT, hG, hk, hK, Try.results67] at hwf ⊢); (try simp (disch := decide +kernel) only [drawn, true_and, and_true])
    have f1 : ∀ x y : Int, (x ≥ y) ↔ decide (x < y) = false := fun x y => by rw [decide_eq_false_iff_not]; omega
    have f2 : ∀ x y : Int, (x > y) ↔ decide (x ≤ y) = false := fun x y => by rw [decide_eq_false_iff_not]; omega
    unfold validV
    dsimp only
    rw [f1, f2]
    generalize decide (a2 < a3) = b1
    generalize decide (a3 ≤ a4) = b2
    generalize fltOk a0 = b3
    generalize lettersV a1 3 3 = b4
    generalize inV a2 0 1048576 = b5
    generalize inV a3 0 1048576 = b6
    generalize inV a4 0 1048576 = b7
    cases b3 <;> cases b4 <;> cases b5 <;> cases b6 <;> cases b7 <;> cases b1 <;> cases b2 <;> simp)
/-- The schedule, one departure after another. -/
def valF : Option Flt → List Dep → Int
  | _, [] => 0
  | p, d :: l => if validV d = false then 1 else match p with
    | none => valF (some d.1) l
    | some f => if fltC f d.1 = 0 then 5 else if fltC f d.1 = 1 then 9 else valF (some d.1) l
def validateV (l : List Dep) : Int := if (l.length : Int) > 24 then 2 else valF none l
def prevF (l : List Dep) (i : Nat) : Option Flt := if h : 0 < i ∧ i - 1 < l.length then some (l[i - 1]'h.2).1 else none
def con46 : Con := { ps := [.d false (.sl (.pair (.pair .str (.pair (.int .i64) (.pair .str (.int .i64)))) (.pair .str (.pair (.int .i64) (.pair (.int .i64) (.pair (.int .i64) (.pair (.int .i64) (.int .i64))))))))], rs := [.d false (.int .i64)], pre := fun _ => True, out := fun x => (validateV x.1, ()), nw := id }
theorem c46 : CtrOk Try.prog 46 con46.ctr :=
  con_sound (G := ⟨[(53, con53.ctr), (67, con67.ctr)], [], []⟩) tab_ok (EnvOk.cons c53 has53 (EnvOk.cons c67 has67 EnvOk.nil)) rfl Try.func46 rfl con46 2953449373 (by kernel_rfl) (by decide) (by decide) rfl (by decide) rfl (by
    rintro ⟨(l : List Dep), _⟩ hpre hwf X hT hG hk hK
    (simp only [go_sem, Prod.eta, Int.toNat_zero, Nat.reduceAdd, Nat.reduceMul, Nat.reduceSub, Nat.reduceEqDiff, Nat.reduceLT, Nat.reduceLeDiff, Nat.reduceShiftRight, Nat.reduceMod, Nat.reduceBEq, reduceCtorEq, reduceIte, reduceDIte, Int.reduceNeg, Bool.not_eq_true', Bool.not_eq_false', Bool.or_eq_true, Bool.or_eq_false_iff, Bool.and_eq_true, Bool.and_eq_false_iff, decide_eq_true_eq, decide_eq_false_iff_not, Classical.not_not, not_or, maxLen, con46, con53, con67, hT, hG, hk, hK, Try.results46] at hwf ⊢); (try simp (disch := decide +kernel) only [drawn, true_and, and_true])
    (repeat' (with_reducible (first | refine And.intro ?_ ?_ | intro _))) <;> (try (first | with_reducible (first | done | assumption | omega | contradiction) | decide))
    · rename_i h
      unfold validateV; rw [if_pos h]
    · have e0 : validateV l = valF none l := by unfold validateV; rw [if_neg (by omega)]
      refine evk_loop ⟨{ i : Nat // i ≤ l.length ∧ valF none l = valF (prevF l i) (l.drop i) }, 1000, fun i => [(0, .one (.sl (.pair (.pair .str (.pair (.int .i64) (.pair .str (.int .i64)))) (.pair .str (.pair (.int .i64) (.pair (.int .i64) (.pair (.int .i64) (.pair (.int .i64) (.int .i64))))))) l false)), (8, .one (.sl (.pair (.pair .str (.pair (.int .i64) (.pair .str (.int .i64)))) (.pair .str (.pair (.int .i64) (.pair (.int .i64) (.pair (.int .i64) (.pair (.int .i64) (.int .i64))))))) l false)), (9, .one (.int .i64 l.length)), (10, .one (.int .i64 i.1))], fun _ => [], fun i => l.length - i.1⟩ ⟨0, by simp, by simp [prevF]⟩ ?_ ?_
      · simp only [go_sem, Prod.eta, Int.toNat_zero, Nat.reduceAdd, Nat.reduceMul, Nat.reduceSub, Nat.reduceEqDiff, Nat.reduceLT, Nat.reduceLeDiff, Nat.reduceShiftRight, Nat.reduceMod, Nat.reduceBEq, reduceCtorEq, reduceIte, reduceDIte, Int.reduceNeg]
        rfl
      · rintro ⟨i, (hi : i ≤ l.length), (he : valF none l = valF (prevF l i) (l.drop i))⟩
        (simp only [go_sem, Prod.eta, Int.toNat_zero, Nat.reduceAdd, Nat.reduceMul, Nat.reduceSub, Nat.reduceEqDiff, Nat.reduceLT, Nat.reduceLeDiff, Nat.reduceShiftRight, Nat.reduceMod, Nat.reduceBEq, reduceCtorEq, reduceIte, reduceDIte, Int.reduceNeg, Bool.not_eq_true', Bool.not_eq_false', Bool.or_eq_true, Bool.or_eq_false_iff, Bool.and_eq_true, Bool.and_eq_false_iff, decide_eq_true_eq, decide_eq_false_iff_not, Classical.not_not, not_or, maxLen, con46, con53, con67, hT, hG, hk, hK, Try.results46]); (try simp (disch := decide +kernel) only [drawn, true_and, and_true])
        refine ⟨fun hlt => ?_, fun hge => ?_⟩
        · have hi' : i < l.length := by omega
          have ek : ∀ z, l.getD (i : Int).toNat z = l[i] := fun z => by simp [hi']
          simp only [ek]
          have hp : prevF l (i + 1) = some l[i].1 := by
            unfold prevF
            rw [dif_pos ⟨by omega, by omega⟩]
            rfl
          have hst : valF none l = if validV l[i] = false then 1 else match prevF l i with
              | none => valF (prevF l (i + 1)) (l.drop (i + 1))
              | some f => if fltC f l[i].1 = 0 then 5 else if fltC f l[i].1 = 1 then 9 else valF (prevF l (i + 1)) (l.drop (i + 1)) := by
            rw [he, List.drop_eq_getElem_cons hi', hp]
            generalize prevF l i = q
            cases q <;> rfl
          have hp2 : ∀ z, 0 < i → prevF l i = some (l.getD ((i : Int) - 1).toNat z).1 := fun z h => by
            unfold prevF
            rw [dif_pos ⟨h, by omega⟩]
            have e2 : ((i : Int) - 1).toNat = i - 1 := by omega
            rw [e2]
            simp [show i - 1 < l.length by omega]
          (repeat' (with_reducible (first | refine And.intro ?_ ?_ | intro _))) <;> (try (first | with_reducible (first | done | assumption | omega | contradiction) | decide))
          · rename_i h
            rw [e0, hst, if_pos h]
          · have h1 : validV l[i] = true := by assumption
            have hp0 : prevF l i = none := by unfold prevF; rw [dif_neg (by omega)]
            refine fin_lp ⟨i + 1, by omega, by rw [hst, if_neg (by rw [h1]; simp), hp0]⟩ (by simp only [go_sem, Prod.eta, Int.toNat_zero, Nat.reduceAdd, Nat.reduceMul, Nat.reduceSub, Nat.reduceEqDiff, Nat.reduceLT, Nat.reduceLeDiff, Nat.reduceShiftRight, Nat.reduceMod, Nat.reduceBEq, reduceCtorEq, reduceIte, reduceDIte, Int.reduceNeg]; first | rfl | with_reducible (first | assumption | omega | done)) (by dsimp only; omega)
          · rename_i h
            have h1 : validV l[i] = true := by assumption
            rw [e0, hst, if_neg (by rw [h1]; simp), hp2 _ (by omega)]
            dsimp only
            rw [if_pos h]
          · rename_i h3 h
            have h1 : validV l[i] = true := by assumption
            rw [e0, hst, if_neg (by rw [h1]; simp), hp2 _ (by omega)]
            dsimp only
            rw [if_neg h3, if_pos h]
          · rename_i h3 h
            have h1 : validV l[i] = true := by assumption
            refine fin_lp ⟨i + 1, by omega, by rw [hst, if_neg (by rw [h1]; simp), hp2 _ (by omega)]; dsimp only; rw [if_neg h3, if_neg h]⟩ (by simp only [go_sem, Prod.eta, Int.toNat_zero, Nat.reduceAdd, Nat.reduceMul, Nat.reduceSub, Nat.reduceEqDiff, Nat.reduceLT, Nat.reduceLeDiff, Nat.reduceShiftRight, Nat.reduceMod, Nat.reduceBEq, reduceCtorEq, reduceIte, reduceDIte, Int.reduceNeg]; first | rfl | with_reducible (first | assumption | omega | done)) (by dsimp only; omega)
        · rw [e0, he, List.drop_of_length_le (by omega)]
          rfl)
end Go.Proofs.Ytdmgmdppejopcaa
