/- The contracts of the functions that the statements about the makeup reach: what is valid. -/
import Derived.Test.YtdmgmdppejopcaaGreatMpAToB
set_option linter.unusedSimpArgs false
set_option linter.unusedVariables false
set_option maxRecDepth 100000
set_option maxHeartbeats 4000000
namespace Go.Proofs.YtdmgmdppejopcaaGreat
open Go.Ev

/-- All bytes from a place on. -/
def allFrom (p : Int → Bool) (s : ByteArray) : Nat → Nat → Bool
  | _, 0 => true
  | i, n + 1 => p (byteAt s i) && allFrom p s (i + 1) n
def con118 : Con := { ps := [.d false .str, .cl 116 []], rs := [.d false .bool], pre := fun _ => True, out := fun x => (allFrom letterV x.1 0 (ByteArray.size x.1), ()), nw := id }
theorem c118 : CtrOk Tryz.prog 118 con118.ctr :=
  con_sound (G := ⟨[(116, con116.ctr)], [], []⟩) tab_ok (EnvOk.cons c116 has116 EnvOk.nil) rfl Tryz.func118 rfl con118 66483 (by kernel_rfl) (by decide) (by decide) rfl (by decide) rfl (by
    rintro ⟨(s : ByteArray), _⟩ hpre hwf X hT hG hk hK
    (simp only [go_sem, Prod.eta, Option.isSome_none, Option.isSome_some, Int.toNat_zero, Nat.reduceAdd, Nat.reduceMul, Nat.reduceSub, Nat.reduceEqDiff, Nat.reduceLT, Nat.reduceLeDiff, Nat.reduceShiftRight, Nat.reduceMod, Nat.reduceBEq, reduceCtorEq, reduceIte, reduceDIte, Int.reduceNeg, Bool.not_eq_true', Bool.not_eq_false', Bool.or_eq_true, Bool.or_eq_false_iff, Bool.and_eq_true, Bool.and_eq_false_iff, decide_eq_true_eq, decide_eq_false_iff_not, Classical.not_not, not_or, maxLen, con118, con116, hT, hG, hk, hK, Tryz.results118] at hwf ⊢); (try simp (disch := decide +kernel) only [drawn, true_and, and_true])
    intro hl
    refine evk_loop ⟨{ i : Nat // i ≤ s.size ∧ allFrom letterV s 0 s.size = allFrom letterV s i (s.size - i) }, 1000, fun i => [(0, .one (.str s)), (1, .one (.fn 116 [])), (7, .one (.int .i64 s.size)), (8, .one (.int .i64 i.1))], fun _ => [], fun i => s.size - i.1⟩ ⟨0, by simp, by simp⟩ ?_ ?_
    · simp only [go_sem, Prod.eta, Option.isSome_none, Option.isSome_some, Int.toNat_zero, Nat.reduceAdd, Nat.reduceMul, Nat.reduceSub, Nat.reduceEqDiff, Nat.reduceLT, Nat.reduceLeDiff, Nat.reduceShiftRight, Nat.reduceMod, Nat.reduceBEq, reduceCtorEq, reduceIte, reduceDIte, Int.reduceNeg]
      rfl
    · rintro ⟨i, (hi : i ≤ s.size), (he : allFrom letterV s 0 s.size = allFrom letterV s i (s.size - i))⟩
      (simp only [go_sem, Prod.eta, Option.isSome_none, Option.isSome_some, Int.toNat_zero, Nat.reduceAdd, Nat.reduceMul, Nat.reduceSub, Nat.reduceEqDiff, Nat.reduceLT, Nat.reduceLeDiff, Nat.reduceShiftRight, Nat.reduceMod, Nat.reduceBEq, reduceCtorEq, reduceIte, reduceDIte, Int.reduceNeg, Bool.not_eq_true', Bool.not_eq_false', Bool.or_eq_true, Bool.or_eq_false_iff, Bool.and_eq_true, Bool.and_eq_false_iff, decide_eq_true_eq, decide_eq_false_iff_not, Classical.not_not, not_or, maxLen, con118, con116, hT, hG, hk, hK, Tryz.results118]); (try simp (disch := decide +kernel) only [drawn, true_and, and_true])
      refine ⟨fun hlt => ?_, fun hge => ?_⟩
      · have hi' : i < s.size := by omega
        have hst : allFrom letterV s 0 s.size = (letterV (byteAt s i) && allFrom letterV s (i + 1) (s.size - (i + 1))) := by
          rw [he, show s.size - i = (s.size - (i + 1)) + 1 by omega, allFrom]
        (repeat' (with_reducible (first | refine And.intro ?_ ?_ | intro _))) <;> (try (first | with_reducible (first | done | assumption | omega | contradiction) | decide))
        · rename_i h
          rw [hst, h]; rfl
        · rename_i h
          refine fin_lp ⟨i + 1, by omega, ?_⟩ ?_ ?_
          · show allFrom letterV s 0 s.size = allFrom letterV s (i + 1) (s.size - (i + 1))
            rw [hst, h]; rfl
          · simp only [go_sem, Prod.eta, Option.isSome_none, Option.isSome_some, Int.toNat_zero, Nat.reduceAdd, Nat.reduceMul, Nat.reduceSub, Nat.reduceEqDiff, Nat.reduceLT, Nat.reduceLeDiff, Nat.reduceShiftRight, Nat.reduceMod, Nat.reduceBEq, reduceCtorEq, reduceIte, reduceDIte, Int.reduceNeg]
            rfl
          · show s.size - (i + 1) < s.size - i
            omega
      · rw [he, show s.size - i = 0 by omega]
        rfl)
def lettersV (s : ByteArray) (a b : Int) : Bool := decide ((s.size : Int) ≥ a) && decide ((s.size : Int) ≤ b) && allFrom letterV s 0 s.size
def con103 : Con := { ps := [.d false .str, .d false (.int .i64), .d false (.int .i64)], rs := [.d false .bool], pre := fun _ => True, out := fun x => (lettersV x.1 x.2.1 x.2.2.1, ()), nw := id }
theorem c103 : CtrOk Tryz.prog 103 con103.ctr :=
  con_sound (G := ⟨[(118, con118.ctr)], [], []⟩) tab_ok (EnvOk.cons c118 has118 EnvOk.nil) rfl Tryz.func103 rfl con103 71 (by kernel_rfl) (by decide) (by decide) rfl (by decide) rfl (by
    rintro ⟨(s : ByteArray), (a : Int), (b : Int), _⟩ hpre hwf X hT hG hk hK
    (simp only [go_sem, Prod.eta, Option.isSome_none, Option.isSome_some, Int.toNat_zero, Nat.reduceAdd, Nat.reduceMul, Nat.reduceSub, Nat.reduceEqDiff, Nat.reduceLT, Nat.reduceLeDiff, Nat.reduceShiftRight, Nat.reduceMod, Nat.reduceBEq, reduceCtorEq, reduceIte, reduceDIte, Int.reduceNeg, Bool.not_eq_true', Bool.not_eq_false', Bool.or_eq_true, Bool.or_eq_false_iff, Bool.and_eq_true, Bool.and_eq_false_iff, decide_eq_true_eq, decide_eq_false_iff_not, Classical.not_not, not_or, maxLen, con103, con118, hT, hG, hk, hK, Tryz.results103] at hwf ⊢); (try simp (disch := decide +kernel) only [drawn, true_and, and_true])
    (repeat' (with_reducible (first | refine And.intro ?_ ?_ | intro _))) <;> (try (first | with_reducible (first | done | assumption | omega | contradiction) | decide))
    rfl)
def con76 : Con := { ps := [.d false .str], rs := [.d false .bool], pre := fun _ => True, out := fun x => (lettersV x.1 3 3, ()), nw := id }
theorem c76 : CtrOk Tryz.prog 76 con76.ctr :=
  con_sound (G := ⟨[(103, con103.ctr)], [], []⟩) tab_ok (EnvOk.cons c103 has103 EnvOk.nil) rfl Tryz.func76 rfl con76 5 (by kernel_rfl) (by decide) (by decide) rfl (by decide) rfl (by
    rintro ⟨(s : ByteArray), _⟩ hpre hwf X hT hG hk hK
    (simp only [go_sem, Prod.eta, Option.isSome_none, Option.isSome_some, Int.toNat_zero, Nat.reduceAdd, Nat.reduceMul, Nat.reduceSub, Nat.reduceEqDiff, Nat.reduceLT, Nat.reduceLeDiff, Nat.reduceShiftRight, Nat.reduceMod, Nat.reduceBEq, reduceCtorEq, reduceIte, reduceDIte, Int.reduceNeg, Bool.not_eq_true', Bool.not_eq_false', Bool.or_eq_true, Bool.or_eq_false_iff, Bool.and_eq_true, Bool.and_eq_false_iff, decide_eq_true_eq, decide_eq_false_iff_not, Classical.not_not, not_or, maxLen, con76, con103, hT, hG, hk, hK, Tryz.results76] at hwf ⊢); (try simp (disch := decide +kernel) only [drawn, true_and, and_true]))
def carF (s : ByteArray) : Nat → Nat → Nat → Bool
  | _, 0, k => decide (0 < k)
  | i, n + 1, k => if letterV (byteAt s i) then carF s (i + 1) n (k + 1) else if digitV (byteAt s i) then carF s (i + 1) n k else false
def carrierV (s : ByteArray) : Bool := if (s.size : Int) ≠ 2 then false else carF s 0 s.size 0
def con102 : Con := { ps := [.d false .str], rs := [.d false .bool], pre := fun _ => True, out := fun x => (carrierV x.1, ()), nw := id }
theorem c102 : CtrOk Tryz.prog 102 con102.ctr :=
  con_sound (G := ⟨[(116, con116.ctr), (117, con117.ctr)], [], []⟩) tab_ok (EnvOk.cons c116 has116 (EnvOk.cons c117 has117 EnvOk.nil)) rfl Tryz.func102 rfl con102 1060509 (by kernel_rfl) (by decide) (by decide) rfl (by decide) rfl (by
    rintro ⟨(s : ByteArray), _⟩ hpre hwf X hT hG hk hK
    (simp only [go_sem, Prod.eta, Option.isSome_none, Option.isSome_some, Int.toNat_zero, Nat.reduceAdd, Nat.reduceMul, Nat.reduceSub, Nat.reduceEqDiff, Nat.reduceLT, Nat.reduceLeDiff, Nat.reduceShiftRight, Nat.reduceMod, Nat.reduceBEq, reduceCtorEq, reduceIte, reduceDIte, Int.reduceNeg, Bool.not_eq_true', Bool.not_eq_false', Bool.or_eq_true, Bool.or_eq_false_iff, Bool.and_eq_true, Bool.and_eq_false_iff, decide_eq_true_eq, decide_eq_false_iff_not, Classical.not_not, not_or, maxLen, con102, con116, con117, hT, hG, hk, hK, Tryz.results102] at hwf ⊢); (try simp (disch := decide +kernel) only [drawn, true_and, and_true])
    (repeat' (with_reducible (first | refine And.intro ?_ ?_ | intro _))) <;> (try (first | with_reducible (first | done | assumption | omega | contradiction) | decide))
    · rename_i h
      unfold carrierV; rw [if_pos h]
    · rename_i h2 hl
      have e0 : carrierV s = carF s 0 s.size 0 := by unfold carrierV; rw [if_neg (by omega)]
      refine evk_loop ⟨{ q : Nat × Nat // q.1 ≤ s.size ∧ q.2 ≤ q.1 ∧ carF s 0 s.size 0 = carF s q.1 (s.size - q.1) q.2 }, 1000, fun q => [(0, .one (.str s)), (3, .one (.int .i64 q.1.2)), (9, .one (.int .i64 s.size)), (10, .one (.int .i64 q.1.1))], fun _ => [], fun q => s.size - q.1.1⟩ ⟨(0, 0), by simp, by simp, by simp⟩ ?_ ?_
      · simp only [go_sem, Prod.eta, Option.isSome_none, Option.isSome_some, Int.toNat_zero, Nat.reduceAdd, Nat.reduceMul, Nat.reduceSub, Nat.reduceEqDiff, Nat.reduceLT, Nat.reduceLeDiff, Nat.reduceShiftRight, Nat.reduceMod, Nat.reduceBEq, reduceCtorEq, reduceIte, reduceDIte, Int.reduceNeg]
        rfl
      · rintro ⟨⟨i, k⟩, (hi : i ≤ s.size), (hki : k ≤ i), (he : carF s 0 s.size 0 = carF s i (s.size - i) k)⟩
        (simp only [go_sem, Prod.eta, Option.isSome_none, Option.isSome_some, Int.toNat_zero, Nat.reduceAdd, Nat.reduceMul, Nat.reduceSub, Nat.reduceEqDiff, Nat.reduceLT, Nat.reduceLeDiff, Nat.reduceShiftRight, Nat.reduceMod, Nat.reduceBEq, reduceCtorEq, reduceIte, reduceDIte, Int.reduceNeg, Bool.not_eq_true', Bool.not_eq_false', Bool.or_eq_true, Bool.or_eq_false_iff, Bool.and_eq_true, Bool.and_eq_false_iff, decide_eq_true_eq, decide_eq_false_iff_not, Classical.not_not, not_or, maxLen, con102, con116, con117, hT, hG, hk, hK, Tryz.results102]); (try simp (disch := decide +kernel) only [drawn, true_and, and_true])
        refine ⟨fun hlt => ?_, fun hge => ?_⟩
        · have hi' : i < s.size := by omega
          have hst : carF s 0 s.size 0 = if letterV (byteAt s i) then carF s (i + 1) (s.size - (i + 1)) (k + 1) else if digitV (byteAt s i) then carF s (i + 1) (s.size - (i + 1)) k else false := by
            rw [he, show s.size - i = (s.size - (i + 1)) + 1 by omega, carF]
          (repeat' (with_reducible (first | refine And.intro ?_ ?_ | intro _))) <;> (try (first | with_reducible (first | done | assumption | omega | contradiction) | decide))
          · rename_i h
            refine fin_lp ⟨(i + 1, k + 1), by omega, by omega, by dsimp only; rw [hst, if_pos h]⟩ (by simp only [go_sem, Prod.eta, Option.isSome_none, Option.isSome_some, Int.toNat_zero, Nat.reduceAdd, Nat.reduceMul, Nat.reduceSub, Nat.reduceEqDiff, Nat.reduceLT, Nat.reduceLeDiff, Nat.reduceShiftRight, Nat.reduceMod, Nat.reduceBEq, reduceCtorEq, reduceIte, reduceDIte, Int.reduceNeg]; first | rfl | ((repeat' apply And.intro) <;> first | rfl | assumption | omega)) (by dsimp only; omega)
          · rename_i h1 h
            rw [e0, hst, if_neg (by rw [h1]; simp), if_neg (by rw [h]; simp)]
          · rename_i h1 h
            refine fin_lp ⟨(i + 1, k), by omega, by omega, by dsimp only; rw [hst, if_neg (by rw [h1]; simp), if_pos h]⟩ (by simp only [go_sem, Prod.eta, Option.isSome_none, Option.isSome_some, Int.toNat_zero, Nat.reduceAdd, Nat.reduceMul, Nat.reduceSub, Nat.reduceEqDiff, Nat.reduceLT, Nat.reduceLeDiff, Nat.reduceShiftRight, Nat.reduceMod, Nat.reduceBEq, reduceCtorEq, reduceIte, reduceDIte, Int.reduceNeg]; first | rfl | ((repeat' apply And.intro) <;> first | rfl | assumption | omega)) (by dsimp only; omega)
        · rw [e0, he, show s.size - i = 0 by omega]
          rw [carF]
          rw [decide_eq_decide]; omega)
def fltOk (f : Flt) : Bool := carrierV f.1 && decide (f.2.1 ≥ 1) && decide (f.2.1 ≤ 9999) && lettersV f.2.2.1 0 1 && decide (f.2.2.2 ≥ 0) && decide (f.2.2.2 ≤ 99)
def con75 : Con := { ps := [.d true (.pair .str (.pair (.int .i64) (.pair .str (.int .i64))))], rs := [.d false .bool], pre := fun _ => True, out := fun x => (fltOk x.1, ()), nw := id }
theorem c75 : CtrOk Tryz.prog 75 con75.ctr :=
  con_sound (G := ⟨[(102, con102.ctr), (103, con103.ctr)], [], []⟩) tab_ok (EnvOk.cons c102 has102 (EnvOk.cons c103 has103 EnvOk.nil)) rfl Tryz.func75 rfl con75 7 (by kernel_rfl) (by decide) (by decide) rfl (by decide) rfl (by
    rintro ⟨⟨a1, (a2 : Int), a3, (a4 : Int)⟩, _⟩ hpre hwf X hT hG hk hK
    (simp only [go_sem, Prod.eta, Option.isSome_none, Option.isSome_some, Int.toNat_zero, Nat.reduceAdd, Nat.reduceMul, Nat.reduceSub, Nat.reduceEqDiff, Nat.reduceLT, Nat.reduceLeDiff, Nat.reduceShiftRight, Nat.reduceMod, Nat.reduceBEq, reduceCtorEq, reduceIte, reduceDIte, Int.reduceNeg, Bool.not_eq_true', Bool.not_eq_false', Bool.or_eq_true, Bool.or_eq_false_iff, Bool.and_eq_true, Bool.and_eq_false_iff, decide_eq_true_eq, decide_eq_false_iff_not, Classical.not_not, not_or, maxLen, con75, con102, con103, hT, hG, hk, hK, Tryz.results75] at hwf ⊢); (try simp (disch := decide +kernel) only [drawn, true_and, and_true])
    (repeat' (with_reducible (first | refine And.intro ?_ ?_ | intro _))) <;> (try (first | with_reducible (first | done | assumption | omega | contradiction) | decide))
    rfl)
def validV (d : Dep) : Bool := fltOk d.1 && lettersV d.2.1 3 3 && inV d.2.2.1 0 1048576 && inV d.2.2.2.1 0 1048576 && inV d.2.2.2.2.1 0 1048576 && decide (d.2.2.1 < d.2.2.2.1) && decide (d.2.2.2.1 ≤ d.2.2.2.2.1) && inV d.2.2.2.2.2.1 0 99 && inV d.2.2.2.2.2.2 0 2
def con64 : Con := { ps := [.d true (.pair (.pair .str (.pair (.int .i64) (.pair .str (.int .i64)))) (.pair .str (.pair (.int .i64) (.pair (.int .i64) (.pair (.int .i64) (.pair (.int .i64) (.int .i64)))))))], rs := [.d false .bool], pre := fun _ => True, out := fun x => (validV x.1, ()), nw := id }
theorem c64 : CtrOk Tryz.prog 64 con64.ctr :=
  con_sound (G := ⟨[(75, con75.ctr), (76, con76.ctr), (77, con77.ctr)], [], []⟩) tab_ok (EnvOk.cons c75 has75 (EnvOk.cons c76 has76 (EnvOk.cons c77 has77 EnvOk.nil))) rfl Tryz.func64 rfl con64 4398046515207 (by kernel_rfl) (by decide) (by decide) rfl (by decide) rfl (by
    rintro ⟨(a : Dep), _⟩ hpre hwf X hT hG hk hK
    obtain ⟨a0, a1, (a2 : Int), (a3 : Int), (a4 : Int), (a5 : Int), (a6 : Int)⟩ := a
    (simp only [go_sem, Prod.eta, Option.isSome_none, Option.isSome_some, Int.toNat_zero, Nat.reduceAdd, Nat.reduceMul, Nat.reduceSub, Nat.reduceEqDiff, Nat.reduceLT, Nat.reduceLeDiff, Nat.reduceShiftRight, Nat.reduceMod, Nat.reduceBEq, reduceCtorEq, reduceIte, reduceDIte, Int.reduceNeg, Bool.not_eq_true', Bool.not_eq_false', Bool.or_eq_true, Bool.or_eq_false_iff, Bool.and_eq_true, Bool.and_eq_false_iff, decide_eq_true_eq, decide_eq_false_iff_not, Classical.not_not, not_or, maxLen, con64, con75, con76, con77, hT, hG, hk, hK, Tryz.results64] at hwf ⊢); (try simp (disch := decide +kernel) only [drawn, true_and, and_true])
    have f1 : ∀ x y : Int, (x ≥ y) ↔ decide (x < y) = false := fun x y => by rw [decide_eq_false_iff_not]; omega
    have f2 : ∀ x y : Int, (x > y) ↔ decide (x ≤ y) = false := fun x y => by rw [decide_eq_false_iff_not]; omega
    unfold validV
    dsimp only
    rw [f1, f2]
    generalize decide (a2 < a3) = b1
    generalize decide (a3 ≤ a4) = b2
    generalize fltOk a0 = b3
    generalize lettersV a1 3 3 = b4
    generalize inV a2 0 1048576 = b5
    generalize inV a3 0 1048576 = b6
    generalize inV a4 0 1048576 = b7
    cases b3 <;> cases b4 <;> cases b5 <;> cases b6 <;> cases b7 <;> cases b1 <;> cases b2 <;> simp)
/-- The schedule, one departure after another. -/
def valF : Option Flt → List Dep → Int
  | _, [] => 0
  | p, d :: l => if validV d = false then 1 else match p with
    | none => valF (some d.1) l
    | some f => if fltC f d.1 = 0 then 5 else if fltC f d.1 = 1 then 9 else valF (some d.1) l
def validateV (l : List Dep) : Int := if (l.length : Int) > 24 then 2 else valF none l
def prevF (l : List Dep) (i : Nat) : Option Flt := if h : 0 < i ∧ i - 1 < l.length then some (l[i - 1]'h.2).1 else none
def con51 : Con := { ps := [.d false (.sl (.pair (.pair .str (.pair (.int .i64) (.pair .str (.int .i64)))) (.pair .str (.pair (.int .i64) (.pair (.int .i64) (.pair (.int .i64) (.pair (.int .i64) (.int .i64))))))))], rs := [.d false (.int .i64)], pre := fun _ => True, out := fun x => (validateV x.1, ()), nw := id }
theorem c51 : CtrOk Tryz.prog 51 con51.ctr :=
  con_sound (G := ⟨[(59, con59.ctr), (64, con64.ctr)], [], []⟩) tab_ok (EnvOk.cons c59 has59 (EnvOk.cons c64 has64 EnvOk.nil)) rfl Tryz.func51 rfl con51 2953449373 (by kernel_rfl) (by decide) (by decide) rfl (by decide) rfl (by
    rintro ⟨(l : List Dep), _⟩ hpre hwf X hT hG hk hK
    (simp only [go_sem, Prod.eta, Option.isSome_none, Option.isSome_some, Int.toNat_zero, Nat.reduceAdd, Nat.reduceMul, Nat.reduceSub, Nat.reduceEqDiff, Nat.reduceLT, Nat.reduceLeDiff, Nat.reduceShiftRight, Nat.reduceMod, Nat.reduceBEq, reduceCtorEq, reduceIte, reduceDIte, Int.reduceNeg, Bool.not_eq_true', Bool.not_eq_false', Bool.or_eq_true, Bool.or_eq_false_iff, Bool.and_eq_true, Bool.and_eq_false_iff, decide_eq_true_eq, decide_eq_false_iff_not, Classical.not_not, not_or, maxLen, con51, con59, con64, hT, hG, hk, hK, Tryz.results51] at hwf ⊢); (try simp (disch := decide +kernel) only [drawn, true_and, and_true])
    (repeat' (with_reducible (first | refine And.intro ?_ ?_ | intro _))) <;> (try (first | with_reducible (first | done | assumption | omega | contradiction) | decide))
    · rename_i h
      unfold validateV; rw [if_pos h]
    · have e0 : validateV l = valF none l := by unfold validateV; rw [if_neg (by omega)]
      refine evk_loop ⟨{ i : Nat // i ≤ l.length ∧ valF none l = valF (prevF l i) (l.drop i) }, 1000, fun i => [(0, .one (.sl (.pair (.pair .str (.pair (.int .i64) (.pair .str (.int .i64)))) (.pair .str (.pair (.int .i64) (.pair (.int .i64) (.pair (.int .i64) (.pair (.int .i64) (.int .i64))))))) l false)), (8, .one (.sl (.pair (.pair .str (.pair (.int .i64) (.pair .str (.int .i64)))) (.pair .str (.pair (.int .i64) (.pair (.int .i64) (.pair (.int .i64) (.pair (.int .i64) (.int .i64))))))) l false)), (9, .one (.int .i64 l.length)), (10, .one (.int .i64 i.1))], fun _ => [], fun i => l.length - i.1⟩ ⟨0, by simp, by simp [prevF]⟩ ?_ ?_
      · simp only [go_sem, Prod.eta, Option.isSome_none, Option.isSome_some, Int.toNat_zero, Nat.reduceAdd, Nat.reduceMul, Nat.reduceSub, Nat.reduceEqDiff, Nat.reduceLT, Nat.reduceLeDiff, Nat.reduceShiftRight, Nat.reduceMod, Nat.reduceBEq, reduceCtorEq, reduceIte, reduceDIte, Int.reduceNeg]
        rfl
      · rintro ⟨i, (hi : i ≤ l.length), (he : valF none l = valF (prevF l i) (l.drop i))⟩
        (simp only [go_sem, Prod.eta, Option.isSome_none, Option.isSome_some, Int.toNat_zero, Nat.reduceAdd, Nat.reduceMul, Nat.reduceSub, Nat.reduceEqDiff, Nat.reduceLT, Nat.reduceLeDiff, Nat.reduceShiftRight, Nat.reduceMod, Nat.reduceBEq, reduceCtorEq, reduceIte, reduceDIte, Int.reduceNeg, Bool.not_eq_true', Bool.not_eq_false', Bool.or_eq_true, Bool.or_eq_false_iff, Bool.and_eq_true, Bool.and_eq_false_iff, decide_eq_true_eq, decide_eq_false_iff_not, Classical.not_not, not_or, maxLen, con51, con59, con64, hT, hG, hk, hK, Tryz.results51]); (try simp (disch := decide +kernel) only [drawn, true_and, and_true])
        refine ⟨fun hlt => ?_, fun hge => ?_⟩
        · have hi' : i < l.length := by omega
          have ek : ∀ z, l.getD (i : Int).toNat z = l[i] := fun z => by simp [hi']
          simp only [ek]
          have hp : prevF l (i + 1) = some l[i].1 := by
            unfold prevF
            rw [dif_pos ⟨by omega, by omega⟩]
            rfl
          have hst : valF none l = if validV l[i] = false then 1 else match prevF l i with
              | none => valF (prevF l (i + 1)) (l.drop (i + 1))
              | some f => if fltC f l[i].1 = 0 then 5 else if fltC f l[i].1 = 1 then 9 else valF (prevF l (i + 1)) (l.drop (i + 1)) := by
            rw [he, List.drop_eq_getElem_cons hi', hp]
            generalize prevF l i = q
            cases q <;> rfl
          have hp2 : ∀ z, 0 < i → prevF l i = some (l.getD ((i : Int) - 1).toNat z).1 := fun z h => by
            unfold prevF
            rw [dif_pos ⟨h, by omega⟩]
            have e2 : ((i : Int) - 1).toNat = i - 1 := by omega
            rw [e2]
            simp [show i - 1 < l.length by omega]
          (repeat' (with_reducible (first | refine And.intro ?_ ?_ | intro _))) <;> (try (first | with_reducible (first | done | assumption | omega | contradiction) | decide))
          · rename_i h
            rw [e0, hst, if_pos h]
          · have h1 : validV l[i] = true := by assumption
            have hp0 : prevF l i = none := by unfold prevF; rw [dif_neg (by omega)]
            refine fin_lp ⟨i + 1, by omega, by rw [hst, if_neg (by rw [h1]; simp), hp0]⟩ (by simp only [go_sem, Prod.eta, Option.isSome_none, Option.isSome_some, Int.toNat_zero, Nat.reduceAdd, Nat.reduceMul, Nat.reduceSub, Nat.reduceEqDiff, Nat.reduceLT, Nat.reduceLeDiff, Nat.reduceShiftRight, Nat.reduceMod, Nat.reduceBEq, reduceCtorEq, reduceIte, reduceDIte, Int.reduceNeg]; first | rfl | ((repeat' apply And.intro) <;> first | rfl | assumption | omega)) (by dsimp only; omega)
          · rename_i h
            have h1 : validV l[i] = true := by assumption
            rw [e0, hst, if_neg (by rw [h1]; simp), hp2 _ (by omega)]
            dsimp only
            rw [if_pos h]
          · rename_i h3 h
            have h1 : validV l[i] = true := by assumption
            rw [e0, hst, if_neg (by rw [h1]; simp), hp2 _ (by omega)]
            dsimp only
            rw [if_neg h3, if_pos h]
          · rename_i h3 h
            have h1 : validV l[i] = true := by assumption
            refine fin_lp ⟨i + 1, by omega, by rw [hst, if_neg (by rw [h1]; simp), hp2 _ (by omega)]; dsimp only; rw [if_neg h3, if_neg h]⟩ (by simp only [go_sem, Prod.eta, Option.isSome_none, Option.isSome_some, Int.toNat_zero, Nat.reduceAdd, Nat.reduceMul, Nat.reduceSub, Nat.reduceEqDiff, Nat.reduceLT, Nat.reduceLeDiff, Nat.reduceShiftRight, Nat.reduceMod, Nat.reduceBEq, reduceCtorEq, reduceIte, reduceDIte, Int.reduceNeg]; first | rfl | ((repeat' apply And.intro) <;> first | rfl | assumption | omega)) (by dsimp only; omega)
        · rw [e0, he, List.drop_of_length_le (by omega)]
          rfl)
end Go.Proofs.YtdmgmdppejopcaaGreat

/- The contracts of the functions that the statements about the makeup reach: lists. -/
set_option linter.unusedSimpArgs false
set_option linter.unusedVariables false
set_option maxRecDepth 100000
set_option maxHeartbeats 4000000
namespace Go.Proofs.YtdmgmdppejopcaaGreat
open Go.Ev

theorem flt_eq {a b : Flt} (h : a.1 = b.1 ∧ a.2.1 = b.2.1 ∧ a.2.2.1 = b.2.2.1 ∧ a.2.2.2 = b.2.2.2) : a = b := by
  obtain ⟨a1, a2, a3, a4⟩ := a
  obtain ⟨b1, b2, b3, b4⟩ := b
  obtain ⟨h1, h2, h3, h4⟩ := h
  dsimp only at h1 h2 h3 h4
  rw [h1, h2, h3, h4]
theorem flt_ne {a b : Flt} (h : ¬ a.1 = b.1 ∨ ¬ a.2.1 = b.2.1 ∨ ¬ a.2.2.1 = b.2.2.1 ∨ ¬ a.2.2.2 = b.2.2.2) : ¬ a = b := by
  rintro rfl
  simp at h
def idxF {α : Type} (p : α → Bool) : List α → Int → Int
  | [], _ => -1
  | x :: l, i => if p x = true then i else idxF p l (i + 1)
def findV (l : List Dep) (f : Flt) : Int := idxF (fun d => decide (d.1 = f)) l 0
def con62 : Con := { ps := [.d false (.sl (.pair (.pair .str (.pair (.int .i64) (.pair .str (.int .i64)))) (.pair .str (.pair (.int .i64) (.pair (.int .i64) (.pair (.int .i64) (.pair (.int .i64) (.int .i64)))))))), .d true (.pair .str (.pair (.int .i64) (.pair .str (.int .i64))))], rs := [.d false (.int .i64)], pre := fun _ => True, out := fun x => (findV x.1 x.2.1, ()), nw := id }
theorem c62 : CtrOk Tryz.prog 62 con62.ctr :=
  con_sound (G := ⟨[], [], []⟩) tab_ok EnvOk.nil rfl Tryz.func62 rfl con62 133115 (by kernel_rfl) (by decide) (by decide) rfl (by decide) rfl (by
    rintro ⟨(l : List Dep), (f : Flt), _⟩ hpre hwf X hT hG hk hK
    (simp only [go_sem, Prod.eta, Option.isSome_none, Option.isSome_some, Int.toNat_zero, Nat.reduceAdd, Nat.reduceMul, Nat.reduceSub, Nat.reduceEqDiff, Nat.reduceLT, Nat.reduceLeDiff, Nat.reduceShiftRight, Nat.reduceMod, Nat.reduceBEq, reduceCtorEq, reduceIte, reduceDIte, Int.reduceNeg, Bool.not_eq_true', Bool.not_eq_false', Bool.or_eq_true, Bool.or_eq_false_iff, Bool.and_eq_true, Bool.and_eq_false_iff, decide_eq_true_eq, decide_eq_false_iff_not, Classical.not_not, not_or, maxLen, con62, hT, hG, hk, hK, Tryz.results62] at hwf ⊢); (try simp (disch := decide +kernel) only [drawn, true_and, and_true])
    intro hl
    refine evk_loop ⟨{ i : Nat // i ≤ l.length ∧ findV l f = idxF (fun d => decide (d.1 = f)) (l.drop i) i }, 1000, fun i => [(3, .one (.loc 64 0)), (7, .one (.sl (.pair (.pair .str (.pair (.int .i64) (.pair .str (.int .i64)))) (.pair .str (.pair (.int .i64) (.pair (.int .i64) (.pair (.int .i64) (.pair (.int .i64) (.int .i64))))))) l false)), (8, .one (.int .i64 l.length)), (9, .one (.int .i64 i.1))], fun _ => [(64, .cells 50 (expl (.pair .str (.pair (.int .i64) (.pair .str (.int .i64)))) f))], fun i => l.length - i.1⟩ ⟨0, by simp, by simp [findV]⟩ ?_ ?_
    · simp only [go_sem, Prod.eta, Option.isSome_none, Option.isSome_some, Int.toNat_zero, Nat.reduceAdd, Nat.reduceMul, Nat.reduceSub, Nat.reduceEqDiff, Nat.reduceLT, Nat.reduceLeDiff, Nat.reduceShiftRight, Nat.reduceMod, Nat.reduceBEq, reduceCtorEq, reduceIte, reduceDIte, Int.reduceNeg]
      rfl
    · rintro ⟨i, (hi : i ≤ l.length), (he : findV l f = idxF (fun d => decide (d.1 = f)) (l.drop i) i)⟩
      (simp only [go_sem, Prod.eta, Option.isSome_none, Option.isSome_some, Int.toNat_zero, Nat.reduceAdd, Nat.reduceMul, Nat.reduceSub, Nat.reduceEqDiff, Nat.reduceLT, Nat.reduceLeDiff, Nat.reduceShiftRight, Nat.reduceMod, Nat.reduceBEq, reduceCtorEq, reduceIte, reduceDIte, Int.reduceNeg, Bool.not_eq_true', Bool.not_eq_false', Bool.or_eq_true, Bool.or_eq_false_iff, Bool.and_eq_true, Bool.and_eq_false_iff, decide_eq_true_eq, decide_eq_false_iff_not, Classical.not_not, not_or, maxLen, con62, hT, hG, hk, hK, Tryz.results62]); (try simp (disch := decide +kernel) only [drawn, true_and, and_true])
      refine ⟨fun hlt => ?_, fun hge => ?_⟩
      · have hi' : i < l.length := by omega
        have ek : ∀ z, l.getD (i : Int).toNat z = l[i] := fun z => by simp [hi']
        simp only [ek]
        have hst : findV l f = if decide (l[i].1 = f) = true then (i : Int) else idxF (fun d => decide (d.1 = f)) (l.drop (i + 1)) ((i + 1 : Nat) : Int) := by
          rw [he, List.drop_eq_getElem_cons hi', idxF]; rfl
        (repeat' (with_reducible (first | refine And.intro ?_ ?_ | intro _))) <;> (try (first | with_reducible (first | done | assumption | omega | contradiction) | decide))
        · rename_i h
          rw [hst, if_pos (decide_eq_true (flt_eq h))]
        · rename_i h
          refine fin_lp ⟨i + 1, by omega, by rw [hst, if_neg (by rw [decide_eq_true_eq]; exact flt_ne h)]⟩ (by simp only [go_sem, Prod.eta, Option.isSome_none, Option.isSome_some, Int.toNat_zero, Nat.reduceAdd, Nat.reduceMul, Nat.reduceSub, Nat.reduceEqDiff, Nat.reduceLT, Nat.reduceLeDiff, Nat.reduceShiftRight, Nat.reduceMod, Nat.reduceBEq, reduceCtorEq, reduceIte, reduceDIte, Int.reduceNeg]; first | rfl | ((repeat' apply And.intro) <;> first | rfl | assumption | omega)) (by dsimp only; omega)
      · rw [he, List.drop_of_length_le (by omega)]
        rfl)
def con63 : Con := { ps := [.d false (.sl (.int .i64)), .d false (.int .i64)], rs := [.d false (.int .i64)], pre := fun _ => True, out := fun x => (idxF (fun y : Int => decide (x.2.1 = y)) x.1 0, ()), nw := id }
theorem c63 : CtrOk Tryz.prog 63 con63.ctr :=
  con_sound (G := ⟨[], [], []⟩) tab_ok EnvOk.nil rfl Tryz.func63 rfl con63 66483 (by kernel_rfl) (by decide) (by decide) rfl (by decide) rfl (by
    rintro ⟨(l : List Int), (f : Int), _⟩ hpre hwf X hT hG hk hK
    (simp only [go_sem, Prod.eta, Option.isSome_none, Option.isSome_some, Int.toNat_zero, Nat.reduceAdd, Nat.reduceMul, Nat.reduceSub, Nat.reduceEqDiff, Nat.reduceLT, Nat.reduceLeDiff, Nat.reduceShiftRight, Nat.reduceMod, Nat.reduceBEq, reduceCtorEq, reduceIte, reduceDIte, Int.reduceNeg, Bool.not_eq_true', Bool.not_eq_false', Bool.or_eq_true, Bool.or_eq_false_iff, Bool.and_eq_true, Bool.and_eq_false_iff, decide_eq_true_eq, decide_eq_false_iff_not, Classical.not_not, not_or, maxLen, con63, hT, hG, hk, hK, Tryz.results63] at hwf ⊢); (try simp (disch := decide +kernel) only [drawn, true_and, and_true])
    intro hl
    refine evk_loop ⟨{ i : Nat // i ≤ l.length ∧ idxF (fun y : Int => decide (f = y)) l 0 = idxF (fun y : Int => decide (f = y)) (l.drop i) i }, 1000, fun i => [(0, .one (.sl (.int .i64) l false)), (1, .one (.int .i64 f)), (7, .one (.int .i64 l.length)), (8, .one (.int .i64 i.1))], fun _ => [], fun i => l.length - i.1⟩ ⟨0, by simp, by simp⟩ ?_ ?_
    · simp only [go_sem, Prod.eta, Option.isSome_none, Option.isSome_some, Int.toNat_zero, Nat.reduceAdd, Nat.reduceMul, Nat.reduceSub, Nat.reduceEqDiff, Nat.reduceLT, Nat.reduceLeDiff, Nat.reduceShiftRight, Nat.reduceMod, Nat.reduceBEq, reduceCtorEq, reduceIte, reduceDIte, Int.reduceNeg]
      rfl
    · rintro ⟨i, (hi : i ≤ l.length), (he : idxF (fun y : Int => decide (f = y)) l 0 = idxF (fun y : Int => decide (f = y)) (l.drop i) i)⟩
      (simp only [go_sem, Prod.eta, Option.isSome_none, Option.isSome_some, Int.toNat_zero, Nat.reduceAdd, Nat.reduceMul, Nat.reduceSub, Nat.reduceEqDiff, Nat.reduceLT, Nat.reduceLeDiff, Nat.reduceShiftRight, Nat.reduceMod, Nat.reduceBEq, reduceCtorEq, reduceIte, reduceDIte, Int.reduceNeg, Bool.not_eq_true', Bool.not_eq_false', Bool.or_eq_true, Bool.or_eq_false_iff, Bool.and_eq_true, Bool.and_eq_false_iff, decide_eq_true_eq, decide_eq_false_iff_not, Classical.not_not, not_or, maxLen, con63, hT, hG, hk, hK, Tryz.results63]); (try simp (disch := decide +kernel) only [drawn, true_and, and_true])
      refine ⟨fun hlt => ?_, fun hge => ?_⟩
      · have hi' : i < l.length := by omega
        have ek : ∀ z, l.getD (i : Int).toNat z = l[i] := fun z => by simp [hi']
        simp only [ek]
        have hst : idxF (fun y : Int => decide (f = y)) l 0 = if decide (f = l[i]) = true then (i : Int) else idxF (fun y : Int => decide (f = y)) (l.drop (i + 1)) ((i + 1 : Nat) : Int) := by
          rw [he, List.drop_eq_getElem_cons hi', idxF]; rfl
        (repeat' (with_reducible (first | refine And.intro ?_ ?_ | intro _))) <;> (try (first | with_reducible (first | done | assumption | omega | contradiction) | decide))
        · rename_i h
          rw [hst, if_pos (by simp [h])]
        · rename_i h
          refine fin_lp ⟨i + 1, by omega, by rw [hst, if_neg (by simp [h])]⟩ (by simp only [go_sem, Prod.eta, Option.isSome_none, Option.isSome_some, Int.toNat_zero, Nat.reduceAdd, Nat.reduceMul, Nat.reduceSub, Nat.reduceEqDiff, Nat.reduceLT, Nat.reduceLeDiff, Nat.reduceShiftRight, Nat.reduceMod, Nat.reduceBEq, reduceCtorEq, reduceIte, reduceDIte, Int.reduceNeg]; first | rfl | ((repeat' apply And.intro) <;> first | rfl | assumption | omega)) (by dsimp only; omega)
      · rw [he, List.drop_of_length_le (by omega)]
        rfl)
def con67 : Con := { ps := [.d false (.sl (.pair (.pair .str (.pair (.int .i64) (.pair .str (.int .i64)))) (.pair .str (.pair (.int .i64) (.pair (.int .i64) (.pair (.int .i64) (.pair (.int .i64) (.int .i64)))))))), .cl 55 []], rs := [.d false (.int .i64)], pre := fun _ => True, out := fun x => (idxF (fun d : Dep => !decide (d.state = 0)) x.1 0, ()), nw := id }
theorem c67 : CtrOk Tryz.prog 67 con67.ctr :=
  con_sound (G := ⟨[(55, con55.ctr)], [], []⟩) tab_ok (EnvOk.cons c55 has55 EnvOk.nil) rfl Tryz.func67 rfl con67 66483 (by kernel_rfl) (by decide) (by decide) rfl (by decide) rfl (by
    rintro ⟨(l : List Dep), _⟩ hpre hwf X hT hG hk hK
    (simp only [go_sem, Prod.eta, Option.isSome_none, Option.isSome_some, Int.toNat_zero, Nat.reduceAdd, Nat.reduceMul, Nat.reduceSub, Nat.reduceEqDiff, Nat.reduceLT, Nat.reduceLeDiff, Nat.reduceShiftRight, Nat.reduceMod, Nat.reduceBEq, reduceCtorEq, reduceIte, reduceDIte, Int.reduceNeg, Bool.not_eq_true', Bool.not_eq_false', Bool.or_eq_true, Bool.or_eq_false_iff, Bool.and_eq_true, Bool.and_eq_false_iff, decide_eq_true_eq, decide_eq_false_iff_not, Classical.not_not, not_or, maxLen, con67, con55, hT, hG, hk, hK, Tryz.results67] at hwf ⊢); (try simp (disch := decide +kernel) only [drawn, true_and, and_true])
    intro hl
    refine evk_loop ⟨{ i : Nat // i ≤ l.length ∧ idxF (fun d : Dep => !decide (d.state = 0)) l 0 = idxF (fun d : Dep => !decide (d.state = 0)) (l.drop i) i }, 1000, fun i => [(0, .one (.sl (.pair (.pair .str (.pair (.int .i64) (.pair .str (.int .i64)))) (.pair .str (.pair (.int .i64) (.pair (.int .i64) (.pair (.int .i64) (.pair (.int .i64) (.int .i64))))))) l false)), (1, .one (.fn 55 [])), (7, .one (.int .i64 l.length)), (8, .one (.int .i64 i.1))], fun _ => [], fun i => l.length - i.1⟩ ⟨0, by simp, by simp⟩ ?_ ?_
    · simp only [go_sem, Prod.eta, Option.isSome_none, Option.isSome_some, Int.toNat_zero, Nat.reduceAdd, Nat.reduceMul, Nat.reduceSub, Nat.reduceEqDiff, Nat.reduceLT, Nat.reduceLeDiff, Nat.reduceShiftRight, Nat.reduceMod, Nat.reduceBEq, reduceCtorEq, reduceIte, reduceDIte, Int.reduceNeg]
      rfl
    · rintro ⟨i, (hi : i ≤ l.length), (he : idxF (fun d : Dep => !decide (d.state = 0)) l 0 = idxF (fun d : Dep => !decide (d.state = 0)) (l.drop i) i)⟩
      (simp only [go_sem, Prod.eta, Option.isSome_none, Option.isSome_some, Int.toNat_zero, Nat.reduceAdd, Nat.reduceMul, Nat.reduceSub, Nat.reduceEqDiff, Nat.reduceLT, Nat.reduceLeDiff, Nat.reduceShiftRight, Nat.reduceMod, Nat.reduceBEq, reduceCtorEq, reduceIte, reduceDIte, Int.reduceNeg, Bool.not_eq_true', Bool.not_eq_false', Bool.or_eq_true, Bool.or_eq_false_iff, Bool.and_eq_true, Bool.and_eq_false_iff, decide_eq_true_eq, decide_eq_false_iff_not, Classical.not_not, not_or, maxLen, con67, con55, hT, hG, hk, hK, Tryz.results67]); (try simp (disch := decide +kernel) only [drawn, true_and, and_true])
      refine ⟨fun hlt => ?_, fun hge => ?_⟩
      · have hi' : i < l.length := by omega
        have ek : ∀ z, l.getD (i : Int).toNat z = l[i] := fun z => by simp [hi']
        simp only [ek]
        have hst : idxF (fun d : Dep => !decide (d.state = 0)) l 0 = if (!decide (l[i].state = 0)) = true then (i : Int) else idxF (fun d : Dep => !decide (d.state = 0)) (l.drop (i + 1)) ((i + 1 : Nat) : Int) := by
          rw [he, List.drop_eq_getElem_cons hi', idxF]; rfl
        (repeat' (with_reducible (first | refine And.intro ?_ ?_ | intro _))) <;> (try (first | with_reducible (first | done | assumption | omega | contradiction) | decide))
        · rename_i h
          rw [hst, if_pos (by simp [h])]
        · rename_i h
          refine fin_lp ⟨i + 1, by omega, by rw [hst, if_neg (by simp [h])]⟩ (by simp only [go_sem, Prod.eta, Option.isSome_none, Option.isSome_some, Int.toNat_zero, Nat.reduceAdd, Nat.reduceMul, Nat.reduceSub, Nat.reduceEqDiff, Nat.reduceLT, Nat.reduceLeDiff, Nat.reduceShiftRight, Nat.reduceMod, Nat.reduceBEq, reduceCtorEq, reduceIte, reduceDIte, Int.reduceNeg]; first | rfl | ((repeat' apply And.intro) <;> first | rfl | assumption | omega)) (by dsimp only; omega)
      · rw [he, List.drop_of_length_le (by omega)]
        rfl)
def con46 : Con := { ps := [.d false (.sl (.int .i64)), .d false (.int .i64)], rs := [.d false .bool], pre := fun _ => True, out := fun x => (decide (idxF (fun y : Int => decide (x.2.1 = y)) x.1 0 ≥ 0), ()), nw := id }
theorem c46 : CtrOk Tryz.prog 46 con46.ctr :=
  con_sound (G := ⟨[(63, con63.ctr)], [], []⟩) tab_ok (EnvOk.cons c63 has63 EnvOk.nil) rfl Tryz.func46 rfl con46 19 (by kernel_rfl) (by decide) (by decide) rfl (by decide) rfl (by
    rintro ⟨(l : List Int), (f : Int), _⟩ hpre hwf X hT hG hk hK
    (simp only [go_sem, Prod.eta, Option.isSome_none, Option.isSome_some, Int.toNat_zero, Nat.reduceAdd, Nat.reduceMul, Nat.reduceSub, Nat.reduceEqDiff, Nat.reduceLT, Nat.reduceLeDiff, Nat.reduceShiftRight, Nat.reduceMod, Nat.reduceBEq, reduceCtorEq, reduceIte, reduceDIte, Int.reduceNeg, Bool.not_eq_true', Bool.not_eq_false', Bool.or_eq_true, Bool.or_eq_false_iff, Bool.and_eq_true, Bool.and_eq_false_iff, decide_eq_true_eq, decide_eq_false_iff_not, Classical.not_not, not_or, maxLen, con46, con63, hT, hG, hk, hK, Tryz.results46] at hwf ⊢); (try simp (disch := decide +kernel) only [drawn, true_and, and_true]))
def chV : List All → Flt → Int × Bool
  | [], _ => (0, false)
  | a :: l, f => if a.1 = f then (a.2, true) else chV l f
def con39 : Con := { ps := [.d false (.sl (.pair (.pair .str (.pair (.int .i64) (.pair .str (.int .i64)))) (.int .i64))), .d true (.pair .str (.pair (.int .i64) (.pair .str (.int .i64))))], rs := [.d false (.int .i64), .d false .bool], pre := fun _ => True, out := fun x => ((chV x.1 x.2.1).1, (chV x.1 x.2.1).2, ()), nw := id }
theorem c39 : CtrOk Tryz.prog 39 con39.ctr :=
  con_sound (G := ⟨[], [], []⟩) tab_ok EnvOk.nil rfl Tryz.func39 rfl con39 135099 (by kernel_rfl) (by decide) (by decide) rfl (by decide) rfl (by
    rintro ⟨(l : List All), (f : Flt), _⟩ hpre hwf X hT hG hk hK
    (simp only [go_sem, Prod.eta, Option.isSome_none, Option.isSome_some, Int.toNat_zero, Nat.reduceAdd, Nat.reduceMul, Nat.reduceSub, Nat.reduceEqDiff, Nat.reduceLT, Nat.reduceLeDiff, Nat.reduceShiftRight, Nat.reduceMod, Nat.reduceBEq, reduceCtorEq, reduceIte, reduceDIte, Int.reduceNeg, Bool.not_eq_true', Bool.not_eq_false', Bool.or_eq_true, Bool.or_eq_false_iff, Bool.and_eq_true, Bool.and_eq_false_iff, decide_eq_true_eq, decide_eq_false_iff_not, Classical.not_not, not_or, maxLen, con39, hT, hG, hk, hK, Tryz.results39] at hwf ⊢); (try simp (disch := decide +kernel) only [drawn, true_and, and_true])
    intro hl
    refine evk_loop ⟨{ i : Nat // i ≤ l.length ∧ chV l f = chV (l.drop i) f }, 1000, fun i => [(3, .one (.loc 64 0)), (8, .one (.sl (.pair (.pair .str (.pair (.int .i64) (.pair .str (.int .i64)))) (.int .i64)) l false)), (9, .one (.int .i64 l.length)), (10, .one (.int .i64 i.1))], fun _ => [(64, .cells 50 (expl (.pair .str (.pair (.int .i64) (.pair .str (.int .i64)))) f))], fun i => l.length - i.1⟩ ⟨0, by simp, by simp⟩ ?_ ?_
    · simp only [go_sem, Prod.eta, Option.isSome_none, Option.isSome_some, Int.toNat_zero, Nat.reduceAdd, Nat.reduceMul, Nat.reduceSub, Nat.reduceEqDiff, Nat.reduceLT, Nat.reduceLeDiff, Nat.reduceShiftRight, Nat.reduceMod, Nat.reduceBEq, reduceCtorEq, reduceIte, reduceDIte, Int.reduceNeg]
      rfl
    · rintro ⟨i, (hi : i ≤ l.length), (he : chV l f = chV (l.drop i) f)⟩
      (simp only [go_sem, Prod.eta, Option.isSome_none, Option.isSome_some, Int.toNat_zero, Nat.reduceAdd, Nat.reduceMul, Nat.reduceSub, Nat.reduceEqDiff, Nat.reduceLT, Nat.reduceLeDiff, Nat.reduceShiftRight, Nat.reduceMod, Nat.reduceBEq, reduceCtorEq, reduceIte, reduceDIte, Int.reduceNeg, Bool.not_eq_true', Bool.not_eq_false', Bool.or_eq_true, Bool.or_eq_false_iff, Bool.and_eq_true, Bool.and_eq_false_iff, decide_eq_true_eq, decide_eq_false_iff_not, Classical.not_not, not_or, maxLen, con39, hT, hG, hk, hK, Tryz.results39]); (try simp (disch := decide +kernel) only [drawn, true_and, and_true])
      refine ⟨fun hlt => ?_, fun hge => ?_⟩
      · have hi' : i < l.length := by omega
        have ek : ∀ z, l.getD (i : Int).toNat z = l[i] := fun z => by simp [hi']
        simp only [ek]
        have hst : chV l f = if l[i].1 = f then (l[i].2, true) else chV (l.drop (i + 1)) f := by
          rw [he, List.drop_eq_getElem_cons hi', chV]
        (repeat' (with_reducible (first | refine And.intro ?_ ?_ | intro _))) <;> (try (first | with_reducible (first | done | assumption | omega | contradiction) | decide))
        any_goals (have hf : l[i].1 = f := flt_eq (by assumption)
                   rw [hst, if_pos hf])
        have hf : ¬ l[i].1 = f := flt_ne (by assumption)
        refine fin_lp ⟨i + 1, by omega, by rw [hst, if_neg hf]⟩ (by simp only [go_sem, Prod.eta, Option.isSome_none, Option.isSome_some, Int.toNat_zero, Nat.reduceAdd, Nat.reduceMul, Nat.reduceSub, Nat.reduceEqDiff, Nat.reduceLT, Nat.reduceLeDiff, Nat.reduceShiftRight, Nat.reduceMod, Nat.reduceBEq, reduceCtorEq, reduceIte, reduceDIte, Int.reduceNeg]; first | rfl | ((repeat' apply And.intro) <;> first | rfl | assumption | omega)) (by dsimp only; omega)
      · rw [he, List.drop_of_length_le (by omega)]
        exact ⟨rfl, rfl⟩)
def con33 : Con := { ps := [.d false (.sl (.pair (.pair .str (.pair (.int .i64) (.pair .str (.int .i64)))) (.int .i64))), .d true (.pair .str (.pair (.int .i64) (.pair .str (.int .i64))))], rs := [.d false (.int .i64), .d false .bool], pre := fun _ => True, out := fun x => ((chV x.1 x.2.1).1, (chV x.1 x.2.1).2, ()), nw := id }
theorem c33 : CtrOk Tryz.prog 33 con33.ctr :=
  con_sound (G := ⟨[], [], []⟩) tab_ok EnvOk.nil rfl Tryz.func33 rfl con33 525435 (by kernel_rfl) (by decide) (by decide) rfl (by decide) rfl (by
    rintro ⟨(l : List All), (f : Flt), _⟩ hpre hwf X hT hG hk hK
    (simp only [go_sem, Prod.eta, Option.isSome_none, Option.isSome_some, Int.toNat_zero, Nat.reduceAdd, Nat.reduceMul, Nat.reduceSub, Nat.reduceEqDiff, Nat.reduceLT, Nat.reduceLeDiff, Nat.reduceShiftRight, Nat.reduceMod, Nat.reduceBEq, reduceCtorEq, reduceIte, reduceDIte, Int.reduceNeg, Bool.not_eq_true', Bool.not_eq_false', Bool.or_eq_true, Bool.or_eq_false_iff, Bool.and_eq_true, Bool.and_eq_false_iff, decide_eq_true_eq, decide_eq_false_iff_not, Classical.not_not, not_or, maxLen, con33, hT, hG, hk, hK, Tryz.results33] at hwf ⊢); (try simp (disch := decide +kernel) only [drawn, true_and, and_true])
    refine evk_loop ⟨{ i : Nat // i ≤ l.length ∧ chV l f = chV (l.drop i) f }, 1000, fun i => [(0, .one (.sl (.pair (.pair .str (.pair (.int .i64) (.pair .str (.int .i64)))) (.int .i64)) l false)), (3, .one (.loc 64 0)), (6, .one (.int .i64 i.1))], fun _ => [(64, .cells 50 (expl (.pair .str (.pair (.int .i64) (.pair .str (.int .i64)))) f))], fun i => l.length - i.1⟩ ⟨0, by simp, by simp⟩ ?_ ?_
    · simp only [go_sem, Prod.eta, Option.isSome_none, Option.isSome_some, Int.toNat_zero, Nat.reduceAdd, Nat.reduceMul, Nat.reduceSub, Nat.reduceEqDiff, Nat.reduceLT, Nat.reduceLeDiff, Nat.reduceShiftRight, Nat.reduceMod, Nat.reduceBEq, reduceCtorEq, reduceIte, reduceDIte, Int.reduceNeg]
      rfl
    · rintro ⟨i, (hi : i ≤ l.length), (he : chV l f = chV (l.drop i) f)⟩
      (simp only [go_sem, Prod.eta, Option.isSome_none, Option.isSome_some, Int.toNat_zero, Nat.reduceAdd, Nat.reduceMul, Nat.reduceSub, Nat.reduceEqDiff, Nat.reduceLT, Nat.reduceLeDiff, Nat.reduceShiftRight, Nat.reduceMod, Nat.reduceBEq, reduceCtorEq, reduceIte, reduceDIte, Int.reduceNeg, Bool.not_eq_true', Bool.not_eq_false', Bool.or_eq_true, Bool.or_eq_false_iff, Bool.and_eq_true, Bool.and_eq_false_iff, decide_eq_true_eq, decide_eq_false_iff_not, Classical.not_not, not_or, maxLen, con33, hT, hG, hk, hK, Tryz.results33]); (try simp (disch := decide +kernel) only [drawn, true_and, and_true])
      intro hl
      refine ⟨fun hlt => ?_, fun hge => ?_⟩
      · have hi' : i < l.length := by omega
        have ek : ∀ z, l.getD (i : Int).toNat z = l[i] := fun z => by simp [hi']
        simp only [ek]
        have hst : chV l f = if l[i].1 = f then (l[i].2, true) else chV (l.drop (i + 1)) f := by
          rw [he, List.drop_eq_getElem_cons hi', chV]
        (repeat' (with_reducible (first | refine And.intro ?_ ?_ | intro _))) <;> (try (first | with_reducible (first | done | assumption | omega | contradiction) | decide))
        any_goals (have hf : l[i].1 = f := flt_eq (by assumption)
                   rw [hst, if_pos hf])
        have hf : ¬ l[i].1 = f := flt_ne (by assumption)
        refine fin_lp ⟨i + 1, by omega, by rw [hst, if_neg hf]⟩ (by simp only [go_sem, Prod.eta, Option.isSome_none, Option.isSome_some, Int.toNat_zero, Nat.reduceAdd, Nat.reduceMul, Nat.reduceSub, Nat.reduceEqDiff, Nat.reduceLT, Nat.reduceLeDiff, Nat.reduceShiftRight, Nat.reduceMod, Nat.reduceBEq, reduceCtorEq, reduceIte, reduceDIte, Int.reduceNeg]; first | rfl | ((repeat' apply And.intro) <;> first | rfl | assumption | omega)) (by dsimp only; omega)
      · rw [he, List.drop_of_length_le (by omega)]
        exact ⟨rfl, rfl⟩)
def ascF : List Flt → Bool
  | a :: b :: l => decide (fltC a b < 0) && ascF (b :: l)
  | _ => true
def con44 : Con := { ps := [.d false (.sl (.pair .str (.pair (.int .i64) (.pair .str (.int .i64)))))], rs := [.d false .bool], pre := fun _ => True, out := fun x => (ascF x.1, ()), nw := id }
theorem c44 : CtrOk Tryz.prog 44 con44.ctr :=
  con_sound (G := ⟨[(59, con59.ctr)], [], []⟩) tab_ok (EnvOk.cons c59 has59 EnvOk.nil) rfl Tryz.func44 rfl con44 1048717 (by kernel_rfl) (by decide) (by decide) rfl (by decide) rfl (by
    rintro ⟨(l : List Flt), _⟩ hpre hwf X hT hG hk hK
    (simp only [go_sem, Prod.eta, Option.isSome_none, Option.isSome_some, Int.toNat_zero, Nat.reduceAdd, Nat.reduceMul, Nat.reduceSub, Nat.reduceEqDiff, Nat.reduceLT, Nat.reduceLeDiff, Nat.reduceShiftRight, Nat.reduceMod, Nat.reduceBEq, reduceCtorEq, reduceIte, reduceDIte, Int.reduceNeg, Bool.not_eq_true', Bool.not_eq_false', Bool.or_eq_true, Bool.or_eq_false_iff, Bool.and_eq_true, Bool.and_eq_false_iff, decide_eq_true_eq, decide_eq_false_iff_not, Classical.not_not, not_or, maxLen, con44, con59, hT, hG, hk, hK, Tryz.results44] at hwf ⊢); (try simp (disch := decide +kernel) only [drawn, true_and, and_true])
    refine evk_loop ⟨{ i : Nat // (i ≤ l.length ∨ i = 0) ∧ ascF l = ascF (l.drop i) }, 1000, fun i => [(0, .one (.sl (.pair .str (.pair (.int .i64) (.pair .str (.int .i64)))) l false)), (3, .one (.int .i64 (i.1 + 1)))], fun _ => [], fun i => l.length - i.1⟩ ⟨0, by simp, by simp⟩ ?_ ?_
    · simp only [go_sem, Prod.eta, Option.isSome_none, Option.isSome_some, Int.toNat_zero, Nat.reduceAdd, Nat.reduceMul, Nat.reduceSub, Nat.reduceEqDiff, Nat.reduceLT, Nat.reduceLeDiff, Nat.reduceShiftRight, Nat.reduceMod, Nat.reduceBEq, reduceCtorEq, reduceIte, reduceDIte, Int.reduceNeg]
      rfl
    · rintro ⟨i, (hi : i ≤ l.length ∨ i = 0), (he : ascF l = ascF (l.drop i))⟩
      (simp only [go_sem, Prod.eta, Option.isSome_none, Option.isSome_some, Int.toNat_zero, Nat.reduceAdd, Nat.reduceMul, Nat.reduceSub, Nat.reduceEqDiff, Nat.reduceLT, Nat.reduceLeDiff, Nat.reduceShiftRight, Nat.reduceMod, Nat.reduceBEq, reduceCtorEq, reduceIte, reduceDIte, Int.reduceNeg, Bool.not_eq_true', Bool.not_eq_false', Bool.or_eq_true, Bool.or_eq_false_iff, Bool.and_eq_true, Bool.and_eq_false_iff, decide_eq_true_eq, decide_eq_false_iff_not, Classical.not_not, not_or, maxLen, con44, con59, hT, hG, hk, hK, Tryz.results44]); (try simp (disch := decide +kernel) only [drawn, true_and, and_true])
      intro hl
      refine ⟨fun hlt => ?_, fun hge => ?_⟩
      · have hi' : i < l.length := by omega
        have hi2 : i + 1 < l.length := by omega
        have ek : ∀ z, l.getD ((i : Int) + 1).toNat z = l[i + 1] := fun z => by
          rw [show ((i : Int) + 1).toNat = i + 1 by omega]; simp [hi2]
        have ek2 : ∀ z, l.getD ((i : Int) + 1 - 1).toNat z = l[i] := fun z => by
          rw [show ((i : Int) + 1 - 1).toNat = i by omega]; simp [hi']
        simp only [ek, ek2]
        have hst : ascF l = (decide (fltC l[i] l[i + 1] < 0) && ascF (l.drop (i + 1))) := by
          rw [he, List.drop_eq_getElem_cons hi', List.drop_eq_getElem_cons hi2, ascF]
        (repeat' (with_reducible (first | refine And.intro ?_ ?_ | intro _))) <;> (try (first | with_reducible (first | done | assumption | omega | contradiction) | decide))
        · rename_i h
          rw [hst, decide_eq_false (by omega)]
          rfl
        · rename_i h
          refine fin_lp ⟨i + 1, by omega, by rw [hst, decide_eq_true (by omega)]; rfl⟩ (by simp only [go_sem, Prod.eta, Option.isSome_none, Option.isSome_some, Int.toNat_zero, Nat.reduceAdd, Nat.reduceMul, Nat.reduceSub, Nat.reduceEqDiff, Nat.reduceLT, Nat.reduceLeDiff, Nat.reduceShiftRight, Nat.reduceMod, Nat.reduceBEq, reduceCtorEq, reduceIte, reduceDIte, Int.reduceNeg]; first | rfl | ((repeat' apply And.intro) <;> first | rfl | assumption | omega)) (by dsimp only; omega)
      · rw [he]
        rcases h : l.drop i with _ | ⟨a, _ | ⟨b, q⟩⟩
        · rfl
        · rfl
        · have := congrArg List.length h
          rw [List.length_drop] at this
          simp only [List.length_cons] at this
          omega)
def con45 : Con := { ps := [.d false (.sl (.pair .str (.pair (.int .i64) (.pair .str (.int .i64))))), .d false (.sl (.pair .str (.pair (.int .i64) (.pair .str (.int .i64)))))], rs := [.d false .bool], pre := fun _ => True, out := fun (x : List Flt × List Flt × Unit) => (decide (x.1 = x.2.1), ()), nw := id }
theorem c45 : CtrOk Tryz.prog 45 con45.ctr :=
  con_sound (G := ⟨[], [], []⟩) tab_ok EnvOk.nil rfl Tryz.func45 rfl con45 16806963 (by kernel_rfl) (by decide) (by decide) rfl (by decide) rfl (by
    rintro ⟨(a : List Flt), (b : List Flt), _⟩ hpre hwf X hT hG hk hK
    (simp only [go_sem, Prod.eta, Option.isSome_none, Option.isSome_some, Int.toNat_zero, Nat.reduceAdd, Nat.reduceMul, Nat.reduceSub, Nat.reduceEqDiff, Nat.reduceLT, Nat.reduceLeDiff, Nat.reduceShiftRight, Nat.reduceMod, Nat.reduceBEq, reduceCtorEq, reduceIte, reduceDIte, Int.reduceNeg, Bool.not_eq_true', Bool.not_eq_false', Bool.or_eq_true, Bool.or_eq_false_iff, Bool.and_eq_true, Bool.and_eq_false_iff, decide_eq_true_eq, decide_eq_false_iff_not, Classical.not_not, not_or, maxLen, con45, hT, hG, hk, hK, Tryz.results45] at hwf ⊢); (try simp (disch := decide +kernel) only [drawn, true_and, and_true])
    (repeat' (with_reducible (first | refine And.intro ?_ ?_ | intro _))) <;> (try (first | with_reducible (first | done | assumption | omega | contradiction) | decide))
    · rename_i h
      exact (decide_eq_false fun e => h (by rw [e])).symm
    · rename_i hq _
      refine evk_loop ⟨{ i : Nat // i ≤ a.length ∧ a.take i = b.take i }, 1000, fun i => [(0, .one (.sl (.pair .str (.pair (.int .i64) (.pair .str (.int .i64)))) a false)), (1, .one (.sl (.pair .str (.pair (.int .i64) (.pair .str (.int .i64)))) b false)), (12, .one (.int .i64 a.length)), (13, .one (.int .i64 i.1))], fun _ => [], fun i => a.length - i.1⟩ ⟨0, by simp, by simp⟩ ?_ ?_
      · simp only [go_sem, Prod.eta, Option.isSome_none, Option.isSome_some, Int.toNat_zero, Nat.reduceAdd, Nat.reduceMul, Nat.reduceSub, Nat.reduceEqDiff, Nat.reduceLT, Nat.reduceLeDiff, Nat.reduceShiftRight, Nat.reduceMod, Nat.reduceBEq, reduceCtorEq, reduceIte, reduceDIte, Int.reduceNeg]
        rfl
      · rintro ⟨i, (hi : i ≤ a.length), (he : a.take i = b.take i)⟩
        (simp only [go_sem, Prod.eta, Option.isSome_none, Option.isSome_some, Int.toNat_zero, Nat.reduceAdd, Nat.reduceMul, Nat.reduceSub, Nat.reduceEqDiff, Nat.reduceLT, Nat.reduceLeDiff, Nat.reduceShiftRight, Nat.reduceMod, Nat.reduceBEq, reduceCtorEq, reduceIte, reduceDIte, Int.reduceNeg, Bool.not_eq_true', Bool.not_eq_false', Bool.or_eq_true, Bool.or_eq_false_iff, Bool.and_eq_true, Bool.and_eq_false_iff, decide_eq_true_eq, decide_eq_false_iff_not, Classical.not_not, not_or, maxLen, con45, hT, hG, hk, hK, Tryz.results45]); (try simp (disch := decide +kernel) only [drawn, true_and, and_true])
        refine ⟨fun hlt => ?_, fun hge => ?_⟩
        · have hi' : i < a.length := by omega
          have hi2 : i < b.length := by omega
          have ek : ∀ z, a.getD (i : Int).toNat z = a[i] := fun z => by simp [hi']
          have ek2 : ∀ z, b.getD (i : Int).toNat z = b[i] := fun z => by simp [hi2]
          simp only [ek, ek2]
          (repeat' (with_reducible (first | refine And.intro ?_ ?_ | intro _))) <;> (try (first | with_reducible (first | done | assumption | omega | contradiction) | decide))
          · rename_i h
            exact (decide_eq_false fun e => flt_ne h (by simp only [e])).symm
          · rename_i h
            refine fin_lp ⟨i + 1, by omega, by rw [List.take_succ_eq_append_getElem hi', List.take_succ_eq_append_getElem hi2, he, flt_eq h]⟩ (by simp only [go_sem, Prod.eta, Option.isSome_none, Option.isSome_some, Int.toNat_zero, Nat.reduceAdd, Nat.reduceMul, Nat.reduceSub, Nat.reduceEqDiff, Nat.reduceLT, Nat.reduceLeDiff, Nat.reduceShiftRight, Nat.reduceMod, Nat.reduceBEq, reduceCtorEq, reduceIte, reduceDIte, Int.reduceNeg]; first | rfl | ((repeat' apply And.intro) <;> first | rfl | assumption | omega)) (by dsimp only; omega)
        · rw [List.take_of_length_le (by omega), List.take_of_length_le (by omega)] at he
          exact (decide_eq_true he).symm)
end Go.Proofs.YtdmgmdppejopcaaGreat
