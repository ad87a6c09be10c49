/- The contracts of the functions about operations: valid ones, their order. -/
import Derived.Test.YthiddcobegnokaaEvIterToE
set_option linter.unusedSimpArgs false
set_option linter.unusedVariables false
set_option maxRecDepth 100000
set_option maxHeartbeats 4000000
namespace Go.Proofs.Ythiddcobegnokaa
open Go.Ev

def inV (n a b : Int) : Bool := decide (a ≤ n) && decide (n ≤ b)
def okPl (p : Plt) : Bool := inV p.1 0 9 && inV p.2.1 1 999 && inV p.2.2 0 999999
def okPc (x : Pce) : Bool := okPl x.1 && inV x.2.1 1 999 && inV x.2.2 0 4
def okOp (o : Opn) : Bool := inV o.1 0 1048576 && inV o.2.1 1 6 && inV o.2.2.1 1 1048576 && (decide (o.2.2.2.1 = 1) || decide (o.2.2.2.1 = 2)) && inV o.2.2.2.2.1 1 999 && okPc o.2.2.2.2.2
def con63 : Con := { ps := [.d false (.int .i64), .d false (.int .i64), .d false (.int .i64)], rs := [.d false .bool], pre := fun _ => True, out := fun x => (inV x.1 x.2.1 x.2.2.1, ()), nw := id }
theorem c63 : CtrOk Try.prog 63 con63.ctr :=
  con_sound (G := ⟨[], [], [], []⟩) tab_ok EnvOk.nil rfl Try.func63 rfl con63 71 (by kernel_rfl) (by decide) (by decide) rfl (by decide) rfl (by
    rintro ⟨(n : Int), (a : Int), (b : Int), _⟩ hpre hwf X hT hG hk hK
    (simp -implicitDefEqProofs only [go_sem, Prod.eta, Option.isSome_none, Option.isSome_some, Int.toNat_zero, Nat.reduceAdd, Nat.reduceMul, Nat.reduceSub, Nat.reduceEqDiff, Nat.reduceLT, Nat.reduceLeDiff, Nat.reduceShiftRight, Nat.reduceMod, Nat.reduceBEq, reduceCtorEq, reduceIte, reduceDIte, Int.reduceNeg, Bool.not_eq_true', Bool.not_eq_false', Bool.or_eq_true, Bool.or_eq_false_iff, Bool.and_eq_true, Bool.and_eq_false_iff, decide_eq_true_eq, decide_eq_false_iff_not, Classical.not_not, not_or, maxLen, con63, hT, hG, hk, hK, Try.results63] at hwf ⊢); (try simp (disch := decide +kernel) only [drawn, true_and, and_true])
    (repeat' (with_reducible (first | refine And.intro ?_ ?_ | intro _))) <;> (try (first | with_reducible (first | done | assumption | omega | contradiction) | decide))
    rfl)
def con84 : Con := { ps := [.d true (.pair (.int .i64) (.pair (.int .i64) (.int .i64)))], rs := [.d false .bool], pre := fun _ => True, out := fun (x : Plt × Unit) => (okPl x.1, ()), nw := id }
theorem c84 : CtrOk Try.prog 84 con84.ctr :=
  con_sound (G := ⟨[], [], [], []⟩) tab_ok EnvOk.nil rfl Try.func84 rfl con84 7 (by kernel_rfl) (by decide) (by decide) rfl (by decide) rfl (by
    rintro ⟨⟨(a : Int), (b : Int), (c : Int)⟩, _⟩ hpre hwf X hT hG hk hK
    (simp -implicitDefEqProofs only [go_sem, Prod.eta, Option.isSome_none, Option.isSome_some, Int.toNat_zero, Nat.reduceAdd, Nat.reduceMul, Nat.reduceSub, Nat.reduceEqDiff, Nat.reduceLT, Nat.reduceLeDiff, Nat.reduceShiftRight, Nat.reduceMod, Nat.reduceBEq, reduceCtorEq, reduceIte, reduceDIte, Int.reduceNeg, Bool.not_eq_true', Bool.not_eq_false', Bool.or_eq_true, Bool.or_eq_false_iff, Bool.and_eq_true, Bool.and_eq_false_iff, decide_eq_true_eq, decide_eq_false_iff_not, Classical.not_not, not_or, maxLen, con84, hT, hG, hk, hK, Try.results84] at hwf ⊢); (try simp (disch := decide +kernel) only [drawn, true_and, and_true])
    unfold okPl inV
    rw [Bool.eq_iff_iff]
    simp only [Bool.and_eq_true, decide_eq_true_eq]
    omega)
def con85 : Con := con84
theorem c85 : CtrOk Try.prog 85 con85.ctr :=
  con_sound (G := ⟨[], [], [], []⟩) tab_ok EnvOk.nil rfl Try.func85 rfl con85 7 (by kernel_rfl) (by decide) (by decide) rfl (by decide) rfl (by
    rintro ⟨⟨(a : Int), (b : Int), (c : Int)⟩, _⟩ hpre hwf X hT hG hk hK
    (simp -implicitDefEqProofs only [go_sem, Prod.eta, Option.isSome_none, Option.isSome_some, Int.toNat_zero, Nat.reduceAdd, Nat.reduceMul, Nat.reduceSub, Nat.reduceEqDiff, Nat.reduceLT, Nat.reduceLeDiff, Nat.reduceShiftRight, Nat.reduceMod, Nat.reduceBEq, reduceCtorEq, reduceIte, reduceDIte, Int.reduceNeg, Bool.not_eq_true', Bool.not_eq_false', Bool.or_eq_true, Bool.or_eq_false_iff, Bool.and_eq_true, Bool.and_eq_false_iff, decide_eq_true_eq, decide_eq_false_iff_not, Classical.not_not, not_or, maxLen, con85, con84, hT, hG, hk, hK, Try.results85] at hwf ⊢); (try simp (disch := decide +kernel) only [drawn, true_and, and_true])
    unfold okPl inV
    rw [Bool.eq_iff_iff]
    simp only [Bool.and_eq_true, decide_eq_true_eq]
    omega)
def con64 : Con := { ps := [.d true (.pair (.pair (.int .i64) (.pair (.int .i64) (.int .i64))) (.pair (.int .i64) (.int .i64)))], rs := [.d false .bool], pre := fun _ => True, out := fun (x : Pce × Unit) => (okPc x.1, ()), nw := id }
theorem c64 : CtrOk Try.prog 64 con64.ctr :=
  con_sound (G := ⟨[(63, con63.ctr), (84, con84.ctr)], [], [], []⟩) tab_ok (EnvOk.cons c63 has63 (EnvOk.cons c84 has84 EnvOk.nil)) rfl Try.func64 rfl con64 7 (by kernel_rfl) (by decide) (by decide) rfl (by decide) rfl (by
    rintro ⟨⟨⟨(a : Int), (b : Int), (c : Int)⟩, (d : Int), (e : Int)⟩, _⟩ hpre hwf X hT hG hk hK
    (simp -implicitDefEqProofs only [go_sem, Prod.eta, Option.isSome_none, Option.isSome_some, Int.toNat_zero, Nat.reduceAdd, Nat.reduceMul, Nat.reduceSub, Nat.reduceEqDiff, Nat.reduceLT, Nat.reduceLeDiff, Nat.reduceShiftRight, Nat.reduceMod, Nat.reduceBEq, reduceCtorEq, reduceIte, reduceDIte, Int.reduceNeg, Bool.not_eq_true', Bool.not_eq_false', Bool.or_eq_true, Bool.or_eq_false_iff, Bool.and_eq_true, Bool.and_eq_false_iff, decide_eq_true_eq, decide_eq_false_iff_not, Classical.not_not, not_or, maxLen, con64, con63, con84, hT, hG, hk, hK, Try.results64] at hwf ⊢); (try simp (disch := decide +kernel) only [drawn, true_and, and_true])
    unfold okPc
    generalize okPl (a, b, c) = q1
    generalize inV d 1 999 = q2
    generalize inV e 0 4 = q3
    cases q1 <;> cases q2 <;> cases q3 <;> simp)
def con65 : Con := con64
theorem c65 : CtrOk Try.prog 65 con65.ctr :=
  con_sound (G := ⟨[(85, con85.ctr)], [], [], []⟩) tab_ok (EnvOk.cons c85 has85 EnvOk.nil) rfl Try.func65 rfl con65 7 (by kernel_rfl) (by decide) (by decide) rfl (by decide) rfl (by
    rintro ⟨⟨⟨(a : Int), (b : Int), (c : Int)⟩, (d : Int), (e : Int)⟩, _⟩ hpre hwf X hT hG hk hK
    (simp -implicitDefEqProofs only [go_sem, Prod.eta, Option.isSome_none, Option.isSome_some, Int.toNat_zero, Nat.reduceAdd, Nat.reduceMul, Nat.reduceSub, Nat.reduceEqDiff, Nat.reduceLT, Nat.reduceLeDiff, Nat.reduceShiftRight, Nat.reduceMod, Nat.reduceBEq, reduceCtorEq, reduceIte, reduceDIte, Int.reduceNeg, Bool.not_eq_true', Bool.not_eq_false', Bool.or_eq_true, Bool.or_eq_false_iff, Bool.and_eq_true, Bool.and_eq_false_iff, decide_eq_true_eq, decide_eq_false_iff_not, Classical.not_not, not_or, maxLen, con65, con64, con85, con84, hT, hG, hk, hK, Try.results65] at hwf ⊢); (try simp (disch := decide +kernel) only [drawn, true_and, and_true])
    unfold okPc inV
    generalize okPl (a, b, c) = q1
    rw [Bool.eq_iff_iff]
    cases q1 <;> simp only [Bool.and_eq_true, decide_eq_true_eq, Bool.false_eq_true, false_and, true_and] <;> (try omega))
def con42 : Con := { ps := [.d true (.pair (.int .i64) (.pair (.int .i64) (.pair (.int .i64) (.pair (.int .i64) (.pair (.int .i64) (.pair (.pair (.int .i64) (.pair (.int .i64) (.int .i64))) (.pair (.int .i64) (.int .i64))))))))], rs := [.d false .bool], pre := fun _ => True, out := fun (x : Opn × Unit) => (okOp x.1, ()), nw := id }
theorem c42 : CtrOk Try.prog 42 con42.ctr :=
  con_sound (G := ⟨[(63, con63.ctr), (64, con64.ctr)], [], [], []⟩) tab_ok (EnvOk.cons c63 has63 (EnvOk.cons c64 has64 EnvOk.nil)) rfl Try.func42 rfl con42 262151 (by kernel_rfl) (by decide) (by decide) rfl (by decide) rfl (by
    rintro ⟨⟨(a : Int), (b : Int), (c : Int), (d : Int), (e : Int), ⟨(f1 : Int), (f2 : Int), (f3 : Int)⟩, (f4 : Int), (f5 : Int)⟩, _⟩ hpre hwf X hT hG hk hK
    (simp -implicitDefEqProofs only [go_sem, Prod.eta, Option.isSome_none, Option.isSome_some, Int.toNat_zero, Nat.reduceAdd, Nat.reduceMul, Nat.reduceSub, Nat.reduceEqDiff, Nat.reduceLT, Nat.reduceLeDiff, Nat.reduceShiftRight, Nat.reduceMod, Nat.reduceBEq, reduceCtorEq, reduceIte, reduceDIte, Int.reduceNeg, Bool.not_eq_true', Bool.not_eq_false', Bool.or_eq_true, Bool.or_eq_false_iff, Bool.and_eq_true, Bool.and_eq_false_iff, decide_eq_true_eq, decide_eq_false_iff_not, Classical.not_not, not_or, maxLen, con42, con63, con64, hT, hG, hk, hK, Try.results42] at hwf ⊢); (try simp (disch := decide +kernel) only [drawn, true_and, and_true])
    unfold okOp
    dsimp only
    clear hwf hpre hT hG hk hK
    generalize inV a 0 1048576 = q1
    generalize inV b 1 6 = q2
    generalize inV c 1 1048576 = q3
    generalize decide (d = 1) = q4
    generalize decide (d = 2) = q5
    generalize inV e 1 999 = q6
    generalize okPc ((f1, f2, f3), f4, f5) = q7
    revert q1 q2 q3 q4 q5 q6 q7
    decide)
def con43 : Con := con42
theorem c43 : CtrOk Try.prog 43 con43.ctr :=
  con_sound (G := ⟨[(65, con65.ctr)], [], [], []⟩) tab_ok (EnvOk.cons c65 has65 EnvOk.nil) rfl Try.func43 rfl con43 7 (by kernel_rfl) (by decide) (by decide) rfl (by decide) rfl (by
    rintro ⟨⟨(a : Int), (b : Int), (c : Int), (d : Int), (e : Int), ⟨(f1 : Int), (f2 : Int), (f3 : Int)⟩, (f4 : Int), (f5 : Int)⟩, _⟩ hpre hwf X hT hG hk hK
    (simp -implicitDefEqProofs only [go_sem, Prod.eta, Option.isSome_none, Option.isSome_some, Int.toNat_zero, Nat.reduceAdd, Nat.reduceMul, Nat.reduceSub, Nat.reduceEqDiff, Nat.reduceLT, Nat.reduceLeDiff, Nat.reduceShiftRight, Nat.reduceMod, Nat.reduceBEq, reduceCtorEq, reduceIte, reduceDIte, Int.reduceNeg, Bool.not_eq_true', Bool.not_eq_false', Bool.or_eq_true, Bool.or_eq_false_iff, Bool.and_eq_true, Bool.and_eq_false_iff, decide_eq_true_eq, decide_eq_false_iff_not, Classical.not_not, not_or, maxLen, con43, con42, con65, con64, hT, hG, hk, hK, Try.results43] at hwf ⊢); (try simp (disch := decide +kernel) only [drawn, true_and, and_true])
    unfold okOp inV
    dsimp only
    refine ⟨fun h => ⟨h, fun h2 => ⟨h, h2⟩⟩, ?_⟩
    generalize okPc ((f1, f2, f3), f4, f5) = q
    rw [Bool.eq_iff_iff]
    cases q <;> simp only [Bool.and_eq_true, Bool.or_eq_true, decide_eq_true_eq, Bool.false_eq_true, and_false, and_true] <;> (try omega))
def bfV (a b : Opn) : Bool := decide (a.1 < b.1 ∨ a.1 = b.1 ∧ (a.2.1 < b.2.1 ∨ a.2.1 = b.2.1 ∧ a.2.2.1 < b.2.2.1))
def con16 : Con := { ps := [.d true (.pair (.int .i64) (.pair (.int .i64) (.pair (.int .i64) (.pair (.int .i64) (.pair (.int .i64) (.pair (.pair (.int .i64) (.pair (.int .i64) (.int .i64))) (.pair (.int .i64) (.int .i64)))))))), .d true (.pair (.int .i64) (.pair (.int .i64) (.pair (.int .i64) (.pair (.int .i64) (.pair (.int .i64) (.pair (.pair (.int .i64) (.pair (.int .i64) (.int .i64))) (.pair (.int .i64) (.int .i64))))))))], rs := [.d false .bool], pre := fun _ => True, out := fun (x : Opn × Opn × Unit) => (bfV x.1 x.2.1, ()), nw := id }
theorem c16 : CtrOk Try.prog 16 con16.ctr :=
  con_sound (G := ⟨[], [], [], []⟩) tab_ok EnvOk.nil rfl Try.func16 rfl con16 524831 (by kernel_rfl) (by decide) (by decide) rfl (by decide) rfl (by
    rintro ⟨⟨(a : Int), (b : Int), (c : Int), (d : Int), (e : Int), ⟨(f1 : Int), (f2 : Int), (f3 : Int)⟩, (f4 : Int), (f5 : Int)⟩, ⟨(a' : Int), (b' : Int), (c' : Int), (d' : Int), (e' : Int), ⟨(f1' : Int), (f2' : Int), (f3' : Int)⟩, (f4' : Int), (f5' : Int)⟩, _⟩ hpre hwf X hT hG hk hK
    (simp -implicitDefEqProofs only [go_sem, Prod.eta, Option.isSome_none, Option.isSome_some, Int.toNat_zero, Nat.reduceAdd, Nat.reduceMul, Nat.reduceSub, Nat.reduceEqDiff, Nat.reduceLT, Nat.reduceLeDiff, Nat.reduceShiftRight, Nat.reduceMod, Nat.reduceBEq, reduceCtorEq, reduceIte, reduceDIte, Int.reduceNeg, Bool.not_eq_true', Bool.not_eq_false', Bool.or_eq_true, Bool.or_eq_false_iff, Bool.and_eq_true, Bool.and_eq_false_iff, decide_eq_true_eq, decide_eq_false_iff_not, Classical.not_not, not_or, maxLen, con16, hT, hG, hk, hK, Try.results16] at hwf ⊢); (try simp (disch := decide +kernel) only [drawn, true_and, and_true])
    unfold bfV
    (repeat' (with_reducible (first | refine And.intro ?_ ?_ | intro _))) <;> (try (first | with_reducible (first | done | assumption | omega | contradiction) | decide))
    all_goals (dsimp only; rw [decide_eq_decide]; omega))
def cmpO (a b : Opn) : Int := orV [cmpV a.1 b.1, cmpV a.2.1 b.2.1, cmpV a.2.2.1 b.2.2.1]
def con44 : Con := { ps := [.d true (.pair (.int .i64) (.pair (.int .i64) (.pair (.int .i64) (.pair (.int .i64) (.pair (.int .i64) (.pair (.pair (.int .i64) (.pair (.int .i64) (.int .i64))) (.pair (.int .i64) (.int .i64)))))))), .d true (.pair (.int .i64) (.pair (.int .i64) (.pair (.int .i64) (.pair (.int .i64) (.pair (.int .i64) (.pair (.pair (.int .i64) (.pair (.int .i64) (.int .i64))) (.pair (.int .i64) (.int .i64))))))))], rs := [.d false (.int .i64)], pre := fun _ => True, out := fun (x : Opn × Opn × Unit) => (cmpO x.1 x.2.1, ()), nw := id }
theorem c44 : CtrOk Try.prog 44 con44.ctr :=
  con_sound (G := ⟨[(66, con66.ctr), (67, con67.ctr)], [], [], []⟩) tab_ok (EnvOk.cons c66 has66 (EnvOk.cons c67 has67 EnvOk.nil)) rfl Try.func44 rfl con44 31 (by kernel_rfl) (by decide) (by decide) rfl (by decide) rfl (by
    rintro ⟨⟨(a : Int), (b : Int), (c : Int), (d : Int), (e : Int), ⟨(f1 : Int), (f2 : Int), (f3 : Int)⟩, (f4 : Int), (f5 : Int)⟩, ⟨(a' : Int), (b' : Int), (c' : Int), (d' : Int), (e' : Int), ⟨(f1' : Int), (f2' : Int), (f3' : Int)⟩, (f4' : Int), (f5' : Int)⟩, _⟩ hpre hwf X hT hG hk hK
    (simp -implicitDefEqProofs only [go_sem, Prod.eta, Option.isSome_none, Option.isSome_some, Int.toNat_zero, Nat.reduceAdd, Nat.reduceMul, Nat.reduceSub, Nat.reduceEqDiff, Nat.reduceLT, Nat.reduceLeDiff, Nat.reduceShiftRight, Nat.reduceMod, Nat.reduceBEq, reduceCtorEq, reduceIte, reduceDIte, Int.reduceNeg, Bool.not_eq_true', Bool.not_eq_false', Bool.or_eq_true, Bool.or_eq_false_iff, Bool.and_eq_true, Bool.and_eq_false_iff, decide_eq_true_eq, decide_eq_false_iff_not, Classical.not_not, not_or, maxLen, con44, con66, con67, hT, hG, hk, hK, Try.results44] at hwf ⊢); (try simp (disch := decide +kernel) only [drawn, true_and, and_true])
    (repeat' (with_reducible (first | refine And.intro ?_ ?_ | intro _))) <;> (try (first | with_reducible (first | done | assumption | omega | contradiction) | decide))
    rfl)
def con15 : Con := con16
theorem c15 : CtrOk Try.prog 15 con15.ctr :=
  con_sound (G := ⟨[(44, con44.ctr)], [], [], []⟩) tab_ok (EnvOk.cons c44 has44 EnvOk.nil) rfl Try.func15 rfl con15 31 (by kernel_rfl) (by decide) (by decide) rfl (by decide) rfl (by
    rintro ⟨⟨(a : Int), (b : Int), (c : Int), (d : Int), (e : Int), ⟨(f1 : Int), (f2 : Int), (f3 : Int)⟩, (f4 : Int), (f5 : Int)⟩, ⟨(a' : Int), (b' : Int), (c' : Int), (d' : Int), (e' : Int), ⟨(f1' : Int), (f2' : Int), (f3' : Int)⟩, (f4' : Int), (f5' : Int)⟩, _⟩ hpre hwf X hT hG hk hK
    (simp -implicitDefEqProofs only [go_sem, Prod.eta, Option.isSome_none, Option.isSome_some, Int.toNat_zero, Nat.reduceAdd, Nat.reduceMul, Nat.reduceSub, Nat.reduceEqDiff, Nat.reduceLT, Nat.reduceLeDiff, Nat.reduceShiftRight, Nat.reduceMod, Nat.reduceBEq, reduceCtorEq, reduceIte, reduceDIte, Int.reduceNeg, Bool.not_eq_true', Bool.not_eq_false', Bool.or_eq_true, Bool.or_eq_false_iff, Bool.and_eq_true, Bool.and_eq_false_iff, decide_eq_true_eq, decide_eq_false_iff_not, Classical.not_not, not_or, maxLen, con15, con16, con44, hT, hG, hk, hK, Try.results15] at hwf ⊢); (try simp (disch := decide +kernel) only [drawn, true_and, and_true])
    unfold bfV cmpO cmpV
    simp only [orV]
    rw [Bool.eq_iff_iff]
    simp only [decide_eq_true_eq]
    (repeat' split) <;> omega)
end Go.Proofs.Ythiddcobegnokaa

/- The contracts of both Validate. -/
set_option linter.unusedSimpArgs false
set_option linter.unusedVariables false
set_option maxRecDepth 100000
set_option maxHeartbeats 4000000
namespace Go.Proofs.Ythiddcobegnokaa
open Go.Ev

/-- What is wrong with the operation at a place. -/
def stepErr (l : List Opn) (i : Nat) : Int :=
  if okOp (l.getD i o0) = false then 1 else if 0 < i ∧ bfV (l.getD (i - 1) o0) (l.getD i o0) = false then 9
  else if ∃ k, k < i ∧ (l.getD k o0).2.1 = (l.getD i o0).2.1 ∧ (l.getD i o0).2.2.1 ≤ (l.getD k o0).2.2.1 then 5 else 0
def valV (l : List Opn) : Int := if 360 < l.length then 2 else (((List.range l.length).map (stepErr l)).find? (fun e => decide (e ≠ 0))).getD 0
theorem valV_err {l : List Opn} {i : Nat} (hl : ¬ 360 < l.length) (h : ∀ k, k < i → stepErr l k = 0) (hi : i < l.length) (he : stepErr l i ≠ 0) : valV l = stepErr l i := by
  unfold valV
  rw [if_neg hl]
  have e0 : List.range l.length = List.range i ++ (i :: (List.range l.length).drop (i + 1)) :=
    (List.take_append_drop i (List.range l.length)).symm.trans (by rw [List.take_range, Nat.min_eq_left (by omega), List.drop_eq_getElem_cons (i := i) (by simpa using hi), List.getElem_range])
  obtain ⟨D, hD⟩ : ∃ D, (List.range l.length).drop (i + 1) = D := ⟨_, rfl⟩
  rw [hD] at e0
  have e : (List.range l.length).map (stepErr l) = (List.range i).map (stepErr l) ++ (stepErr l i :: D.map (stepErr l)) := by
    rw [e0, List.map_append, List.map_cons]
  rw [e, List.find?_append]
  have e2 : ((List.range i).map (stepErr l)).find? (fun e => decide (e ≠ 0)) = none := by
    rw [List.find?_eq_none]
    intro x hx
    obtain ⟨k, hk, rfl⟩ := List.mem_map.1 hx
    rw [h k (List.mem_range.1 hk)]
    simp
  rw [e2]
  simp [he]
theorem valV_ok {l : List Opn} (hl : ¬ 360 < l.length) (h : ∀ k, k < l.length → stepErr l k = 0) : valV l = 0 := by
  unfold valV
  rw [if_neg hl]
  have e2 : ((List.range l.length).map (stepErr l)).find? (fun e => decide (e ≠ 0)) = none := by
    rw [List.find?_eq_none]
    intro x hx
    obtain ⟨k, hk, rfl⟩ := List.mem_map.1 hx
    rw [h k (List.mem_range.1 hk)]
    simp
  rw [e2]; rfl
/-- The last number of a device. -/
def lastU (l : List Opn) : Nat → Int → Int
  | 0, _ => 0
  | i + 1, d => if (l.getD i o0).2.1 = d then (l.getD i o0).2.2.1 else lastU l i d
theorem stepErr_zero {l : List Opn} {i : Nat} (h : stepErr l i = 0) : okOp (l.getD i o0) = true ∧ (0 < i → bfV (l.getD (i - 1) o0) (l.getD i o0) = true) ∧ ∀ k, k < i → (l.getD k o0).2.1 = (l.getD i o0).2.1 → (l.getD k o0).2.2.1 < (l.getD i o0).2.2.1 := by
  unfold stepErr at h
  split at h
  · omega
  · rename_i h1
    split at h
    · omega
    · rename_i h2
      split at h
      · omega
      · rename_i h3
        refine ⟨by simpa using h1, fun hi => ?_, fun k hk hd => ?_⟩
        · cases hb : bfV (l.getD (i - 1) o0) (l.getD i o0) with
          | true => rfl
          | false => exact absurd ⟨hi, hb⟩ h2
        · exact Int.not_le.1 fun hle => h3 ⟨k, hk, hd, hle⟩
theorem okOp_bd {o : Opn} (h : okOp o = true) : (0 ≤ o.1 ∧ o.1 ≤ 1048576) ∧ (1 ≤ o.2.1 ∧ o.2.1 ≤ 6) ∧ (1 ≤ o.2.2.1 ∧ o.2.2.1 ≤ 1048576) := by
  unfold okOp inV at h
  simp only [Bool.and_eq_true, decide_eq_true_eq] at h
  omega
theorem lastU_spec {l : List Opn} : ∀ {i : Nat} {d s : Int}, (∀ k, k < i → stepErr l k = 0) → 1 ≤ s → ((∃ k, k < i ∧ (l.getD k o0).2.1 = d ∧ s ≤ (l.getD k o0).2.2.1) ↔ s ≤ lastU l i d)
  | 0, d, s, _, hs => ⟨fun ⟨k, hk, _⟩ => by omega, fun h => by simp only [lastU] at h; omega⟩
  | i + 1, d, s, h, hs => by
    have ih := lastU_spec (l := l) (i := i) (d := d) (s := s) (fun k hk => h k (by omega)) hs
    obtain ⟨_, _, h3⟩ := stepErr_zero (h i (by omega))
    simp only [lastU]
    split
    · rename_i hd
      constructor
      · rintro ⟨k, hk, h1, h2⟩
        by_cases e : k = i
        · subst e; exact h2
        · have := h3 k (by omega) (h1.trans hd.symm)
          omega
      · exact fun hl => ⟨i, by omega, hd, hl⟩
    · rename_i hd
      rw [← ih]
      constructor
      · rintro ⟨k, hk, h1, h2⟩
        by_cases e : k = i
        · subst e; exact absurd h1 hd
        · exact ⟨k, by omega, h1, h2⟩
      · rintro ⟨k, hk, h1, h2⟩
        exact ⟨k, by omega, h1, h2⟩
def lastA (l : List Opn) (i : Nat) : List Int := (List.range 7).map (fun (d : Nat) => lastU l i (d : Int))
theorem lastA_len (l : List Opn) (i : Nat) : (lastA l i).length = 7 := by unfold lastA; rw [List.length_map, List.length_range]
theorem lastA_zero (l : List Opn) : List.replicate 7 0 = lastA l 0 := by unfold lastA; simp [List.range, List.range.loop, lastU, List.replicate]
theorem lastA_at (l : List Opn) (i : Nat) {d : Int} (h0 : 0 ≤ d) (h6 : d < 7) (z : Int) : (lastA l i).getD d.toNat z = lastU l i d := by
  unfold lastA
  have hd : d.toNat < 7 := by omega
  rw [List.getD_eq_getElem?_getD, List.getElem?_map, List.getElem?_range hd]
  show lastU l i (d.toNat : Int) = _
  congr 1; omega
theorem lastA_set (l : List Opn) (i : Nat) {d : Int} (h0 : 0 ≤ d) (h6 : d < 7) (hd : (l.getD i o0).2.1 = d) : (lastA l i).set d.toNat (l.getD i o0).2.2.1 = lastA l (i + 1) := by
  unfold lastA
  refine List.ext_getElem (by simp) fun k h1 h2 => ?_
  rw [List.getElem_set]
  simp only [List.getElem_map, List.getElem_range, lastU]
  by_cases e : d.toNat = k
  · rw [if_pos e, if_pos (by omega)]
  · rw [if_neg e, if_neg (by omega)]
theorem stepErr_1 {l : List Opn} {i : Nat} (h : okOp (l.getD i o0) = false) : stepErr l i = 1 := by unfold stepErr; rw [if_pos h]
theorem stepErr_9 {l : List Opn} {i : Nat} (h : okOp (l.getD i o0) = true) (hi : 0 < i) (hb : bfV (l.getD (i - 1) o0) (l.getD i o0) = false) : stepErr l i = 9 := by
  unfold stepErr; rw [if_neg (by rw [h]; exact fun q => by cases q), if_pos ⟨hi, hb⟩]
theorem stepErr_5 {l : List Opn} {i : Nat} (h : okOp (l.getD i o0) = true) (hb : 0 < i → bfV (l.getD (i - 1) o0) (l.getD i o0) = true) (he : ∃ k, k < i ∧ (l.getD k o0).2.1 = (l.getD i o0).2.1 ∧ (l.getD i o0).2.2.1 ≤ (l.getD k o0).2.2.1) : stepErr l i = 5 := by
  unfold stepErr; rw [if_neg (by rw [h]; exact fun q => by cases q), if_neg (fun q => by rw [hb q.1] at q; cases q.2), if_pos he]
theorem stepErr_0 {l : List Opn} {i : Nat} (h : okOp (l.getD i o0) = true) (hb : 0 < i → bfV (l.getD (i - 1) o0) (l.getD i o0) = true) (he : ¬ ∃ k, k < i ∧ (l.getD k o0).2.1 = (l.getD i o0).2.1 ∧ (l.getD i o0).2.2.1 ≤ (l.getD k o0).2.2.1) : stepErr l i = 0 := by
  unfold stepErr; rw [if_neg (by rw [h]; exact fun q => by cases q), if_neg (fun q => by rw [hb q.1] at q; cases q.2), if_neg he]
def con13 : Con := { ps := [.d false (.sl (.pair (.int .i64) (.pair (.int .i64) (.pair (.int .i64) (.pair (.int .i64) (.pair (.int .i64) (.pair (.pair (.int .i64) (.pair (.int .i64) (.int .i64))) (.pair (.int .i64) (.int .i64)))))))))], rs := [.d false (.int .i64)], pre := fun _ => True, out := fun (x : List Opn × Unit) => (valV x.1, ()), nw := id }
theorem c13 : CtrOk Try.prog 13 con13.ctr :=
  con_sound (G := ⟨[(15, con15.ctr), (42, con42.ctr)], [], [], []⟩) tab_ok (EnvOk.cons c15 has15 (EnvOk.cons c42 has42 EnvOk.nil)) rfl Try.func13 rfl con13 138512965437 (by kernel_rfl) (by decide) (by decide) rfl (by decide) rfl (by
    rintro ⟨(l : List Opn), _⟩ hpre hwf X hT hG hk hK
    (simp -implicitDefEqProofs only [go_sem, Prod.eta, Option.isSome_none, Option.isSome_some, Int.toNat_zero, Nat.reduceAdd, Nat.reduceMul, Nat.reduceSub, Nat.reduceEqDiff, Nat.reduceLT, Nat.reduceLeDiff, Nat.reduceShiftRight, Nat.reduceMod, Nat.reduceBEq, reduceCtorEq, reduceIte, reduceDIte, Int.reduceNeg, Bool.not_eq_true', Bool.not_eq_false', Bool.or_eq_true, Bool.or_eq_false_iff, Bool.and_eq_true, Bool.and_eq_false_iff, decide_eq_true_eq, decide_eq_false_iff_not, Classical.not_not, not_or, maxLen, con13, con15, con16, con42, hT, hG, hk, hK, Try.results13] at hwf ⊢); (try simp (disch := decide +kernel) only [drawn, true_and, and_true])
    refine fun _ => ⟨fun h => ?_, fun h _ => ?_⟩
    · unfold valV; rw [if_pos (by omega)]
    · have hl : ¬ 360 < l.length := by omega
      refine evk_loop ⟨{ i : Nat // i ≤ l.length ∧ ∀ k, k < i → stepErr l k = 0 }, 1000, fun i => [(0, .one (.sl (.pair (.int .i64) (.pair (.int .i64) (.pair (.int .i64) (.pair (.int .i64) (.pair (.int .i64) (.pair (.pair (.int .i64) (.pair (.int .i64) (.int .i64))) (.pair (.int .i64) (.int .i64)))))))) l false)), (2, .one (.int .i64 0)), (3, .one (.ep 70 1 0 0)), (9, .one (.sl (.pair (.int .i64) (.pair (.int .i64) (.pair (.int .i64) (.pair (.int .i64) (.pair (.int .i64) (.pair (.pair (.int .i64) (.pair (.int .i64) (.int .i64))) (.pair (.int .i64) (.int .i64)))))))) l false)), (10, .one (.int .i64 l.length)), (11, .one (.int .i64 i.1))], fun i => [(70, .row 79 (.int .i64) (lastA l i.1))], fun i => l.length - i.1⟩ ⟨0, by omega, fun k hk => by omega⟩ ?_ ?_
      · simp only [go_sem, Prod.eta, Option.isSome_none, Option.isSome_some, Int.toNat_zero, Nat.reduceAdd, Nat.reduceMul, Nat.reduceSub, Nat.reduceEqDiff, Nat.reduceLT, Nat.reduceLeDiff, Nat.reduceShiftRight, Nat.reduceMod, Nat.reduceBEq, reduceCtorEq, reduceIte, reduceDIte, Int.reduceNeg]
        exact ⟨lastA_zero l, rfl⟩
      · rintro ⟨i, (hi : i ≤ l.length), (hz : ∀ k, k < i → stepErr l k = 0)⟩
        have he := valV_err (i := i) hl hz
        (simp -implicitDefEqProofs only [go_sem, Prod.eta, Option.isSome_none, Option.isSome_some, Int.toNat_zero, Nat.reduceAdd, Nat.reduceMul, Nat.reduceSub, Nat.reduceEqDiff, Nat.reduceLT, Nat.reduceLeDiff, Nat.reduceShiftRight, Nat.reduceMod, Nat.reduceBEq, reduceCtorEq, reduceIte, reduceDIte, Int.reduceNeg, Bool.not_eq_true', Bool.not_eq_false', Bool.or_eq_true, Bool.or_eq_false_iff, Bool.and_eq_true, Bool.and_eq_false_iff, decide_eq_true_eq, decide_eq_false_iff_not, Classical.not_not, not_or, maxLen, con13, con15, con16, con42, hT, hG, hk, hK, Try.results13]); (try simp (disch := decide +kernel) only [drawn, true_and, and_true])
        obtain ⟨o, ho⟩ : ∃ o, l.getD i o0 = o := ⟨_, rfl⟩
        obtain ⟨p, hp⟩ : ∃ p, l.getD (i - 1) o0 = p := ⟨_, rfl⟩
        have eo : l.getD (i : Int).toNat (0, 0, 0, 0, 0, (0, 0, 0), 0, 0) = o := ho
        have ep : l.getD ((i : Int) - 1).toNat (0, 0, 0, 0, 0, (0, 0, 0), 0, 0) = p := by rw [show ((i : Int) - 1).toNat = i - 1 by omega]; exact hp
        rw [eo, ep]
        simp only [lastA_len]
        refine ⟨fun hlt => ⟨⟨by omega, by omega⟩, fun _ _ => ⟨fun h1 => ?_, fun h1 => ?_⟩⟩, fun hge => ?_⟩
        · have hs : stepErr l i = 1 := stepErr_1 (ho ▸ h1)
          rw [he (by omega) (by omega), hs]
        · have hbd := okOp_bd h1
          refine ⟨fun _ => ⟨by omega, by omega⟩, fun _ => ⟨by omega, by omega⟩, fun _ _ => ⟨fun hb => ?_, fun hb => ?_⟩⟩
          · have hs : stepErr l i = 9 := stepErr_9 (ho ▸ h1) (by omega) (by rw [hp, ho]; exact hb.2)
            rw [he (by omega) (by omega), hs]
          · have hb' : 0 < i → bfV (l.getD (i - 1) o0) (l.getD i o0) = true := fun hi0 => by
              rw [hp, ho]
              rcases hb with hb | hb
              · omega
              · exact hb
            have hsp := lastU_spec (l := l) (i := i) (d := o.2.1) (s := o.2.2.1) hz (by omega)
            simp only [lastA_at l i (show 0 ≤ o.2.1 by omega) (show o.2.1 < 7 by omega)]
            refine ⟨⟨by omega, by omega⟩, fun _ => ⟨⟨by omega, by omega⟩, fun _ => ⟨fun hle => ?_, fun hnl => ⟨⟨by omega, by omega⟩, fun _ => ⟨⟨by omega, by omega⟩, ⟨by omega, by omega⟩, ?_⟩⟩⟩⟩⟩
            · have hs : stepErr l i = 5 := stepErr_5 (ho ▸ h1) hb' (by rw [ho]; exact hsp.2 hle)
              rw [he (by omega) (by omega), hs]
            · have hs : stepErr l i = 0 := stepErr_0 (ho ▸ h1) hb' (by rw [ho]; exact fun q => hnl (hsp.1 q))
              have hset := lastA_set l i (d := o.2.1) (by omega) (by omega) (by rw [ho])
              rw [ho] at hset
              refine fin_lp ⟨i + 1, by omega, fun k hk => ?_⟩ ?_ (by dsimp only; omega)
              · by_cases e : k = i
                · subst e; exact hs
                · exact hz k (by omega)
              · simp only [go_sem, Prod.eta, Option.isSome_none, Option.isSome_some, Int.toNat_zero, Nat.reduceAdd, Nat.reduceMul, Nat.reduceSub, Nat.reduceEqDiff, Nat.reduceLT, Nat.reduceLeDiff, Nat.reduceShiftRight, Nat.reduceMod, Nat.reduceBEq, reduceCtorEq, reduceIte, reduceDIte, Int.reduceNeg]
                rw [hset]
                exact ⟨rfl, by omega⟩
        · rw [valV_ok hl (fun k hk => hz k (by omega))])
def con14 : Con := con13
theorem c14 : CtrOk Try.prog 14 con14.ctr :=
  con_sound (G := ⟨[(16, con16.ctr), (43, con43.ctr)], [], [], []⟩) tab_ok (EnvOk.cons c16 has16 (EnvOk.cons c43 has43 EnvOk.nil)) rfl Try.func14 rfl con14 9223372191474124957 (by kernel_rfl) (by decide) (by decide) rfl (by decide) rfl (by
    rintro ⟨(l : List Opn), _⟩ hpre hwf X hT hG hk hK
    (simp -implicitDefEqProofs only [go_sem, Prod.eta, Option.isSome_none, Option.isSome_some, Int.toNat_zero, Nat.reduceAdd, Nat.reduceMul, Nat.reduceSub, Nat.reduceEqDiff, Nat.reduceLT, Nat.reduceLeDiff, Nat.reduceShiftRight, Nat.reduceMod, Nat.reduceBEq, reduceCtorEq, reduceIte, reduceDIte, Int.reduceNeg, Bool.not_eq_true', Bool.not_eq_false', Bool.or_eq_true, Bool.or_eq_false_iff, Bool.and_eq_true, Bool.and_eq_false_iff, decide_eq_true_eq, decide_eq_false_iff_not, Classical.not_not, not_or, maxLen, con14, con13, con16, con43, con42, hT, hG, hk, hK, Try.results14] at hwf ⊢); (try simp (disch := decide +kernel) only [drawn, true_and, and_true])
    refine fun _ => ⟨fun h => ?_, fun h => ?_⟩
    · unfold valV; rw [if_pos (by omega)]
    · have hl : ¬ 360 < l.length := by omega
      refine evk_loop ⟨{ i : Nat // i ≤ l.length ∧ ∀ k, k < i → stepErr l k = 0 }, 1000, fun i => [(0, .one (.sl (.pair (.int .i64) (.pair (.int .i64) (.pair (.int .i64) (.pair (.int .i64) (.pair (.int .i64) (.pair (.pair (.int .i64) (.pair (.int .i64) (.int .i64))) (.pair (.int .i64) (.int .i64)))))))) l false)), (2, .one (.int .i64 0)), (3, .one (.int .i64 i.1))], fun i => [], fun i => l.length - i.1⟩ ⟨0, by omega, fun k hk => by omega⟩ ?_ ?_
      · simp only [go_sem, Prod.eta, Option.isSome_none, Option.isSome_some, Int.toNat_zero, Nat.reduceAdd, Nat.reduceMul, Nat.reduceSub, Nat.reduceEqDiff, Nat.reduceLT, Nat.reduceLeDiff, Nat.reduceShiftRight, Nat.reduceMod, Nat.reduceBEq, reduceCtorEq, reduceIte, reduceDIte, Int.reduceNeg]
        rfl
      · rintro ⟨i, (hi : i ≤ l.length), (hz : ∀ k, k < i → stepErr l k = 0)⟩
        have he := valV_err (i := i) hl hz
        (simp -implicitDefEqProofs only [go_sem, Prod.eta, Option.isSome_none, Option.isSome_some, Int.toNat_zero, Nat.reduceAdd, Nat.reduceMul, Nat.reduceSub, Nat.reduceEqDiff, Nat.reduceLT, Nat.reduceLeDiff, Nat.reduceShiftRight, Nat.reduceMod, Nat.reduceBEq, reduceCtorEq, reduceIte, reduceDIte, Int.reduceNeg, Bool.not_eq_true', Bool.not_eq_false', Bool.or_eq_true, Bool.or_eq_false_iff, Bool.and_eq_true, Bool.and_eq_false_iff, decide_eq_true_eq, decide_eq_false_iff_not, Classical.not_not, not_or, maxLen, con14, con13, con16, con43, con42, hT, hG, hk, hK, Try.results14]); (try simp (disch := decide +kernel) only [drawn, true_and, and_true])
        obtain ⟨o, ho⟩ : ∃ o, l.getD i o0 = o := ⟨_, rfl⟩
        obtain ⟨p, hp⟩ : ∃ p, l.getD (i - 1) o0 = p := ⟨_, rfl⟩
        have eo : l.getD (i : Int).toNat (0, 0, 0, 0, 0, (0, 0, 0), 0, 0) = o := ho
        have ep : l.getD ((i : Int) - 1).toNat (0, 0, 0, 0, 0, (0, 0, 0), 0, 0) = p := by rw [show ((i : Int) - 1).toNat = i - 1 by omega]; exact hp
        rw [eo, ep]
        refine fun _ => ⟨fun hlt => ⟨⟨by omega, by omega⟩, fun _ _ => ⟨fun h1 => ?_, fun h1 => ?_⟩⟩, fun hge => ?_⟩
        · have hs : stepErr l i = 1 := stepErr_1 (ho ▸ h1)
          rw [he (by omega) (by omega), hs]
        · have hbd := okOp_bd h1
          refine ⟨fun _ => ⟨by omega, by omega⟩, fun _ => ⟨by omega, by omega⟩, fun _ _ => ⟨fun _ => ⟨by omega, by omega⟩, fun _ _ => ⟨fun hb => ?_, fun hb => ?_⟩⟩⟩
          · have hs : stepErr l i = 9 := stepErr_9 (ho ▸ h1) (by omega) (by rw [hp, ho]; exact hb.2)
            rw [he (by omega) (by omega), hs]
          · have hb' : 0 < i → bfV (l.getD (i - 1) o0) (l.getD i o0) = true := fun hi0 => by
              rw [hp, ho]
              rcases hb with hb | hb
              · omega
              · exact hb
            refine evk_loop ⟨{ k : Nat // k ≤ i ∧ ∀ q, q < k → ¬ ((l.getD q o0).2.1 = o.2.1 ∧ o.2.2.1 ≤ (l.getD q o0).2.2.1) }, 2000, fun k => [(0, .one (.sl (.pair (.int .i64) (.pair (.int .i64) (.pair (.int .i64) (.pair (.int .i64) (.pair (.int .i64) (.pair (.pair (.int .i64) (.pair (.int .i64) (.int .i64))) (.pair (.int .i64) (.int .i64)))))))) l false)), (2, .one (.int .i64 0)), (3, .one (.int .i64 i)), (4, .one (.int .i64 k.1))], fun k => [], fun k => i - k.1⟩ ⟨0, by omega, fun k hk => by omega⟩ ?_ ?_
            · simp only [go_sem, Prod.eta, Option.isSome_none, Option.isSome_some, Int.toNat_zero, Nat.reduceAdd, Nat.reduceMul, Nat.reduceSub, Nat.reduceEqDiff, Nat.reduceLT, Nat.reduceLeDiff, Nat.reduceShiftRight, Nat.reduceMod, Nat.reduceBEq, reduceCtorEq, reduceIte, reduceDIte, Int.reduceNeg]
              rfl
            · rintro ⟨k, (hki : k ≤ i), (hkz : ∀ q, q < k → ¬ ((l.getD q o0).2.1 = o.2.1 ∧ o.2.2.1 ≤ (l.getD q o0).2.2.1))⟩
              (simp -implicitDefEqProofs only [go_sem, Prod.eta, Option.isSome_none, Option.isSome_some, Int.toNat_zero, Nat.reduceAdd, Nat.reduceMul, Nat.reduceSub, Nat.reduceEqDiff, Nat.reduceLT, Nat.reduceLeDiff, Nat.reduceShiftRight, Nat.reduceMod, Nat.reduceBEq, reduceCtorEq, reduceIte, reduceDIte, Int.reduceNeg, Bool.not_eq_true', Bool.not_eq_false', Bool.or_eq_true, Bool.or_eq_false_iff, Bool.and_eq_true, Bool.and_eq_false_iff, decide_eq_true_eq, decide_eq_false_iff_not, Classical.not_not, not_or, maxLen, con14, con13, con16, con43, con42, hT, hG, hk, hK, Try.results14]); (try simp (disch := decide +kernel) only [drawn, true_and, and_true])
              obtain ⟨u, hu⟩ : ∃ u, l.getD k o0 = u := ⟨_, rfl⟩
              have eu : l.getD (k : Int).toNat (0, 0, 0, 0, 0, (0, 0, 0), 0, 0) = u := hu
              rw [eo, eu]
              (repeat' (with_reducible (first | refine And.intro ?_ ?_ | intro _))) <;> (try (first | with_reducible (first | done | assumption | omega | contradiction) | decide))
              · have hc : u.2.1 = o.2.1 ∧ o.2.2.1 ≤ u.2.2.1 := by assumption
                have hs : stepErr l i = 5 := stepErr_5 (ho ▸ h1) hb' ⟨k, by omega, by rw [hu, ho]; exact hc⟩
                rw [he (by omega) (by omega), hs]
              · have hc : ¬ u.2.1 = o.2.1 ∨ ¬ o.2.2.1 ≤ u.2.2.1 := by assumption
                refine fin_lp ⟨k + 1, by omega, fun q hq => ?_⟩ ?_ (by dsimp only; omega)
                · by_cases e : q = k
                  · subst e; rw [hu]; exact fun hh => hc.elim (fun x => x hh.1) (fun x => x hh.2)
                  · exact hkz q (by omega)
                · simp only [go_sem, Prod.eta, Option.isSome_none, Option.isSome_some, Int.toNat_zero, Nat.reduceAdd, Nat.reduceMul, Nat.reduceSub, Nat.reduceEqDiff, Nat.reduceLT, Nat.reduceLeDiff, Nat.reduceShiftRight, Nat.reduceMod, Nat.reduceBEq, reduceCtorEq, reduceIte, reduceDIte, Int.reduceNeg]
                  and_intros <;> first | rfl | omega
              · have hs : stepErr l i = 0 := stepErr_0 (ho ▸ h1) hb' (by rw [ho]; exact fun ⟨q, hq, hh⟩ => hkz q (by omega) hh)
                refine fin_lp ⟨i + 1, by omega, fun q hq => ?_⟩ ?_ (by dsimp only; omega)
                · by_cases e : q = i
                  · subst e; exact hs
                  · exact hz q (by omega)
                · simp only [go_sem, Prod.eta, Option.isSome_none, Option.isSome_some, Int.toNat_zero, Nat.reduceAdd, Nat.reduceMul, Nat.reduceSub, Nat.reduceEqDiff, Nat.reduceLT, Nat.reduceLeDiff, Nat.reduceShiftRight, Nat.reduceMod, Nat.reduceBEq, reduceCtorEq, reduceIte, reduceDIte, Int.reduceNeg]
                  and_intros <;> first | rfl | omega
        · rw [valV_ok hl (fun k hk => hz k (by omega))])
end Go.Proofs.Ythiddcobegnokaa
