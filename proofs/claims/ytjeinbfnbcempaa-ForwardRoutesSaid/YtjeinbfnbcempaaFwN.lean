/- Check: the contracts of the program's function and of the reference's. -/
import Derived.Test.YtjeinbfnbcempaaFwIToK
import Derived.Sort.Walk0
set_option linter.unusedSimpArgs false
set_option linter.unusedVariables false
set_option maxRecDepth 100000
set_option maxHeartbeats 4000000
namespace Go.Proofs.Ytjeinbfnbcempaa
open Go.Ev

def indV (l : List Svc) (xs : List Int) : Bool := xs.all fun i => inV i 0 ((l.length : Int) - 1)
theorem indV_take {l : List Svc} {xs : List Int} {i : Nat} (hi : i < xs.length) (h : inV (xs.getD i 0) 0 ((l.length : Int) - 1) = false) : indV l xs = false := by
  cases hh : indV l xs with
  | false => rfl
  | true =>
    have := List.all_eq_true.1 hh xs[i] (List.getElem_mem hi)
    rw [List.getD_eq_getElem?_getD, List.getElem?_eq_getElem hi] at h
    simp only [Option.getD_some] at h
    rw [h] at this; cases this
theorem indV_all {l : List Svc} {xs : List Int} (h : ∀ j, j < xs.length → inV (xs.getD j 0) 0 ((l.length : Int) - 1) = true) : indV l xs = true := by
  refine List.all_eq_true.2 fun x hx => ?_
  obtain ⟨j, hj, rfl⟩ := List.getElem_of_mem hx
  have := h j hj
  rw [List.getD_eq_getElem?_getD, List.getElem?_eq_getElem hj] at this
  exact this
theorem indV_bd {l : List Svc} {xs : List Int} (h : indV l xs = true) : ∀ i ∈ xs, 0 ≤ i ∧ i < l.length := fun i hi => by
  have := List.all_eq_true.1 h i hi
  unfold inV at this
  simp only [Bool.and_eq_true, decide_eq_true_eq] at this
  omega
def con51 : Con := { ps := [.d false (.sl (.pair (.pair .str (.pair (.int .i64) (.pair .str (.int .i64)))) (.pair .str (.pair .str (.pair (.int .i64) (.pair (.int .i64) (.int .i64))))))), .d true (.pair (.sl (.int .i64)) (.sl (.pair .str (.int .i64))))], rs := [.d false .bool], pre := fun (x : List Svc × Itn × Unit) => True, out := fun (x : List Svc × Itn × Unit) => (indV x.1 x.2.1.1, ()), nw := id }
theorem c51 : CtrOk Try.prog 51 con51.ctr :=
  con_sound (G := ⟨[(60, con60.ctr)], [], [], []⟩) tab_ok (EnvOk.cons c60 has60 EnvOk.nil) rfl Try.func51 rfl con51 528219 (by kernel_rfl) (by decide) (by decide) rfl (by decide) rfl (by
    rintro ⟨(l : List Svc), ⟨(xs : List Int), (lb : List Lbl)⟩, _⟩ hpre hwf X hT hG hk hK
    (simp -implicitDefEqProofs only [go_sem, Prod.eta, Option.isSome_none, Option.isSome_some, Int.toNat_zero, Nat.reduceAdd, Nat.reduceMul, Nat.reduceSub, Nat.reduceEqDiff, Nat.reduceLT, Nat.reduceLeDiff, Nat.reduceShiftRight, Nat.reduceMod, Nat.reduceBEq, reduceCtorEq, reduceIte, reduceDIte, Int.reduceNeg, Bool.not_eq_true', Bool.not_eq_false', Bool.or_eq_true, Bool.or_eq_false_iff, Bool.and_eq_true, Bool.and_eq_false_iff, decide_eq_true_eq, decide_eq_false_iff_not, Classical.not_not, not_or, maxLen, con51, con60, hT, hG, hk, hK, Try.results51] at hwf ⊢); (try simp (disch := decide +kernel) only [drawn, true_and, and_true])
    refine fun _ => ?_
    refine evk_loop ⟨{ i : Nat // i ≤ xs.length ∧ ∀ j, j < i → inV (xs.getD j 0) 0 ((l.length : Int) - 1) = true }, 1000, fun q => [(0, .one (.sl (.pair (.pair .str (.pair (.int .i64) (.pair .str (.int .i64)))) (.pair .str (.pair .str (.pair (.int .i64) (.pair (.int .i64) (.int .i64)))))) l false)), (8, .one (.sl (.int .i64) xs false)), (9, .one (.int .i64 xs.length)), (10, .one (.int .i64 q.1))], fun q => [], fun q => xs.length - q.1⟩ ⟨0, by omega, fun j hj => by omega⟩ ?_ ?_
    · simp only [go_sem, Prod.eta, Option.isSome_none, Option.isSome_some, Int.toNat_zero, Nat.reduceAdd, Nat.reduceMul, Nat.reduceSub, Nat.reduceEqDiff, Nat.reduceLT, Nat.reduceLeDiff, Nat.reduceShiftRight, Nat.reduceMod, Nat.reduceBEq, reduceCtorEq, reduceIte, reduceDIte, Int.reduceNeg]
      try (first | rfl | exact ⟨rfl, rfl⟩)
    · rintro ⟨i, (hi : i ≤ xs.length), (hb : ∀ j, j < i → inV (xs.getD j 0) 0 ((l.length : Int) - 1) = true)⟩
      (simp -implicitDefEqProofs only [go_sem, Prod.eta, Option.isSome_none, Option.isSome_some, Int.toNat_zero, Nat.reduceAdd, Nat.reduceMul, Nat.reduceSub, Nat.reduceEqDiff, Nat.reduceLT, Nat.reduceLeDiff, Nat.reduceShiftRight, Nat.reduceMod, Nat.reduceBEq, reduceCtorEq, reduceIte, reduceDIte, Int.reduceNeg, Bool.not_eq_true', Bool.not_eq_false', Bool.or_eq_true, Bool.or_eq_false_iff, Bool.and_eq_true, Bool.and_eq_false_iff, decide_eq_true_eq, decide_eq_false_iff_not, Classical.not_not, not_or, maxLen, con51, con60, hT, hG, hk, hK, Try.results51]); (try simp (disch := decide +kernel) only [drawn, true_and, and_true])
      have hiN : (i : Int).toNat = i := by omega
      simp only [hiN]
      refine ⟨fun hlt => ⟨by omega, fun _ _ _ => ⟨by omega, fun hv => ?_, fun hv => ⟨by omega, ?_⟩⟩⟩, fun hge => ?_⟩
      · exact (indV_take (by omega) hv).symm
      · refine fin_lp ⟨i + 1, by omega, fun j hj => ?_⟩ ?_ (by dsimp only; omega)
        · by_cases e : j = i
          · subst e; exact hv
          · exact hb j (by omega)
        · simp only [go_sem, Prod.eta, Option.isSome_none, Option.isSome_some, Int.toNat_zero, Nat.reduceAdd, Nat.reduceMul, Nat.reduceSub, Nat.reduceEqDiff, Nat.reduceLT, Nat.reduceLeDiff, Nat.reduceShiftRight, Nat.reduceMod, Nat.reduceBEq, reduceCtorEq, reduceIte, reduceDIte, Int.reduceNeg]
          try (first | rfl | exact ⟨rfl, rfl⟩ | (and_intros <;> first | rfl | omega))
      · exact (indV_all (fun j hj => hb j (by omega))).symm)
def con52 : Con := { ps := [.d false (.sl (.pair (.pair .str (.pair (.int .i64) (.pair .str (.int .i64)))) (.pair .str (.pair .str (.pair (.int .i64) (.pair (.int .i64) (.int .i64))))))), .d false (.sl (.int .i64)), .d false .str, .d false .str, .d false (.int .i64), .d false (.int .i64)], rs := [.d false (.int .i64), .d false .bool], pre := fun (x : List Svc × List Int × ByteArray × ByteArray × Int × Int × Unit) => ArgOk x.1 x.2.2.2.2.1 x.2.2.2.2.2.1 ∧ ∀ i ∈ x.2.1, 0 ≤ i ∧ i < x.1.length, out := fun (x : List Svc × List Int × ByteArray × ByteArray × Int × Int × Unit) => ((arrV x.1 x.2.2.1 x.2.2.2.1 x.2.2.2.2.1 x.2.2.2.2.2.1 x.2.1).1, (arrV x.1 x.2.2.1 x.2.2.2.1 x.2.2.2.2.1 x.2.2.2.2.2.1 x.2.1).2, ()), nw := id }
theorem c52 : CtrOk Try.prog 52 con52.ctr :=
  con_sound (G := ⟨[], [], [], []⟩) tab_ok EnvOk.nil rfl Try.func52 rfl con52 4503634051067967 (by kernel_rfl) (by decide) (by decide) rfl (by decide) rfl (by
    rintro ⟨(l : List Svc), (xs : List Int), (f : ByteArray), (t : ByteArray), (r : Int), (n : Int), _⟩ hpre hwf X hT hG hk hK
    obtain ⟨hA, hx⟩ : ArgOk l r n ∧ ∀ i ∈ xs, 0 ≤ i ∧ i < l.length := hpre
    (simp -implicitDefEqProofs only [go_sem, Prod.eta, Option.isSome_none, Option.isSome_some, Int.toNat_zero, Nat.reduceAdd, Nat.reduceMul, Nat.reduceSub, Nat.reduceEqDiff, Nat.reduceLT, Nat.reduceLeDiff, Nat.reduceShiftRight, Nat.reduceMod, Nat.reduceBEq, reduceCtorEq, reduceIte, reduceDIte, Int.reduceNeg, Bool.not_eq_true', Bool.not_eq_false', Bool.or_eq_true, Bool.or_eq_false_iff, Bool.and_eq_true, Bool.and_eq_false_iff, decide_eq_true_eq, decide_eq_false_iff_not, Classical.not_not, not_or, maxLen, con52, hT, hG, hk, hK, Try.results52] at hwf ⊢); (try simp (disch := decide +kernel) only [drawn, true_and, and_true])
    refine fun _ => ?_
    refine evk_loop ⟨{ q : Nat × ByteArray × Int // q.1 ≤ xs.length ∧ 0 ≤ q.2.2 ∧ q.2.2 ≤ 1048576 ∧ (q.1 = 0 → q.2 = (f, r)) ∧ goV l n true f r xs = goV l n (decide (q.1 = 0)) q.2.1 q.2.2 (xs.drop q.1) }, 1000, fun q => [(0, .one (.sl (.pair (.pair .str (.pair (.int .i64) (.pair .str (.int .i64)))) (.pair .str (.pair .str (.pair (.int .i64) (.pair (.int .i64) (.int .i64)))))) l false)), (3, .one (.str t)), (5, .one (.int .i64 n)), (14, .one (.str q.1.2.1)), (15, .one (.int .i64 q.1.2.2)), (22, .one (.sl (.int .i64) xs false)), (23, .one (.int .i64 xs.length)), (24, .one (.int .i64 q.1.1))], fun q => [], fun q => xs.length - q.1.1⟩ ⟨(0, f, r), Nat.zero_le _, hA.r0, hA.r1, fun _ => rfl, rfl⟩ ?_ ?_
    · simp only [go_sem, Prod.eta, Option.isSome_none, Option.isSome_some, Int.toNat_zero, Nat.reduceAdd, Nat.reduceMul, Nat.reduceSub, Nat.reduceEqDiff, Nat.reduceLT, Nat.reduceLeDiff, Nat.reduceShiftRight, Nat.reduceMod, Nat.reduceBEq, reduceCtorEq, reduceIte, reduceDIte, Int.reduceNeg]
      try (first | rfl | exact ⟨rfl, rfl⟩ | (and_intros <;> first | rfl | omega))
    · rintro ⟨⟨i, p, tm⟩, (hi : i ≤ xs.length), (ht0 : 0 ≤ tm), (ht1 : tm ≤ 1048576), (h0 : i = 0 → (p, tm) = (f, r)), (hg : goV l n true f r xs = goV l n (decide (i = 0)) p tm (xs.drop i))⟩
      (simp -implicitDefEqProofs only [go_sem, Prod.eta, Option.isSome_none, Option.isSome_some, Int.toNat_zero, Nat.reduceAdd, Nat.reduceMul, Nat.reduceSub, Nat.reduceEqDiff, Nat.reduceLT, Nat.reduceLeDiff, Nat.reduceShiftRight, Nat.reduceMod, Nat.reduceBEq, reduceCtorEq, reduceIte, reduceDIte, Int.reduceNeg, Bool.not_eq_true', Bool.not_eq_false', Bool.or_eq_true, Bool.or_eq_false_iff, Bool.and_eq_true, Bool.and_eq_false_iff, decide_eq_true_eq, decide_eq_false_iff_not, Classical.not_not, not_or, maxLen, con52, hT, hG, hk, hK, Try.results52]); (try simp (disch := decide +kernel) only [drawn, true_and, and_true])
      have hiN : ((i : Int)).toNat = i := by omega
      obtain ⟨k, hk0⟩ : ∃ k, xs.getD i 0 = k := ⟨_, rfl⟩
      obtain ⟨s, hs⟩ : ∃ s, l.getD k.toNat (((ByteArray.empty, 0, ByteArray.empty, 0), ByteArray.empty, ByteArray.empty, 0, 0, 0) : Svc) = s := ⟨_, rfl⟩
      simp only [hiN, hk0, hs]
      have hgs : i < xs.length → goV l n (decide (i = 0)) p tm (xs.drop i) = if stepOk s p (tm + if i = 0 then 0 else n) = true then goV l n false s.2.2.1 s.2.2.2.2.1 (xs.drop (i + 1)) else none := fun h => by
        rw [List.drop_eq_getElem_cons h, goV]
        have e1 : xs[i] = k := by rw [← hk0]; simp [h]
        have e2 : l.getD k.toNat sv0 = s := hs
        rw [e1, e2]
        simp only [decide_eq_true_eq]
      have hn0 := hA.n0
      have hn1 := hA.n1
      have hsv : i < xs.length → (0 ≤ k ∧ k < l.length) ∧ svOk s = true := fun h => by
        have e1 : xs[i] = k := by rw [← hk0]; simp [h]
        have h1 := hx k (by rw [← e1]; exact List.getElem_mem h)
        exact ⟨h1, by have := (get_sv hA (i := k.toNat) (by omega)).1; rwa [show l.getD k.toNat sv0 = s from hs] at this⟩
      have hst : stepOk s p (tm + if i = 0 then 0 else n) = true ↔ (1 ≤ s.2.2.2.2.2 ∧ s.2.1 = p) ∧ tm + (if i = 0 then 0 else n) ≤ s.2.2.2.1 := by
        unfold stepOk; simp only [Bool.and_eq_true, decide_eq_true_eq]
      refine ⟨fun hlt => ?_, fun hge => ?_⟩
      · have hlt' : i < xs.length := by omega
        obtain ⟨hkb, hsk⟩ := hsv hlt'
        have hbd := svOk_bd hsk
        rw [hgs hlt'] at hg
        have hno : ∀ w : Int, w = (if i = 0 then 0 else n) → (¬ s.2.1 = p ∨ s.2.2.2.2.2 < 1) ∨ s.2.2.2.1 < tm + w → arrV l f t r n xs = (0, false) := fun w hw h => by
          have hn : ¬ stepOk s p (tm + if i = 0 then 0 else n) = true := fun q => by
            rw [hst, ← hw] at q
            obtain ⟨⟨q1, q2⟩, q3⟩ := q
            rcases h with (h | h) | h
            · exact h q2
            · omega
            · omega
          rw [if_neg hn] at hg
          unfold arrV
          rw [hg]
        have hyes : ∀ w : Int, w = (if i = 0 then 0 else n) → (s.2.1 = p ∧ ¬ s.2.2.2.2.2 < 1) ∧ ¬ s.2.2.2.1 < tm + w → goV l n true f r xs = goV l n false s.2.2.1 s.2.2.2.2.1 (xs.drop (i + 1)) := fun w hw h => by
          rw [hg, if_pos]
          rw [hst, ← hw]
          exact ⟨⟨by omega, h.1.1⟩, by omega⟩
        refine ⟨by omega, fun _ _ => ⟨hkb, fun _ _ => ⟨fun h0 => ⟨fun _ => by omega, fun h => ?_, fun h => ⟨by omega, ?_⟩⟩, fun h0 => ⟨fun _ => by omega, fun h => ?_, fun h => ⟨by omega, ?_⟩⟩⟩⟩⟩
        · rw [hno 0 (by rw [if_pos (by omega)]) h]; exact ⟨rfl, rfl⟩
        · refine fin_lp ⟨(i + 1, s.2.2.1, s.2.2.2.2.1), by dsimp only; omega, by dsimp only; omega, by dsimp only; omega, fun q => by simp at q, ?_⟩ ?_ ?_
          · dsimp only
            rw [hyes 0 (by rw [if_pos (by omega)]) h, decide_eq_false (by omega : ¬ i + 1 = 0)]
          · simp only [go_sem, Prod.eta, Option.isSome_none, Option.isSome_some, Int.toNat_zero, Nat.reduceAdd, Nat.reduceMul, Nat.reduceSub, Nat.reduceEqDiff, Nat.reduceLT, Nat.reduceLeDiff, Nat.reduceShiftRight, Nat.reduceMod, Nat.reduceBEq, reduceCtorEq, reduceIte, reduceDIte, Int.reduceNeg]
            try (first | rfl | exact ⟨rfl, rfl⟩ | (and_intros <;> first | rfl | omega))
          · dsimp only; omega
        · rw [hno n (by rw [if_neg (by omega)]) h]; exact ⟨rfl, rfl⟩
        · refine fin_lp ⟨(i + 1, s.2.2.1, s.2.2.2.2.1), by dsimp only; omega, by dsimp only; omega, by dsimp only; omega, fun q => by simp at q, ?_⟩ ?_ ?_
          · dsimp only
            rw [hyes n (by rw [if_neg (by omega)]) h, decide_eq_false (by omega : ¬ i + 1 = 0)]
          · simp only [go_sem, Prod.eta, Option.isSome_none, Option.isSome_some, Int.toNat_zero, Nat.reduceAdd, Nat.reduceMul, Nat.reduceSub, Nat.reduceEqDiff, Nat.reduceLT, Nat.reduceLeDiff, Nat.reduceShiftRight, Nat.reduceMod, Nat.reduceBEq, reduceCtorEq, reduceIte, reduceDIte, Int.reduceNeg]
            try (first | rfl | exact ⟨rfl, rfl⟩ | (and_intros <;> first | rfl | omega))
          · dsimp only; omega
      · rw [List.drop_eq_nil_of_le (by omega), goV] at hg
        unfold arrV
        rw [hg]
        exact ⟨rfl, rfl⟩)
def usV (s : Svc) (lb : List Lbl) (f : ByteArray) (n : Int) : Bool := match labV lb s.2.1 with
  | some t => takV s f n t
  | none => false
def con49 : Con := { ps := [.d true (.pair (.pair .str (.pair (.int .i64) (.pair .str (.int .i64)))) (.pair .str (.pair .str (.pair (.int .i64) (.pair (.int .i64) (.int .i64)))))), .d false (.sl (.pair .str (.int .i64))), .d false .str, .d false (.int .i64)], rs := [.d false .bool], pre := fun (x : Svc × List Lbl × ByteArray × Int × Unit) => svOk x.1 = true ∧ 0 ≤ x.2.2.2.1 ∧ x.2.2.2.1 ≤ 1048576, out := fun (x : Svc × List Lbl × ByteArray × Int × Unit) => (usV x.1 x.2.1 x.2.2.1 x.2.2.2.1, ()), nw := id }
theorem c49 : CtrOk Try.prog 49 con49.ctr :=
  con_sound (G := ⟨[(22, con22.ctr)], [], [], []⟩) tab_ok (EnvOk.cons c22 has22 EnvOk.nil) rfl Try.func49 rfl con49 285214495 (by kernel_rfl) (by decide) (by decide) rfl (by decide) rfl (by
    rintro ⟨⟨⟨a1, (a2 : Int), a3, (a4 : Int)⟩, f, t, (L : Int), (A : Int), (R : Int)⟩, (lb : List Lbl), (p : ByteArray), (n : Int), _⟩ hpre hwf X hT hG hk hK
    obtain ⟨h1, h2, h3⟩ := hpre
    have hb := svOk_bd h1
    dsimp only at hb h2 h3
    (simp -implicitDefEqProofs only [go_sem, Prod.eta, Option.isSome_none, Option.isSome_some, Int.toNat_zero, Nat.reduceAdd, Nat.reduceMul, Nat.reduceSub, Nat.reduceEqDiff, Nat.reduceLT, Nat.reduceLeDiff, Nat.reduceShiftRight, Nat.reduceMod, Nat.reduceBEq, reduceCtorEq, reduceIte, reduceDIte, Int.reduceNeg, Bool.not_eq_true', Bool.not_eq_false', Bool.or_eq_true, Bool.or_eq_false_iff, Bool.and_eq_true, Bool.and_eq_false_iff, decide_eq_true_eq, decide_eq_false_iff_not, Classical.not_not, not_or, maxLen, con49, con22, hT, hG, hk, hK, Try.results49] at hwf ⊢); (try simp (disch := decide +kernel) only [drawn, true_and, and_true])
    unfold usV takV
    dsimp only
    refine fun _ => ⟨fun h => ?_, fun ⟨h, h4⟩ => ⟨fun hf => ?_, fun hf => ⟨by omega, ?_⟩⟩⟩
    · cases hv : labV lb f with
      | none => rfl
      | some v =>
        rw [hv] at h
        rcases h with h | h
        · cases h
        · have e : decide (1 ≤ R) = false := decide_eq_false (by omega)
          simp only [e, Bool.false_and]
    · obtain ⟨v, hv⟩ := Option.isSome_iff_exists.1 h
      have e : decide (1 ≤ R) = true := decide_eq_true (by omega)
      simp only [hv, e, Bool.true_and, if_pos hf, Option.getD_some, ge_iff_le]
    · obtain ⟨v, hv⟩ := Option.isSome_iff_exists.1 h
      have e : decide (1 ≤ R) = true := decide_eq_true (by omega)
      simp only [hv, e, Bool.true_and, if_neg hf, Option.getD_some, ge_iff_le])
def badS (s : Svc) (lb : List Lbl) (f : ByteArray) (n : Int) : Bool := usV s lb f n && (match labV lb s.2.2.1 with
  | some t => decide (s.2.2.2.2.1 < t)
  | none => true)
theorem badS_yes {s : Svc} {lb : List Lbl} {f : ByteArray} {n : Int} (hu : usV s lb f n = true) (h : (labV lb s.2.2.1).isSome = false ∨ (labV lb s.2.2.1).getD 0 > s.2.2.2.2.1) : badS s lb f n = true := by
  unfold badS
  rw [hu, Bool.true_and]
  cases hv : labV lb s.2.2.1 with
  | none => rfl
  | some v =>
    rw [hv] at h
    rcases h with h | h
    · cases h
    · exact decide_eq_true h
theorem badS_no {s : Svc} {lb : List Lbl} {f : ByteArray} {n : Int} (h : (labV lb s.2.2.1).isSome = true ∧ ¬ (labV lb s.2.2.1).getD 0 > s.2.2.2.2.1) : badS s lb f n = false := by
  unfold badS
  obtain ⟨v, hv⟩ := Option.isSome_iff_exists.1 h.1
  rw [hv] at h
  rw [hv]
  have e : decide (s.2.2.2.2.1 < v) = false := decide_eq_false h.2
  simp only [e, Bool.and_false]
theorem usV_no {s : Svc} {lb : List Lbl} {f : ByteArray} {n : Int} (h : (labV lb s.2.1).isSome = false ∨ takV s f n ((labV lb s.2.1).getD 0) = false) : usV s lb f n = false := by
  unfold usV
  cases hv : labV lb s.2.1 with
  | none => rfl
  | some v =>
    rw [hv] at h
    rcases h with h | h
    · cases h
    · exact h
theorem usV_yes {s : Svc} {lb : List Lbl} {f : ByteArray} {n : Int} (h : (labV lb s.2.1).isSome = true ∧ takV s f n ((labV lb s.2.1).getD 0) = true) : usV s lb f n = true := by
  unfold usV
  obtain ⟨v, hv⟩ := Option.isSome_iff_exists.1 h.1
  rw [hv] at h
  rw [hv]
  exact h.2
def pAt (lb : List Lbl) (i : Nat) : ByteArray := (lb.getD i (ByteArray.empty, 0)).1
def ordAt (lb : List Lbl) (i : Nat) : Bool := !(strLt (pAt lb i) (pAt lb (i - 1)) || decide (pAt lb i = pAt lb (i - 1)))
def ordV (lb : List Lbl) : Bool := (List.range lb.length).all fun i => decide (i = 0) || ordAt lb i
def chkV2 (l : List Svc) (f t : ByteArray) (r n arr : Int) (lb : List Lbl) : Int :=
  if (labV lb f).isSome = false ∨ (labV lb t).isSome = false then 6 else
  if (labV lb f).getD 0 ≠ r ∨ (labV lb t).getD 0 ≠ arr then 12 else
  if l.any (fun s => badS s lb f n) = true then 11 else 0
def chkV1 (l : List Svc) (f t : ByteArray) (r n : Int) (x : Itn) : Int :=
  if (arrV l f t r n x.1).2 = false then 7 else
  if ordV x.2 = false then 9 else chkV2 l f t r n (arrV l f t r n x.1).1 x.2
def chkV (l : List Svc) (f t : ByteArray) (r n : Int) (x : Itn) : Int :=
  if argsV l f t r n ≠ 0 then argsV l f t r n else
  if indV l x.1 = false then 1 else
  chkV1 l f t r n x
theorem ordV_bad {lb : List Lbl} {i : Nat} (hi : i < lb.length) (h0 : i ≠ 0) (h : ordAt lb i = false) : ordV lb = false := by
  cases hh : ordV lb with
  | false => rfl
  | true =>
    have := List.all_eq_true.1 hh i (List.mem_range.2 hi)
    rw [h, decide_eq_false h0] at this; cases this
theorem ordV_ok {lb : List Lbl} (h : ∀ j, j < lb.length → j ≠ 0 → ordAt lb j = true) : ordV lb = true := by
  refine List.all_eq_true.2 fun i hi => ?_
  have hi := List.mem_range.1 hi
  by_cases h0 : i = 0
  · rw [decide_eq_true h0]; rfl
  · rw [h i hi h0, Bool.or_true]
theorem ordAt_bad {lb : List Lbl} {i : Nat} (h : strLt (lb.getD i (ByteArray.empty, 0)).1 (lb.getD (i - 1) (ByteArray.empty, 0)).1 = true ∨ (lb.getD i (ByteArray.empty, 0)).1 = (lb.getD (i - 1) (ByteArray.empty, 0)).1) : ordAt lb i = false := by
  unfold ordAt pAt
  rcases h with h | h
  · rw [h]; rfl
  · rw [decide_eq_true h, Bool.or_true]; rfl
theorem ordAt_good {lb : List Lbl} {i : Nat} (h : strLt (lb.getD i (ByteArray.empty, 0)).1 (lb.getD (i - 1) (ByteArray.empty, 0)).1 = false ∧ ¬ (lb.getD i (ByteArray.empty, 0)).1 = (lb.getD (i - 1) (ByteArray.empty, 0)).1) : ordAt lb i = true := by
  unfold ordAt pAt
  rw [h.1, decide_eq_false h.2]; rfl
theorem any_at {l : List Svc} {p : Svc → Bool} {i : Nat} (hi : i < l.length) (h : p (l.getD i sv0) = true) : l.any p = true := by
  rw [List.any_eq_true]
  refine ⟨l.getD i sv0, ?_, h⟩
  have e : l.getD i sv0 = l[i] := by simp [hi]
  rw [e]; exact List.getElem_mem hi
theorem any_no {l : List Svc} {p : Svc → Bool} (h : ∀ j, j < l.length → p (l.getD j sv0) = false) : l.any p = false := by
  cases hh : l.any p with
  | false => rfl
  | true =>
    rw [List.any_eq_true] at hh
    obtain ⟨x, hx, hp⟩ := hh
    obtain ⟨j, hj, rfl⟩ := List.getElem_of_mem hx
    have := h j hj
    rw [show l.getD j sv0 = l[j] by simp [hj], hp] at this; cases this
theorem strLt_iff (a b : ByteArray) : strLt a b = true ↔ a.toList < b.toList := by
  unfold strLt
  rw [Go.Proofs.bytesLess_eq, decide_eq_true_eq]
theorem str_inj {a b : ByteArray} (h : a.toList = b.toList) : a = b := by
  have := bytes_eq a b
  rw [h] at this
  simpa using this.symm
theorem ordAt_lt {lb : List Lbl} {i : Nat} (h : ordAt lb i = true) : (pAt lb (i - 1)).toList < (pAt lb i).toList := by
  unfold ordAt at h
  simp only [Bool.not_eq_true', Bool.or_eq_false_iff, decide_eq_false_iff_not] at h
  have h1 : ¬ (pAt lb i).toList < (pAt lb (i - 1)).toList := fun k => by
    rw [← strLt_iff, h.1] at k; cases k
  rcases List.le_iff_lt_or_eq.1 (List.not_lt.1 h1) with h3 | h3
  · exact h3
  · exact absurd (str_inj h3.symm) h.2
theorem ord_lt {lb : List Lbl} : ∀ (i j : Nat), (∀ k, k < i + 1 → k ≠ 0 → ordAt lb k = true) → j < i → (pAt lb j).toList < (pAt lb i).toList
  | 0, j, _, h => by omega
  | i + 1, j, h, hj => by
    have h1 := ordAt_lt (h (i + 1) (by omega) (by omega))
    rw [Nat.add_sub_cancel] at h1
    by_cases e : j = i
    · subst e; exact h1
    · exact List.lt_trans (ord_lt i j (fun k hk => h k (by omega)) (by omega)) h1
/-- The labels ahead of a place do not name its port. -/
theorem ord_fresh {lb : List Lbl} {i : Nat} (hi : i < lb.length) (h : ∀ k, k < i + 1 → k ≠ 0 → ordAt lb k = true) : ∀ x ∈ lb.take i, x.1 ≠ pAt lb i := by
  intro x hx e
  obtain ⟨j, hj, rfl⟩ := List.getElem_of_mem hx
  simp only [List.length_take] at hj
  have hji : j < i := by omega
  have := ord_lt i j h hji
  rw [← e] at this
  have e2 : pAt lb j = (lb.take i)[j].1 := by
    unfold pAt
    rw [List.getElem_take, List.getD_eq_getElem?_getD, List.getElem?_eq_getElem (by omega)]; rfl
  rw [e2] at this
  exact List.lt_irrefl _ this
theorem labV_snoc {l : List Lbl} {y : Lbl} (p : ByteArray) (h : ∀ x ∈ l, x.1 ≠ y.1) : labV (l ++ [y]) p = if p = y.1 then some y.2 else labV l p := by
  unfold labV
  rw [List.find?_append]
  by_cases e : p = y.1
  · subst e
    rw [List.find?_eq_none.2 (fun x hx => by simpa using h x hx), if_pos rfl]
    simp
  · rw [if_neg e]
    have : [y].find? (fun x => decide (x.1 = p)) = none := by
      rw [List.find?_eq_none]
      intro x hx
      rw [List.mem_singleton.1 hx]
      simpa using fun k => e k.symm
    rw [this, Option.or_none]
theorem mget_mset1 (k p : ByteArray) (v : Int) : ∀ K : List (ByteArray × Int), mget (kt := .str) (mset (kt := .str) K k v) p = if p = k then some v else mget (kt := .str) K p
  | [] => by simp [mset, mget, keyEq]
  | (a, u) :: K => by
    have ih := mget_mset1 k p v K
    simp only [mset, mget, keyEq] at ih ⊢
    by_cases h1 : k = a
    · subst h1
      simp only [decide_true, if_true, mget, keyEq]
      by_cases h2 : p = k <;> simp [h2]
    · simp only [h1, decide_false, Bool.false_eq_true, if_false, mget, keyEq, ih]
      by_cases h2 : p = a
      · subst h2
        have h3 : ¬ p = k := fun e => h1 e.symm
        simp [h3]
      · simp [h2]
def con23 : Con := { ps := [.d false (.sl (.pair (.pair .str (.pair (.int .i64) (.pair .str (.int .i64)))) (.pair .str (.pair .str (.pair (.int .i64) (.pair (.int .i64) (.int .i64))))))), .d false .str, .d false .str, .d false (.int .i64), .d false (.int .i64), .d true (.pair (.sl (.int .i64)) (.sl (.pair .str (.int .i64))))], rs := [.d false (.int .i64)], pre := fun (x : List Svc × ByteArray × ByteArray × Int × Int × Itn × Unit) => True, out := fun (x : List Svc × ByteArray × ByteArray × Int × Int × Itn × Unit) => (chkV x.1 x.2.1 x.2.2.1 x.2.2.2.1 x.2.2.2.2.1 x.2.2.2.2.2.1, ()), nw := id }
theorem c23 : CtrOk Try.prog 23 con23.ctr :=
  con_sound (G := ⟨[(20, con20.ctr), (22, con22.ctr), (26, con26.ctr), (49, con49.ctr)], [], [], []⟩) tab_ok (EnvOk.cons c20 has20 (EnvOk.cons c22 has22 (EnvOk.cons c26 has26 (EnvOk.cons c49 has49 EnvOk.nil)))) rfl Try.func23 rfl con23 45671937058451716192665224693305028488682534975 (by kernel_rfl) (by decide) (by decide) rfl (by decide) rfl (by
    rintro ⟨(l : List Svc), (f : ByteArray), (t : ByteArray), (r : Int), (n : Int), ⟨(xs : List Int), (lb : List Lbl)⟩, _⟩ hpre hwf X hT hG hk hK
    (simp -implicitDefEqProofs only [go_sem, Prod.eta, Option.isSome_none, Option.isSome_some, Int.toNat_zero, Nat.reduceAdd, Nat.reduceMul, Nat.reduceSub, Nat.reduceEqDiff, Nat.reduceLT, Nat.reduceLeDiff, Nat.reduceShiftRight, Nat.reduceMod, Nat.reduceBEq, reduceCtorEq, reduceIte, reduceDIte, Int.reduceNeg, Bool.not_eq_true', Bool.not_eq_false', Bool.or_eq_true, Bool.or_eq_false_iff, Bool.and_eq_true, Bool.and_eq_false_iff, decide_eq_true_eq, decide_eq_false_iff_not, Classical.not_not, not_or, maxLen, con23, con20, con22, con26, con49, hT, hG, hk, hK, Try.results23] at hwf ⊢); (try simp (disch := decide +kernel) only [drawn, true_and, and_true])
    refine fun _ => ⟨fun h => by unfold chkV; rw [if_pos h], fun h => ?_⟩
    obtain ⟨hl, hA, hpf, hpt⟩ := argsV_ok (by simpa using h)
    have hch0 : chkV l f t r n (xs, lb) = if indV l xs = false then 1 else chkV1 l f t r n (xs, lb) := by unfold chkV; rw [if_neg (by simpa using h)]
    refine evk_loop ⟨{ i : Nat // i ≤ xs.length ∧ ∀ j, j < i → inV (xs.getD j 0) 0 ((l.length : Int) - 1) = true }, 1000, fun q => [(0, .one (.sl (.pair (.pair .str (.pair (.int .i64) (.pair .str (.int .i64)))) (.pair .str (.pair .str (.pair (.int .i64) (.pair (.int .i64) (.int .i64)))))) l false)), (1, .one (.str f)), (2, .one (.str t)), (3, .one (.int .i64 r)), (4, .one (.int .i64 n)), (11, .one (.loc 64 0)), (14, .one (.int .i64 q.1))], fun q => [(64, .cells 39 [.sl (.int .i64) xs false, .sl (.pair .str (.int .i64)) lb false])], fun q => xs.length - q.1⟩ ⟨0, by omega, fun j hj => by omega⟩ ?_ ?_
    · simp only [go_sem, Prod.eta, Option.isSome_none, Option.isSome_some, Int.toNat_zero, Nat.reduceAdd, Nat.reduceMul, Nat.reduceSub, Nat.reduceEqDiff, Nat.reduceLT, Nat.reduceLeDiff, Nat.reduceShiftRight, Nat.reduceMod, Nat.reduceBEq, reduceCtorEq, reduceIte, reduceDIte, Int.reduceNeg]
      try (first | rfl | exact ⟨rfl, rfl⟩)
    · rintro ⟨i, (hi : i ≤ xs.length), (hb : ∀ j, j < i → inV (xs.getD j 0) 0 ((l.length : Int) - 1) = true)⟩
      (simp -implicitDefEqProofs only [go_sem, Prod.eta, Option.isSome_none, Option.isSome_some, Int.toNat_zero, Nat.reduceAdd, Nat.reduceMul, Nat.reduceSub, Nat.reduceEqDiff, Nat.reduceLT, Nat.reduceLeDiff, Nat.reduceShiftRight, Nat.reduceMod, Nat.reduceBEq, reduceCtorEq, reduceIte, reduceDIte, Int.reduceNeg, Bool.not_eq_true', Bool.not_eq_false', Bool.or_eq_true, Bool.or_eq_false_iff, Bool.and_eq_true, Bool.and_eq_false_iff, decide_eq_true_eq, decide_eq_false_iff_not, Classical.not_not, not_or, maxLen, con23, con20, con22, con26, con49, hT, hG, hk, hK, Try.results23]); (try simp (disch := decide +kernel) only [drawn, true_and, and_true])
      have hiN : ((i : Int)).toNat = i := by omega
      simp only [hiN]
      refine fun _ => ⟨fun hlt => ⟨by omega, fun _ _ => ⟨fun _ => by omega, fun _ _ _ => ⟨fun hc => ?_, fun hc => ⟨by omega, ?_⟩⟩⟩⟩, fun hge => ?_⟩
      · have hbad : indV l xs = false := indV_take (i := i) (by omega) (by
          unfold inV
          cases hq : (decide (0 ≤ xs.getD i 0) && decide (xs.getD i 0 ≤ (l.length : Int) - 1)) with
          | false => rfl
          | true => simp only [Bool.and_eq_true, decide_eq_true_eq] at hq; omega)
        rw [hch0, if_pos hbad]
      · refine fin_lp ⟨i + 1, by omega, fun j hj => ?_⟩ ?_ (by dsimp only; omega)
        · by_cases e : j = i
          · subst e
            unfold inV
            simp only [Bool.and_eq_true, decide_eq_true_eq]
            omega
          · exact hb j (by omega)
        · simp only [go_sem, Prod.eta, Option.isSome_none, Option.isSome_some, Int.toNat_zero, Nat.reduceAdd, Nat.reduceMul, Nat.reduceSub, Nat.reduceEqDiff, Nat.reduceLT, Nat.reduceLeDiff, Nat.reduceShiftRight, Nat.reduceMod, Nat.reduceBEq, reduceCtorEq, reduceIte, reduceDIte, Int.reduceNeg]
          try (first | rfl | exact ⟨rfl, rfl⟩ | (and_intros <;> first | rfl | omega))
      · have hind : indV l xs = true := indV_all fun j hj => hb j (by omega)
        rw [hind, if_neg (by simp)] at hch0
        refine ⟨⟨hA, indV_bd hind⟩, fun _ => ⟨fun h7 => ?_, fun h7 => ?_⟩⟩
        · rw [hch0]; unfold chkV1; rw [if_pos h7]
        have hch1 : chkV l f t r n (xs, lb) = if ordV lb = false then 9 else chkV2 l f t r n (arrV l f t r n xs).1 lb := by rw [hch0]; unfold chkV1; rw [if_neg (by rw [h7]; simp)]
        clear hch0
        generalize (arrV l f t r n xs).1 = arr at *
        refine evk_loop ⟨{ i : Nat // 1 ≤ i ∧ (i ≤ lb.length ∨ i = 1) ∧ ∀ k, k < i → k ≠ 0 → ordAt lb k = true }, 1000, fun q => [(0, .one (.sl (.pair (.pair .str (.pair (.int .i64) (.pair .str (.int .i64)))) (.pair .str (.pair .str (.pair (.int .i64) (.pair (.int .i64) (.int .i64)))))) l false)), (1, .one (.str f)), (2, .one (.str t)), (3, .one (.int .i64 r)), (4, .one (.int .i64 n)), (11, .one (.loc 64 0)), (15, .one (.int .i64 arr)), (17, .one (.int .i64 q.1))], fun q => [(64, .cells 39 [.sl (.int .i64) xs false, .sl (.pair .str (.int .i64)) lb false])], fun q => lb.length - q.1⟩ ⟨1, by omega, by omega, fun k h1 h2 => by omega⟩ ?_ ?_
        · simp only [go_sem, Prod.eta, Option.isSome_none, Option.isSome_some, Int.toNat_zero, Nat.reduceAdd, Nat.reduceMul, Nat.reduceSub, Nat.reduceEqDiff, Nat.reduceLT, Nat.reduceLeDiff, Nat.reduceShiftRight, Nat.reduceMod, Nat.reduceBEq, reduceCtorEq, reduceIte, reduceDIte, Int.reduceNeg]
          try (first | rfl | exact ⟨rfl, rfl⟩)
        · rintro ⟨i, (hi1 : 1 ≤ i), (hi : i ≤ lb.length ∨ i = 1), (hb : ∀ k, k < i → k ≠ 0 → ordAt lb k = true)⟩
          (simp -implicitDefEqProofs only [go_sem, Prod.eta, Option.isSome_none, Option.isSome_some, Int.toNat_zero, Nat.reduceAdd, Nat.reduceMul, Nat.reduceSub, Nat.reduceEqDiff, Nat.reduceLT, Nat.reduceLeDiff, Nat.reduceShiftRight, Nat.reduceMod, Nat.reduceBEq, reduceCtorEq, reduceIte, reduceDIte, Int.reduceNeg, Bool.not_eq_true', Bool.not_eq_false', Bool.or_eq_true, Bool.or_eq_false_iff, Bool.and_eq_true, Bool.and_eq_false_iff, decide_eq_true_eq, decide_eq_false_iff_not, Classical.not_not, not_or, maxLen, con23, con20, con22, con26, con49, hT, hG, hk, hK, Try.results23]); (try simp (disch := decide +kernel) only [drawn, true_and, and_true])
          have hiN : ((i : Int)).toNat = i := by omega
          have hiM : ((i : Int) - 1).toNat = i - 1 := by omega
          simp only [hiN, hiM]
          refine fun _ => ⟨fun hlt => ⟨by omega, fun _ _ => ⟨by omega, by omega, fun _ _ => ⟨fun hc => ?_, fun hc => ⟨by omega, ?_⟩⟩⟩⟩, fun hge _ => ?_⟩
          · rw [hch1, if_pos (ordV_bad (i := i) (by omega) (by omega) (ordAt_bad hc))]
          · refine fin_lp ⟨i + 1, by omega, by omega, fun k hk h0 => ?_⟩ ?_ (by dsimp only; omega)
            · by_cases e : k = i
              · subst e
                exact ordAt_good hc
              · exact hb k (by omega) h0
            · simp only [go_sem, Prod.eta, Option.isSome_none, Option.isSome_some, Int.toNat_zero, Nat.reduceAdd, Nat.reduceMul, Nat.reduceSub, Nat.reduceEqDiff, Nat.reduceLT, Nat.reduceLeDiff, Nat.reduceShiftRight, Nat.reduceMod, Nat.reduceBEq, reduceCtorEq, reduceIte, reduceDIte, Int.reduceNeg]
              try (first | rfl | exact ⟨rfl, rfl⟩ | (and_intros <;> first | rfl | omega))
          · rw [ordV_ok (fun j hj h0 => hb j (by omega) h0), if_neg (by simp)] at hch1
            refine fun _ => ⟨fun h6 => ?_, fun h6 => ⟨fun h12 => ?_, fun h12 => ?_⟩⟩
            · rw [hch1]; unfold chkV2; rw [if_pos h6]
            · rw [hch1]; unfold chkV2; rw [if_neg (by rw [h6.1, h6.2]; simp), if_pos h12]
            have hch2 : chkV l f t r n (xs, lb) = if l.any (fun s => badS s lb f n) = true then 11 else 0 := by
              rw [hch1]; unfold chkV2; rw [if_neg (by rw [h6.1, h6.2]; simp), if_neg (by rw [h12.1, h12.2]; simp)]
            clear hch1
            refine evk_loop ⟨{ i : Nat // i ≤ l.length ∧ ∀ k, k < i → badS (l.getD k sv0) lb f n = false }, 1000, fun q => [(0, .one (.sl (.pair (.pair .str (.pair (.int .i64) (.pair .str (.int .i64)))) (.pair .str (.pair .str (.pair (.int .i64) (.pair (.int .i64) (.int .i64)))))) l false)), (1, .one (.str f)), (4, .one (.int .i64 n)), (11, .one (.loc 64 0)), (21, .one (.int .i64 q.1))], fun q => [(64, .cells 39 [.sl (.int .i64) xs false, .sl (.pair .str (.int .i64)) lb false])], fun q => l.length - q.1⟩ ⟨0, by omega, fun k h1 => by omega⟩ ?_ ?_
            · simp only [go_sem, Prod.eta, Option.isSome_none, Option.isSome_some, Int.toNat_zero, Nat.reduceAdd, Nat.reduceMul, Nat.reduceSub, Nat.reduceEqDiff, Nat.reduceLT, Nat.reduceLeDiff, Nat.reduceShiftRight, Nat.reduceMod, Nat.reduceBEq, reduceCtorEq, reduceIte, reduceDIte, Int.reduceNeg]
              try (first | rfl | exact ⟨rfl, rfl⟩)
            · rintro ⟨i, (hi : i ≤ l.length), (hb : ∀ k, k < i → badS (l.getD k sv0) lb f n = false)⟩
              (simp -implicitDefEqProofs only [go_sem, Prod.eta, Option.isSome_none, Option.isSome_some, Int.toNat_zero, Nat.reduceAdd, Nat.reduceMul, Nat.reduceSub, Nat.reduceEqDiff, Nat.reduceLT, Nat.reduceLeDiff, Nat.reduceShiftRight, Nat.reduceMod, Nat.reduceBEq, reduceCtorEq, reduceIte, reduceDIte, Int.reduceNeg, Bool.not_eq_true', Bool.not_eq_false', Bool.or_eq_true, Bool.or_eq_false_iff, Bool.and_eq_true, Bool.and_eq_false_iff, decide_eq_true_eq, decide_eq_false_iff_not, Classical.not_not, not_or, maxLen, con23, con20, con22, con26, con49, hT, hG, hk, hK, Try.results23]); (try simp (disch := decide +kernel) only [drawn, true_and, and_true])
              have hiN : ((i : Int)).toNat = i := by omega
              obtain ⟨s, hs⟩ : ∃ s, l.getD i (((ByteArray.empty, 0, ByteArray.empty, 0), ByteArray.empty, ByteArray.empty, 0, 0, 0) : Svc) = s := ⟨_, rfl⟩
              simp only [hiN, hs]
              have hs' : l.getD i sv0 = s := hs
              have hstep : badS s lb f n = false → ∀ k, k < i + 1 → badS (l.getD k sv0) lb f n = false := fun h k hk => by
                by_cases e : k = i
                · subst e; rw [hs']; exact h
                · exact hb k (by omega)
              refine fun _ => ⟨fun hlt => ⟨by omega, fun _ _ => ⟨⟨?_, hA.n0, hA.n1⟩, fun hu => ⟨by omega, ?_⟩, fun hu => ⟨by omega, fun _ _ _ => ⟨fun _ => by omega, fun _ _ => ⟨fun hc => ?_, fun hc => ⟨by omega, ?_⟩⟩⟩⟩⟩⟩, fun hge => ?_⟩
              · rw [← hs']; exact (get_sv hA (by omega)).1
              · refine fin_lp ⟨i + 1, by omega, hstep (by unfold badS; rw [hu]; rfl)⟩ ?_ (by dsimp only; omega)
                simp only [go_sem, Prod.eta, Option.isSome_none, Option.isSome_some, Int.toNat_zero, Nat.reduceAdd, Nat.reduceMul, Nat.reduceSub, Nat.reduceEqDiff, Nat.reduceLT, Nat.reduceLeDiff, Nat.reduceShiftRight, Nat.reduceMod, Nat.reduceBEq, reduceCtorEq, reduceIte, reduceDIte, Int.reduceNeg]
                try (first | rfl | exact ⟨rfl, rfl⟩ | (and_intros <;> first | rfl | omega))
              · rw [hch2, any_at (i := i) (by omega) (by rw [hs']; exact badS_yes hu hc), if_pos rfl]
              · refine fin_lp ⟨i + 1, by omega, hstep (badS_no hc)⟩ ?_ (by dsimp only; omega)
                simp only [go_sem, Prod.eta, Option.isSome_none, Option.isSome_some, Int.toNat_zero, Nat.reduceAdd, Nat.reduceMul, Nat.reduceSub, Nat.reduceEqDiff, Nat.reduceLT, Nat.reduceLeDiff, Nat.reduceShiftRight, Nat.reduceMod, Nat.reduceBEq, reduceCtorEq, reduceIte, reduceDIte, Int.reduceNeg]
                try (first | rfl | exact ⟨rfl, rfl⟩ | (and_intros <;> first | rfl | omega))
              · rw [hch2, any_no (fun j hj => hb j (by omega))]; rfl)
def con30 : Con := { ps := [.d false (.sl (.pair (.pair .str (.pair (.int .i64) (.pair .str (.int .i64)))) (.pair .str (.pair .str (.pair (.int .i64) (.pair (.int .i64) (.int .i64))))))), .d false .str, .d false .str, .d false (.int .i64), .d false (.int .i64), .d true (.pair (.sl (.int .i64)) (.sl (.pair .str (.int .i64))))], rs := [.d false (.int .i64)], pre := fun (x : List Svc × ByteArray × ByteArray × Int × Int × Itn × Unit) => True, out := fun (x : List Svc × ByteArray × ByteArray × Int × Int × Itn × Unit) => (chkV x.1 x.2.1 x.2.2.1 x.2.2.2.1 x.2.2.2.2.1 x.2.2.2.2.2.1, ()), nw := id }
theorem c30 : CtrOk Try.prog 30 con30.ctr :=
  con_sound (G := ⟨[(41, con41.ctr), (51, con51.ctr), (52, con52.ctr), (53, con53.ctr)], [], [], []⟩) tab_ok (EnvOk.cons c41 has41 (EnvOk.cons c51 has51 (EnvOk.cons c52 has52 (EnvOk.cons c53 has53 EnvOk.nil)))) rfl Try.func30 rfl con30 178411406126238405775875191601460783586736191 (by kernel_rfl) (by decide) (by decide) rfl (by decide) rfl (by
    rintro ⟨(l : List Svc), (f : ByteArray), (t : ByteArray), (r : Int), (n : Int), ⟨(xs : List Int), (lb : List Lbl)⟩, _⟩ hpre hwf X hT hG hk hK
    (simp -implicitDefEqProofs only [go_sem, Prod.eta, Option.isSome_none, Option.isSome_some, Int.toNat_zero, Nat.reduceAdd, Nat.reduceMul, Nat.reduceSub, Nat.reduceEqDiff, Nat.reduceLT, Nat.reduceLeDiff, Nat.reduceShiftRight, Nat.reduceMod, Nat.reduceBEq, reduceCtorEq, reduceIte, reduceDIte, Int.reduceNeg, Bool.not_eq_true', Bool.not_eq_false', Bool.or_eq_true, Bool.or_eq_false_iff, Bool.and_eq_true, Bool.and_eq_false_iff, decide_eq_true_eq, decide_eq_false_iff_not, Classical.not_not, not_or, maxLen, con30, con41, con51, con52, con53, hT, hG, hk, hK, Try.results30] at hwf ⊢); (try simp (disch := decide +kernel) only [drawn, true_and, and_true])
    refine fun _ => ⟨fun h => by unfold chkV; rw [if_pos h], fun h => ?_⟩
    obtain ⟨hl, hA, hpf, hpt⟩ := argsV_ok (by simpa using h)
    have hch0 : chkV l f t r n (xs, lb) = if indV l xs = false then 1 else chkV1 l f t r n (xs, lb) := by unfold chkV; rw [if_neg (by simpa using h)]
    refine ⟨fun hb => by rw [hch0, if_pos hb], fun hind => ⟨⟨hA, indV_bd hind⟩, fun _ => ⟨fun h7 => ?_, fun h7 _ => ?_⟩⟩⟩
    · rw [hch0, if_neg (by rw [hind]; simp)]; unfold chkV1; rw [if_pos h7]
    rw [hind, if_neg (by simp)] at hch0
    have hch1 : chkV l f t r n (xs, lb) = if ordV lb = false then 9 else chkV2 l f t r n (arrV l f t r n xs).1 lb := by rw [hch0]; unfold chkV1; rw [if_neg (by rw [h7]; simp)]
    clear hch0
    generalize (arrV l f t r n xs).1 = arr at *
    refine evk_loop ⟨{ q : Nat × List (ByteArray × Int) // q.1 ≤ lb.length ∧ (∀ k, k < q.1 → k ≠ 0 → ordAt lb k = true) ∧ ∀ p, mget (kt := .str) q.2 p = labV (lb.take q.1) p }, 1000, fun q => [(0, .one (.sl (.pair (.pair .str (.pair (.int .i64) (.pair .str (.int .i64)))) (.pair .str (.pair .str (.pair (.int .i64) (.pair (.int .i64) (.int .i64)))))) l false)), (1, .one (.str f)), (2, .one (.str t)), (3, .one (.int .i64 r)), (4, .one (.int .i64 n)), (11, .one (.loc 64 0)), (14, .one (.int .i64 arr)), (16, .one (.map 65)), (57, .one (.sl (.pair .str (.int .i64)) lb false)), (58, .one (.int .i64 lb.length)), (59, .one (.int .i64 q.1.1))], fun q => [(64, .cells 39 [.sl (.int .i64) xs false, .sl (.pair .str (.int .i64)) lb false]), (65, .mapb .str (.int .i64) false false q.1.2)], fun q => lb.length - q.1.1⟩ ⟨(0, []), Nat.zero_le _, fun k h1 h2 => (by simp only at h1; omega), fun p => rfl⟩ ?_ ?_
    · simp only [go_sem, Prod.eta, Option.isSome_none, Option.isSome_some, Int.toNat_zero, Nat.reduceAdd, Nat.reduceMul, Nat.reduceSub, Nat.reduceEqDiff, Nat.reduceLT, Nat.reduceLeDiff, Nat.reduceShiftRight, Nat.reduceMod, Nat.reduceBEq, reduceCtorEq, reduceIte, reduceDIte, Int.reduceNeg]
      try (first | rfl | exact ⟨rfl, rfl⟩)
    · rintro ⟨⟨i, K⟩, (hi : i ≤ lb.length), (hb : ∀ k, k < i → k ≠ 0 → ordAt lb k = true), (hm : ∀ p, mget (kt := .str) K p = labV (lb.take i) p)⟩
      (simp -implicitDefEqProofs only [go_sem, Prod.eta, Option.isSome_none, Option.isSome_some, Int.toNat_zero, Nat.reduceAdd, Nat.reduceMul, Nat.reduceSub, Nat.reduceEqDiff, Nat.reduceLT, Nat.reduceLeDiff, Nat.reduceShiftRight, Nat.reduceMod, Nat.reduceBEq, reduceCtorEq, reduceIte, reduceDIte, Int.reduceNeg, Bool.not_eq_true', Bool.not_eq_false', Bool.or_eq_true, Bool.or_eq_false_iff, Bool.and_eq_true, Bool.and_eq_false_iff, decide_eq_true_eq, decide_eq_false_iff_not, Classical.not_not, not_or, maxLen, con30, con41, con51, con52, con53, hT, hG, hk, hK, Try.results30]); (try simp (disch := decide +kernel) only [drawn, true_and, and_true])
      have hiN : ((i : Int)).toNat = i := by omega
      have hiM : 0 < i → ((i : Int) - 1).toNat = i - 1 := fun h => by omega
      simp only [hiN]
      refine ⟨fun hlt => ⟨by omega, fun _ _ => ⟨fun _ => by omega, fun _ => by omega, fun _ _ => ⟨fun hc => ?_, fun hc => ⟨by omega, ?_⟩⟩⟩⟩, fun hge _ _ => ?_⟩
      · rw [hch1, if_pos (ordV_bad (i := i) (by omega) (by omega) ?_)]
        rw [hiM (by omega)] at hc
        exact ordAt_bad hc.2
      · have hord : ∀ k, k < i + 1 → k ≠ 0 → ordAt lb k = true := fun k hk h0 => by
          by_cases e : k = i
          · subst e
            rw [hiM (by omega)] at hc
            rcases hc with hc | hc
            · omega
            · exact ordAt_good hc
          · exact hb k (by omega) h0
        refine fin_lp ⟨(i + 1, mset (kt := .str) K (lb.getD i (ByteArray.empty, 0)).1 (lb.getD i (ByteArray.empty, 0)).2), by dsimp only; omega, hord, fun p => ?_⟩ ?_ (by dsimp only; omega)
        · dsimp only
          have hil : i < lb.length := by omega
          have e : pAt lb i = lb[i].1 := by unfold pAt; simp [hil]
          have hfr := ord_fresh hil hord
          rw [e] at hfr
          rw [mget_mset1, hm, List.take_succ_eq_append_getElem hil, labV_snoc p hfr]
          have e : lb.getD i (ByteArray.empty, 0) = lb[i] := by simp [hil]
          rw [e]
        · simp only [go_sem, Prod.eta, Option.isSome_none, Option.isSome_some, Int.toNat_zero, Nat.reduceAdd, Nat.reduceMul, Nat.reduceSub, Nat.reduceEqDiff, Nat.reduceLT, Nat.reduceLeDiff, Nat.reduceShiftRight, Nat.reduceMod, Nat.reduceBEq, reduceCtorEq, reduceIte, reduceDIte, Int.reduceNeg]
          try (first | rfl | exact ⟨rfl, rfl⟩ | (and_intros <;> first | rfl | omega))
      · rw [ordV_ok (fun j hj h0 => hb j (by omega) h0), if_neg (by simp)] at hch1
        rw [List.take_of_length_le (by omega)] at hm
        simp only [hm]
        refine ⟨fun h6 => ?_, fun h6 => ⟨fun h12 => ?_, fun h12 _ => ?_⟩⟩
        · rw [hch1]; unfold chkV2; rw [if_pos h6]
        · rw [hch1]; unfold chkV2; rw [if_neg (by rw [h6.1, h6.2]; simp), if_pos h12]
        have hch2 : chkV l f t r n (xs, lb) = if l.any (fun s => badS s lb f n) = true then 11 else 0 := by
          rw [hch1]; unfold chkV2; rw [if_neg (by rw [h6.1, h6.2]; simp), if_neg (by rw [h12.1, h12.2]; simp)]
        clear hch1
        refine evk_loop ⟨{ i : Nat // i ≤ l.length ∧ ∀ k, k < i → badS (l.getD k sv0) lb f n = false }, 1000, fun q => [(0, .one (.sl (.pair (.pair .str (.pair (.int .i64) (.pair .str (.int .i64)))) (.pair .str (.pair .str (.pair (.int .i64) (.pair (.int .i64) (.int .i64)))))) l false)), (1, .one (.str f)), (4, .one (.int .i64 n)), (16, .one (.map 65)), (110, .one (.sl (.pair (.pair .str (.pair (.int .i64) (.pair .str (.int .i64)))) (.pair .str (.pair .str (.pair (.int .i64) (.pair (.int .i64) (.int .i64)))))) l false)), (111, .one (.int .i64 l.length)), (112, .one (.int .i64 q.1))], fun q => [(65, .mapb .str (.int .i64) false false K)], fun q => l.length - q.1⟩ ⟨0, by omega, fun k h1 => by omega⟩ ?_ ?_
        · simp only [go_sem, Prod.eta, Option.isSome_none, Option.isSome_some, Int.toNat_zero, Nat.reduceAdd, Nat.reduceMul, Nat.reduceSub, Nat.reduceEqDiff, Nat.reduceLT, Nat.reduceLeDiff, Nat.reduceShiftRight, Nat.reduceMod, Nat.reduceBEq, reduceCtorEq, reduceIte, reduceDIte, Int.reduceNeg]
          try (first | rfl | exact ⟨rfl, rfl⟩)
        · rintro ⟨i, (hi : i ≤ l.length), (hb : ∀ k, k < i → badS (l.getD k sv0) lb f n = false)⟩
          (simp -implicitDefEqProofs only [go_sem, Prod.eta, Option.isSome_none, Option.isSome_some, Int.toNat_zero, Nat.reduceAdd, Nat.reduceMul, Nat.reduceSub, Nat.reduceEqDiff, Nat.reduceLT, Nat.reduceLeDiff, Nat.reduceShiftRight, Nat.reduceMod, Nat.reduceBEq, reduceCtorEq, reduceIte, reduceDIte, Int.reduceNeg, Bool.not_eq_true', Bool.not_eq_false', Bool.or_eq_true, Bool.or_eq_false_iff, Bool.and_eq_true, Bool.and_eq_false_iff, decide_eq_true_eq, decide_eq_false_iff_not, Classical.not_not, not_or, maxLen, con30, con41, con51, con52, con53, hT, hG, hk, hK, Try.results30]); (try simp (disch := decide +kernel) only [drawn, true_and, and_true])
          have hiN : ((i : Int)).toNat = i := by omega
          obtain ⟨s, hs⟩ : ∃ s, l.getD i (((ByteArray.empty, 0, ByteArray.empty, 0), ByteArray.empty, ByteArray.empty, 0, 0, 0) : Svc) = s := ⟨_, rfl⟩
          simp only [hiN, hs, hm]
          have hs' : l.getD i sv0 = s := hs
          have hstep : badS s lb f n = false → ∀ k, k < i + 1 → badS (l.getD k sv0) lb f n = false := fun h k hk => by
            by_cases e : k = i
            · subst e; rw [hs']; exact h
            · exact hb k (by omega)
          refine ⟨fun hlt => ⟨by omega, fun _ _ _ => ⟨fun _ => ⟨?_, hA.n0, hA.n1⟩, fun hu => ⟨by omega, ?_⟩, fun hu _ => ⟨fun hc => ?_, fun hc => ⟨by omega, ?_⟩⟩⟩⟩, fun hge => ?_⟩
          · rw [← hs']; exact (get_sv hA (by omega)).1
          · refine fin_lp ⟨i + 1, by omega, hstep (by unfold badS; rw [usV_no hu]; rfl)⟩ ?_ (by dsimp only; omega)
            simp only [go_sem, Prod.eta, Option.isSome_none, Option.isSome_some, Int.toNat_zero, Nat.reduceAdd, Nat.reduceMul, Nat.reduceSub, Nat.reduceEqDiff, Nat.reduceLT, Nat.reduceLeDiff, Nat.reduceShiftRight, Nat.reduceMod, Nat.reduceBEq, reduceCtorEq, reduceIte, reduceDIte, Int.reduceNeg]
            try (first | rfl | exact ⟨rfl, rfl⟩ | (and_intros <;> first | rfl | omega))
          · rw [hch2, any_at (i := i) (by omega) (by rw [hs']; exact badS_yes (usV_yes hu) hc), if_pos rfl]
          · refine fin_lp ⟨i + 1, by omega, hstep (badS_no hc)⟩ ?_ (by dsimp only; omega)
            simp only [go_sem, Prod.eta, Option.isSome_none, Option.isSome_some, Int.toNat_zero, Nat.reduceAdd, Nat.reduceMul, Nat.reduceSub, Nat.reduceEqDiff, Nat.reduceLT, Nat.reduceLeDiff, Nat.reduceShiftRight, Nat.reduceMod, Nat.reduceBEq, reduceCtorEq, reduceIte, reduceDIte, Int.reduceNeg]
            try (first | rfl | exact ⟨rfl, rfl⟩ | (and_intros <;> first | rfl | omega))
          · rw [hch2, any_no (fun j hj => hb j (by omega))]; rfl)
end Go.Proofs.Ytjeinbfnbcempaa
