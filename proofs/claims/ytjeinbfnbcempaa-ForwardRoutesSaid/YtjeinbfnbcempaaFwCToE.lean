/- The contracts of the functions that the statements about forwarding reach: services, arguments, labels. -/
import Derived.Test.YtjeinbfnbcempaaFwAToB
set_option linter.unusedSimpArgs false
set_option linter.unusedVariables false
set_option maxRecDepth 100000
set_option maxHeartbeats 4000000
namespace Go.Proofs.Ytjeinbfnbcempaa
open Go.Ev

abbrev Lbl := ByteArray × Int
def portOk (s : ByteArray) : Bool := lettersV s 3 3
def svOk (s : Svc) : Bool := fltOk s.1 && portOk s.2.1 && portOk s.2.2.1 && !decide (s.2.1 = s.2.2.1) && inV s.2.2.2.1 0 1048576 && inV s.2.2.2.2.1 0 1048576 && decide (s.2.2.2.1 < s.2.2.2.2.1) && inV s.2.2.2.2.2 0 999
def con37 : Con := { ps := [.d true (.pair (.pair .str (.pair (.int .i64) (.pair .str (.int .i64)))) (.pair .str (.pair .str (.pair (.int .i64) (.pair (.int .i64) (.int .i64))))))], rs := [.d false .bool], pre := fun _ => True, out := fun (x : Svc × Unit) => (svOk x.1, ()), nw := id }
theorem c37 : CtrOk Try.prog 37 con37.ctr :=
  con_sound (G := ⟨[(58, con58.ctr), (59, con59.ctr), (60, con60.ctr)], [], [], []⟩) tab_ok (EnvOk.cons c58 has58 (EnvOk.cons c59 has59 (EnvOk.cons c60 has60 EnvOk.nil))) rfl Try.func37 rfl con37 33554439 (by kernel_rfl) (by decide) (by decide) rfl (by decide) rfl (by
    rintro ⟨⟨⟨a1, (a2 : Int), a3, (a4 : Int)⟩, f, t, (L : Int), (A : Int), (R : Int)⟩, _⟩ hpre hwf X hT hG hk hK
    (simp -implicitDefEqProofs only [go_sem, Prod.eta, Option.isSome_none, Option.isSome_some, Int.toNat_zero, Nat.reduceAdd, Nat.reduceMul, Nat.reduceSub, Nat.reduceEqDiff, Nat.reduceLT, Nat.reduceLeDiff, Nat.reduceShiftRight, Nat.reduceMod, Nat.reduceBEq, reduceCtorEq, reduceIte, reduceDIte, Int.reduceNeg, Bool.not_eq_true', Bool.not_eq_false', Bool.or_eq_true, Bool.or_eq_false_iff, Bool.and_eq_true, Bool.and_eq_false_iff, decide_eq_true_eq, decide_eq_false_iff_not, Classical.not_not, not_or, maxLen, con37, con58, con59, con60, hT, hG, hk, hK, Try.results37] at hwf ⊢); (try simp (disch := decide +kernel) only [drawn, true_and, and_true])
    unfold svOk portOk
    dsimp only
    generalize fltOk (a1, a2, a3, a4) = b1
    generalize lettersV f 3 3 = b2
    generalize lettersV t 3 3 = b3
    generalize inV L 0 1048576 = b4
    generalize inV A 0 1048576 = b5
    generalize inV R 0 999 = b6
    by_cases e1 : f = t <;> by_cases e2 : L < A <;> cases b1 <;> cases b2 <;> cases b3 <;> cases b4 <;> cases b5 <;> cases b6 <;> simp [e1, e2])
def con38 : Con := { ps := [.d true (.pair (.pair .str (.pair (.int .i64) (.pair .str (.int .i64)))) (.pair .str (.pair .str (.pair (.int .i64) (.pair (.int .i64) (.int .i64))))))], rs := [.d false .bool], pre := fun _ => True, out := fun (x : Svc × Unit) => (svOk x.1, ()), nw := id }
theorem c38 : CtrOk Try.prog 38 con38.ctr :=
  con_sound (G := ⟨[(46, con46.ctr), (61, con61.ctr)], [], [], []⟩) tab_ok (EnvOk.cons c46 has46 (EnvOk.cons c61 has61 EnvOk.nil)) rfl Try.func38 rfl con38 7 (by kernel_rfl) (by decide) (by decide) rfl (by decide) rfl (by
    rintro ⟨⟨⟨a1, (a2 : Int), a3, (a4 : Int)⟩, f, t, (L : Int), (A : Int), (R : Int)⟩, _⟩ hpre hwf X hT hG hk hK
    (simp -implicitDefEqProofs only [go_sem, Prod.eta, Option.isSome_none, Option.isSome_some, Int.toNat_zero, Nat.reduceAdd, Nat.reduceMul, Nat.reduceSub, Nat.reduceEqDiff, Nat.reduceLT, Nat.reduceLeDiff, Nat.reduceShiftRight, Nat.reduceMod, Nat.reduceBEq, reduceCtorEq, reduceIte, reduceDIte, Int.reduceNeg, Bool.not_eq_true', Bool.not_eq_false', Bool.or_eq_true, Bool.or_eq_false_iff, Bool.and_eq_true, Bool.and_eq_false_iff, decide_eq_true_eq, decide_eq_false_iff_not, Classical.not_not, not_or, maxLen, con38, con46, con61, hT, hG, hk, hK, Try.results38] at hwf ⊢); (try simp (disch := decide +kernel) only [drawn, true_and, and_true])
    unfold svOk portOk inV
    dsimp only
    generalize fltOk (a1, a2, a3, a4) = b1
    generalize lettersV f 3 3 = b2
    generalize lettersV t 3 3 = b3
    rw [Bool.eq_iff_iff]
    simp only [Bool.and_eq_true, decide_eq_true_eq, Bool.not_eq_true', decide_eq_false_iff_not]
    cases b1 <;> cases b2 <;> cases b3 <;> simp only [true_and, false_and, and_true, and_false, Bool.false_eq_true]
    constructor
    · rintro ⟨⟨⟨⟨⟨e, _⟩, _⟩, _⟩, _⟩, _⟩; refine ⟨⟨⟨⟨e, ?_⟩, ?_⟩, ?_⟩, ?_⟩ <;> omega
    · rintro ⟨⟨⟨⟨e, _⟩, _⟩, _⟩, _⟩; refine ⟨⟨⟨⟨⟨e, ?_⟩, ?_⟩, ?_⟩, ?_⟩, ?_⟩ <;> omega)
def valL (l : List Svc) : Int := if 40 < l.length then 2 else if l.all svOk = true then 0 else 1
theorem valL_bad {l : List Svc} {i : Nat} (h : ¬ 40 < l.length) (hi : i < l.length) (hb : svOk l[i] = false) : valL l = 1 := by
  unfold valL
  rw [if_neg h, if_neg]
  rw [List.all_eq_true]
  intro k
  rw [k _ (List.getElem_mem hi)] at hb
  cases hb
theorem valL_ok {l : List Svc} (h : ¬ 40 < l.length) (hb : ∀ j, (hj : j < l.length) → svOk l[j] = true) : valL l = 0 := by
  unfold valL
  rw [if_neg h, if_pos]
  rw [List.all_eq_true]
  intro x hx
  obtain ⟨j, hj, rfl⟩ := List.getElem_of_mem hx
  exact hb j hj
def con13 : Con := { ps := [.d false (.sl (.pair (.pair .str (.pair (.int .i64) (.pair .str (.int .i64)))) (.pair .str (.pair .str (.pair (.int .i64) (.pair (.int .i64) (.int .i64)))))))], rs := [.d false (.int .i64)], pre := fun _ => True, out := fun (x : List Svc × Unit) => (valL x.1, ()), nw := id }
theorem c13 : CtrOk Try.prog 13 con13.ctr :=
  con_sound (G := ⟨[(37, con37.ctr)], [], [], []⟩) tab_ok (EnvOk.cons c37 has37 EnvOk.nil) rfl Try.func13 rfl con13 69525 (by kernel_rfl) (by decide) (by decide) rfl (by decide) rfl (by
    rintro ⟨(l : List Svc), _⟩ hpre hwf X hT hG hk hK
    (simp -implicitDefEqProofs only [go_sem, Prod.eta, Option.isSome_none, Option.isSome_some, Int.toNat_zero, Nat.reduceAdd, Nat.reduceMul, Nat.reduceSub, Nat.reduceEqDiff, Nat.reduceLT, Nat.reduceLeDiff, Nat.reduceShiftRight, Nat.reduceMod, Nat.reduceBEq, reduceCtorEq, reduceIte, reduceDIte, Int.reduceNeg, Bool.not_eq_true', Bool.not_eq_false', Bool.or_eq_true, Bool.or_eq_false_iff, Bool.and_eq_true, Bool.and_eq_false_iff, decide_eq_true_eq, decide_eq_false_iff_not, Classical.not_not, not_or, maxLen, con13, con37, hT, hG, hk, hK, Try.results13] at hwf ⊢); (try simp (disch := decide +kernel) only [drawn, true_and, and_true])
    refine fun _ => ⟨fun h => ?_, fun h _ => ?_⟩
    · unfold valL; rw [if_pos (by omega)]
    · refine evk_loop ⟨{ i : Nat // i ≤ l.length ∧ ∀ j, (hj : j < l.length) → j < i → svOk l[j] = true }, 1000, fun q => [(0, .one (.sl (.pair (.pair .str (.pair (.int .i64) (.pair .str (.int .i64)))) (.pair .str (.pair .str (.pair (.int .i64) (.pair (.int .i64) (.int .i64)))))) l false)), (8, .one (.sl (.pair (.pair .str (.pair (.int .i64) (.pair .str (.int .i64)))) (.pair .str (.pair .str (.pair (.int .i64) (.pair (.int .i64) (.int .i64)))))) l false)), (9, .one (.int .i64 l.length)), (10, .one (.int .i64 q.1))], fun q => [], fun q => l.length - q.1⟩ ⟨0, by omega, fun j _ hj => by omega⟩ ?_ ?_
      · simp only [go_sem, Prod.eta, Option.isSome_none, Option.isSome_some, Int.toNat_zero, Nat.reduceAdd, Nat.reduceMul, Nat.reduceSub, Nat.reduceEqDiff, Nat.reduceLT, Nat.reduceLeDiff, Nat.reduceShiftRight, Nat.reduceMod, Nat.reduceBEq, reduceCtorEq, reduceIte, reduceDIte, Int.reduceNeg]
        try (first | rfl | exact ⟨rfl, rfl⟩)
      · rintro ⟨i, (hi : i ≤ l.length), (hb : ∀ j, (hj : j < l.length) → j < i → svOk l[j] = true)⟩
        (simp -implicitDefEqProofs only [go_sem, Prod.eta, Option.isSome_none, Option.isSome_some, Int.toNat_zero, Nat.reduceAdd, Nat.reduceMul, Nat.reduceSub, Nat.reduceEqDiff, Nat.reduceLT, Nat.reduceLeDiff, Nat.reduceShiftRight, Nat.reduceMod, Nat.reduceBEq, reduceCtorEq, reduceIte, reduceDIte, Int.reduceNeg, Bool.not_eq_true', Bool.not_eq_false', Bool.or_eq_true, Bool.or_eq_false_iff, Bool.and_eq_true, Bool.and_eq_false_iff, decide_eq_true_eq, decide_eq_false_iff_not, Classical.not_not, not_or, maxLen, con13, con37, hT, hG, hk, hK, Try.results13]); (try simp (disch := decide +kernel) only [drawn, true_and, and_true])
        have hiN : (i : Int).toNat = i := by omega
        obtain ⟨s, hs⟩ : ∃ s, l.getD i (((ByteArray.empty, 0, ByteArray.empty, 0), ByteArray.empty, ByteArray.empty, 0, 0, 0) : Svc) = s := ⟨_, rfl⟩
        simp only [hiN, hs]
        have hsi : ∀ h : i < l.length, l[i] = s := fun h => by rw [← hs]; simp [h]
        refine ⟨fun hlt => ⟨by omega, fun _ _ => ⟨fun hv => ?_, fun hv => ⟨by omega, ?_⟩⟩⟩, fun hge => ?_⟩
        · exact (valL_bad (i := i) (by omega) (by omega) (by rw [hsi (by omega)]; exact hv)).symm
        · refine fin_lp ⟨i + 1, by omega, fun j hj hji => ?_⟩ ?_ (by dsimp only; omega)
          · by_cases e : j = i
            · subst e; rw [hsi hj]; exact hv
            · exact hb j hj (by have hji : j < i + 1 := hji; omega)
          · simp only [go_sem, Prod.eta, Option.isSome_none, Option.isSome_some, Int.toNat_zero, Nat.reduceAdd, Nat.reduceMul, Nat.reduceSub, Nat.reduceEqDiff, Nat.reduceLT, Nat.reduceLeDiff, Nat.reduceShiftRight, Nat.reduceMod, Nat.reduceBEq, reduceCtorEq, reduceIte, reduceDIte, Int.reduceNeg]
            try (first | rfl | exact ⟨rfl, rfl⟩ | (and_intros <;> first | rfl | omega))
        · exact (valL_ok (by omega) (fun j hj => hb j hj (by omega))).symm)

def con14 : Con := { ps := [.d false (.sl (.pair (.pair .str (.pair (.int .i64) (.pair .str (.int .i64)))) (.pair .str (.pair .str (.pair (.int .i64) (.pair (.int .i64) (.int .i64)))))))], rs := [.d false (.int .i64)], pre := fun _ => True, out := fun (x : List Svc × Unit) => (valL x.1, ()), nw := id }
theorem c14 : CtrOk Try.prog 14 con14.ctr :=
  con_sound (G := ⟨[(38, con38.ctr)], [], [], []⟩) tab_ok (EnvOk.cons c38 has38 EnvOk.nil) rfl Try.func14 rfl con14 263245 (by kernel_rfl) (by decide) (by decide) rfl (by decide) rfl (by
    rintro ⟨(l : List Svc), _⟩ hpre hwf X hT hG hk hK
    (simp -implicitDefEqProofs only [go_sem, Prod.eta, Option.isSome_none, Option.isSome_some, Int.toNat_zero, Nat.reduceAdd, Nat.reduceMul, Nat.reduceSub, Nat.reduceEqDiff, Nat.reduceLT, Nat.reduceLeDiff, Nat.reduceShiftRight, Nat.reduceMod, Nat.reduceBEq, reduceCtorEq, reduceIte, reduceDIte, Int.reduceNeg, Bool.not_eq_true', Bool.not_eq_false', Bool.or_eq_true, Bool.or_eq_false_iff, Bool.and_eq_true, Bool.and_eq_false_iff, decide_eq_true_eq, decide_eq_false_iff_not, Classical.not_not, not_or, maxLen, con14, con38, hT, hG, hk, hK, Try.results14] at hwf ⊢); (try simp (disch := decide +kernel) only [drawn, true_and, and_true])
    refine fun _ => ⟨fun h => ?_, fun h => ?_⟩
    · unfold valL; rw [if_pos (by omega)]
    · refine evk_loop ⟨{ i : Nat // i ≤ l.length ∧ ∀ j, (hj : j < l.length) → j < i → svOk l[j] = true }, 1000, fun q => [(0, .one (.sl (.pair (.pair .str (.pair (.int .i64) (.pair .str (.int .i64)))) (.pair .str (.pair .str (.pair (.int .i64) (.pair (.int .i64) (.int .i64)))))) l false)), (3, .one (.int .i64 q.1))], fun q => [], fun q => l.length - q.1⟩ ⟨0, by omega, fun j _ hj => by omega⟩ ?_ ?_
      · simp only [go_sem, Prod.eta, Option.isSome_none, Option.isSome_some, Int.toNat_zero, Nat.reduceAdd, Nat.reduceMul, Nat.reduceSub, Nat.reduceEqDiff, Nat.reduceLT, Nat.reduceLeDiff, Nat.reduceShiftRight, Nat.reduceMod, Nat.reduceBEq, reduceCtorEq, reduceIte, reduceDIte, Int.reduceNeg]
        try (first | rfl | exact ⟨rfl, rfl⟩)
      · rintro ⟨i, (hi : i ≤ l.length), (hb : ∀ j, (hj : j < l.length) → j < i → svOk l[j] = true)⟩
        (simp -implicitDefEqProofs only [go_sem, Prod.eta, Option.isSome_none, Option.isSome_some, Int.toNat_zero, Nat.reduceAdd, Nat.reduceMul, Nat.reduceSub, Nat.reduceEqDiff, Nat.reduceLT, Nat.reduceLeDiff, Nat.reduceShiftRight, Nat.reduceMod, Nat.reduceBEq, reduceCtorEq, reduceIte, reduceDIte, Int.reduceNeg, Bool.not_eq_true', Bool.not_eq_false', Bool.or_eq_true, Bool.or_eq_false_iff, Bool.and_eq_true, Bool.and_eq_false_iff, decide_eq_true_eq, decide_eq_false_iff_not, Classical.not_not, not_or, maxLen, con14, con38, hT, hG, hk, hK, Try.results14]); (try simp (disch := decide +kernel) only [drawn, true_and, and_true])
        have hiN : (i : Int).toNat = i := by omega
        obtain ⟨s, hs⟩ : ∃ s, l.getD i (((ByteArray.empty, 0, ByteArray.empty, 0), ByteArray.empty, ByteArray.empty, 0, 0, 0) : Svc) = s := ⟨_, rfl⟩
        simp only [hiN, hs]
        have hsi : ∀ h : i < l.length, l[i] = s := fun h => by rw [← hs]; simp [h]
        refine fun _ => ⟨fun hlt => ⟨by omega, fun _ _ => ⟨fun hv => ?_, fun hv => ⟨by omega, ?_⟩⟩⟩, fun hge => ?_⟩
        · exact (valL_bad (i := i) (by omega) (by omega) (by rw [hsi (by omega)]; exact hv)).symm
        · refine fin_lp ⟨i + 1, by omega, fun j hj hji => ?_⟩ ?_ (by dsimp only; omega)
          · by_cases e : j = i
            · subst e; rw [hsi hj]; exact hv
            · exact hb j hj (by have hji : j < i + 1 := hji; omega)
          · simp only [go_sem, Prod.eta, Option.isSome_none, Option.isSome_some, Int.toNat_zero, Nat.reduceAdd, Nat.reduceMul, Nat.reduceSub, Nat.reduceEqDiff, Nat.reduceLT, Nat.reduceLeDiff, Nat.reduceShiftRight, Nat.reduceMod, Nat.reduceBEq, reduceCtorEq, reduceIte, reduceDIte, Int.reduceNeg]
            try (first | rfl | exact ⟨rfl, rfl⟩ | (and_intros <;> first | rfl | omega))
        · exact (valL_ok (by omega) (fun j hj => hb j hj (by omega))).symm)
def argsV (l : List Svc) (f t : ByteArray) (r n : Int) : Int := if valL l ≠ 0 then valL l else if ¬ (portOk f = true ∧ portOk t = true) then 3 else if ¬ (inV r 0 1048576 = true ∧ inV n 0 1048576 = true) then 1 else 0
def con41 : Con := { ps := [.d false (.sl (.pair (.pair .str (.pair (.int .i64) (.pair .str (.int .i64)))) (.pair .str (.pair .str (.pair (.int .i64) (.pair (.int .i64) (.int .i64))))))), .d false .str, .d false .str, .d false (.int .i64), .d false (.int .i64)], rs := [.d false (.int .i64)], pre := fun _ => True, out := fun (x : List Svc × ByteArray × ByteArray × Int × Int × Unit) => (argsV x.1 x.2.1 x.2.2.1 x.2.2.2.1 x.2.2.2.2.1, ()), nw := id }
theorem c41 : CtrOk Try.prog 41 con41.ctr :=
  con_sound (G := ⟨[(13, con13.ctr), (59, con59.ctr), (60, con60.ctr)], [], [], []⟩) tab_ok (EnvOk.cons c13 has13 (EnvOk.cons c59 has59 (EnvOk.cons c60 has60 EnvOk.nil))) rfl Try.func41 rfl con41 4311780383 (by kernel_rfl) (by decide) (by decide) rfl (by decide) rfl (by
    rintro ⟨(l : List Svc), (f : ByteArray), (t : ByteArray), (r : Int), (n : Int), _⟩ hpre hwf X hT hG hk hK
    (simp -implicitDefEqProofs only [go_sem, Prod.eta, Option.isSome_none, Option.isSome_some, Int.toNat_zero, Nat.reduceAdd, Nat.reduceMul, Nat.reduceSub, Nat.reduceEqDiff, Nat.reduceLT, Nat.reduceLeDiff, Nat.reduceShiftRight, Nat.reduceMod, Nat.reduceBEq, reduceCtorEq, reduceIte, reduceDIte, Int.reduceNeg, Bool.not_eq_true', Bool.not_eq_false', Bool.or_eq_true, Bool.or_eq_false_iff, Bool.and_eq_true, Bool.and_eq_false_iff, decide_eq_true_eq, decide_eq_false_iff_not, Classical.not_not, not_or, maxLen, con41, con13, con59, con60, hT, hG, hk, hK, Try.results41] at hwf ⊢); (try simp (disch := decide +kernel) only [drawn, true_and, and_true])
    unfold argsV portOk
    refine fun _ => ⟨fun h => by rw [if_pos h], fun h => ⟨fun h2 => ?_, fun h2 => ⟨fun h3 => ?_, fun h3 => ?_⟩⟩⟩
    · rw [if_neg (by simpa using h), if_pos (fun k => by rw [k.1, k.2] at h2; simp at h2)]
    · rw [if_neg (by simpa using h), if_neg (by simpa using h2), if_pos (fun k => by rw [k.1, k.2] at h3; simp at h3)]
    · rw [if_neg (by simpa using h), if_neg (by simpa using h2), if_neg (by simpa using h3)])
def con20 : Con := { ps := [.d false (.sl (.pair (.pair .str (.pair (.int .i64) (.pair .str (.int .i64)))) (.pair .str (.pair .str (.pair (.int .i64) (.pair (.int .i64) (.int .i64))))))), .d false .str, .d false .str, .d false (.int .i64), .d false (.int .i64)], rs := [.d false (.int .i64)], pre := fun _ => True, out := fun (x : List Svc × ByteArray × ByteArray × Int × Int × Unit) => (argsV x.1 x.2.1 x.2.2.1 x.2.2.2.1 x.2.2.2.2.1, ()), nw := id }
theorem c20 : CtrOk Try.prog 20 con20.ctr :=
  con_sound (G := ⟨[(14, con14.ctr), (46, con46.ctr)], [], [], []⟩) tab_ok (EnvOk.cons c14 has14 (EnvOk.cons c46 has46 EnvOk.nil)) rfl Try.func20 rfl con20 274894720031 (by kernel_rfl) (by decide) (by decide) rfl (by decide) rfl (by
    rintro ⟨(l : List Svc), (f : ByteArray), (t : ByteArray), (r : Int), (n : Int), _⟩ hpre hwf X hT hG hk hK
    (simp -implicitDefEqProofs only [go_sem, Prod.eta, Option.isSome_none, Option.isSome_some, Int.toNat_zero, Nat.reduceAdd, Nat.reduceMul, Nat.reduceSub, Nat.reduceEqDiff, Nat.reduceLT, Nat.reduceLeDiff, Nat.reduceShiftRight, Nat.reduceMod, Nat.reduceBEq, reduceCtorEq, reduceIte, reduceDIte, Int.reduceNeg, Bool.not_eq_true', Bool.not_eq_false', Bool.or_eq_true, Bool.or_eq_false_iff, Bool.and_eq_true, Bool.and_eq_false_iff, decide_eq_true_eq, decide_eq_false_iff_not, Classical.not_not, not_or, maxLen, con20, con14, con46, hT, hG, hk, hK, Try.results20] at hwf ⊢); (try simp (disch := decide +kernel) only [drawn, true_and, and_true])
    unfold argsV portOk
    refine fun _ => ⟨fun h => by rw [if_pos h], fun h => ⟨fun h2 => ?_, fun h2 => ⟨fun h3 => ?_, fun h3 => ?_⟩⟩⟩
    · rw [if_neg (by simpa using h), if_pos (fun k => by rw [k.1, k.2] at h2; simp at h2)]
    · rw [if_neg (by simpa using h), if_neg (by simpa using h2), if_pos (fun k => by unfold inV at k; simp only [Bool.and_eq_true, decide_eq_true_eq] at k; omega)]
    · rw [if_neg (by simpa using h), if_neg (by simpa using h2), if_neg (fun k => k (by unfold inV; simp only [Bool.and_eq_true, decide_eq_true_eq]; omega))])
def takV (s : Svc) (f : ByteArray) (n t : Int) : Bool := decide (1 ≤ s.2.2.2.2.2) && (if s.2.1 = f then decide (t ≤ s.2.2.2.1) else decide (t ≤ s.2.2.2.1 - n))
def con53 : Con := { ps := [.d true (.pair (.pair .str (.pair (.int .i64) (.pair .str (.int .i64)))) (.pair .str (.pair .str (.pair (.int .i64) (.pair (.int .i64) (.int .i64)))))), .d false .str, .d false (.int .i64), .d false (.int .i64)], rs := [.d false .bool], pre := fun (x : Svc × ByteArray × Int × Int × Unit) => svOk x.1 = true ∧ 0 ≤ x.2.2.1 ∧ x.2.2.1 ≤ 1048576, out := fun (x : Svc × ByteArray × Int × Int × Unit) => (takV x.1 x.2.1 x.2.2.1 x.2.2.2.1, ()), nw := id }
theorem svOk_bd {s : Svc} (h : svOk s = true) : 0 ≤ s.2.2.2.1 ∧ s.2.2.2.1 < s.2.2.2.2.1 ∧ s.2.2.2.2.1 ≤ 1048576 ∧ 0 ≤ s.2.2.2.2.2 ∧ s.2.2.2.2.2 ≤ 999 := by
  unfold svOk inV at h
  simp only [Bool.and_eq_true, decide_eq_true_eq] at h
  omega
theorem c53 : CtrOk Try.prog 53 con53.ctr :=
  con_sound (G := ⟨[], [], [], []⟩) tab_ok EnvOk.nil rfl Try.func53 rfl con53 4383 (by kernel_rfl) (by decide) (by decide) rfl (by decide) rfl (by
    rintro ⟨⟨⟨a1, (a2 : Int), a3, (a4 : Int)⟩, f, t, (L : Int), (A : Int), (R : Int)⟩, (p : ByteArray), (n : Int), (m : Int), _⟩ hpre hwf X hT hG hk hK
    obtain ⟨h1, h2, h3⟩ := hpre
    have hb := svOk_bd h1
    dsimp only at hb h2 h3
    (simp -implicitDefEqProofs only [go_sem, Prod.eta, Option.isSome_none, Option.isSome_some, Int.toNat_zero, Nat.reduceAdd, Nat.reduceMul, Nat.reduceSub, Nat.reduceEqDiff, Nat.reduceLT, Nat.reduceLeDiff, Nat.reduceShiftRight, Nat.reduceMod, Nat.reduceBEq, reduceCtorEq, reduceIte, reduceDIte, Int.reduceNeg, Bool.not_eq_true', Bool.not_eq_false', Bool.or_eq_true, Bool.or_eq_false_iff, Bool.and_eq_true, Bool.and_eq_false_iff, decide_eq_true_eq, decide_eq_false_iff_not, Classical.not_not, not_or, maxLen, con53, hT, hG, hk, hK, Try.results53] at hwf ⊢); (try simp (disch := decide +kernel) only [drawn, true_and, and_true])
    unfold takV
    dsimp only
    refine ⟨fun h => ⟨fun _ => by omega, ?_⟩, fun h => ?_⟩
    · rw [if_neg h]
    · rw [if_pos h])
def labV (l : List Lbl) (p : ByteArray) : Option Int := (l.find? (fun x => decide (x.1 = p))).map (fun x => x.2)
theorem labV_none {l : List Lbl} {p : ByteArray} (h : ∀ x ∈ l, x.1 ≠ p) : labV l p = none := by
  unfold labV
  rw [List.find?_eq_none.2 (fun x hx => by simpa using h x hx)]
  rfl
theorem labV_at {l : List Lbl} {p : ByteArray} {i : Nat} (hi : i < l.length) (h : ∀ x ∈ l.take i, x.1 ≠ p) (hp : l[i].1 = p) : labV l p = some l[i].2 := by
  unfold labV
  have : ∀ q : Lbl → Bool, l.find? q = (l.take i ++ (l[i] :: l.drop (i + 1))).find? q := fun q => by rw [List.getElem_cons_drop hi, List.take_append_drop]
  rw [this, List.find?_append, List.find?_eq_none.2 (fun x hx => by simpa using h x hx), Option.none_or, List.find?_cons]
  simp [hp]
def con22 : Con := { ps := [.d false (.sl (.pair .str (.int .i64))), .d false .str], rs := [.d false (.int .i64), .d false .bool], pre := fun _ => True, out := fun (x : List Lbl × ByteArray × Unit) => ((labV x.1 x.2.1).getD 0, (labV x.1 x.2.1).isSome, ()), nw := id }
theorem c22 : CtrOk Try.prog 22 con22.ctr :=
  con_sound (G := ⟨[], [], [], []⟩) tab_ok EnvOk.nil rfl Try.func22 rfl con22 525427 (by kernel_rfl) (by decide) (by decide) rfl (by decide) rfl (by
    rintro ⟨(l : List Lbl), (p : ByteArray), _⟩ hpre hwf X hT hG hk hK
    (simp -implicitDefEqProofs only [go_sem, Prod.eta, Option.isSome_none, Option.isSome_some, Int.toNat_zero, Nat.reduceAdd, Nat.reduceMul, Nat.reduceSub, Nat.reduceEqDiff, Nat.reduceLT, Nat.reduceLeDiff, Nat.reduceShiftRight, Nat.reduceMod, Nat.reduceBEq, reduceCtorEq, reduceIte, reduceDIte, Int.reduceNeg, Bool.not_eq_true', Bool.not_eq_false', Bool.or_eq_true, Bool.or_eq_false_iff, Bool.and_eq_true, Bool.and_eq_false_iff, decide_eq_true_eq, decide_eq_false_iff_not, Classical.not_not, not_or, maxLen, con22, hT, hG, hk, hK, Try.results22] at hwf ⊢); (try simp (disch := decide +kernel) only [drawn, true_and, and_true])
    refine evk_loop ⟨{ i : Nat // i ≤ l.length ∧ ∀ x ∈ l.take i, x.1 ≠ p }, 1000, fun q => [(0, .one (.sl (.pair .str (.int .i64)) l false)), (1, .one (.str p)), (6, .one (.int .i64 q.1))], fun q => [], fun q => l.length - q.1⟩ ⟨0, by omega, by simp⟩ ?_ ?_
    · simp only [go_sem, Prod.eta, Option.isSome_none, Option.isSome_some, Int.toNat_zero, Nat.reduceAdd, Nat.reduceMul, Nat.reduceSub, Nat.reduceEqDiff, Nat.reduceLT, Nat.reduceLeDiff, Nat.reduceShiftRight, Nat.reduceMod, Nat.reduceBEq, reduceCtorEq, reduceIte, reduceDIte, Int.reduceNeg]
      try (first | rfl | exact ⟨rfl, rfl⟩)
    · rintro ⟨i, (hi : i ≤ l.length), (hb : ∀ x ∈ l.take i, x.1 ≠ p)⟩
      (simp -implicitDefEqProofs only [go_sem, Prod.eta, Option.isSome_none, Option.isSome_some, Int.toNat_zero, Nat.reduceAdd, Nat.reduceMul, Nat.reduceSub, Nat.reduceEqDiff, Nat.reduceLT, Nat.reduceLeDiff, Nat.reduceShiftRight, Nat.reduceMod, Nat.reduceBEq, reduceCtorEq, reduceIte, reduceDIte, Int.reduceNeg, Bool.not_eq_true', Bool.not_eq_false', Bool.or_eq_true, Bool.or_eq_false_iff, Bool.and_eq_true, Bool.and_eq_false_iff, decide_eq_true_eq, decide_eq_false_iff_not, Classical.not_not, not_or, maxLen, con22, hT, hG, hk, hK, Try.results22]); (try simp (disch := decide +kernel) only [drawn, true_and, and_true])
      have hiN : (i : Int).toNat = i := by omega
      obtain ⟨s, hs⟩ : ∃ s, l.getD i ((ByteArray.empty, 0) : Lbl) = s := ⟨_, rfl⟩
      simp only [hiN, hs]
      have hsi : ∀ h : i < l.length, l[i] = s := fun h => by rw [← hs]; simp [h]
      refine fun _ => ⟨fun hlt => ⟨by omega, fun _ _ => ⟨fun hv => ⟨by omega, fun _ _ => ?_⟩, fun hv => ⟨by omega, ?_⟩⟩⟩, fun hge => ?_⟩
      · rw [labV_at (by omega : i < l.length) hb (by rw [hsi (by omega)]; exact hv), hsi (by omega)]
        exact ⟨rfl, rfl⟩
      · refine fin_lp ⟨i + 1, by omega, fun x hx => ?_⟩ ?_ (by dsimp only; omega)
        · rw [List.take_succ_eq_append_getElem (by omega : i < l.length), List.mem_append] at hx
          rcases hx with hx | hx
          · exact hb x hx
          · have : x = l[i] := by simpa using hx
            rw [this, hsi (by omega)]; exact hv
        · simp only [go_sem, Prod.eta, Option.isSome_none, Option.isSome_some, Int.toNat_zero, Nat.reduceAdd, Nat.reduceMul, Nat.reduceSub, Nat.reduceEqDiff, Nat.reduceLT, Nat.reduceLeDiff, Nat.reduceShiftRight, Nat.reduceMod, Nat.reduceBEq, reduceCtorEq, reduceIte, reduceDIte, Int.reduceNeg]
          try (first | rfl | exact ⟨rfl, rfl⟩ | (and_intros <;> first | rfl | omega))
      · rw [labV_none (fun x hx => hb x (by rw [List.take_of_length_le (by omega)]; exact hx))]
        exact ⟨rfl, rfl⟩)
end Go.Proofs.Ytjeinbfnbcempaa

/- The labels that a queue finds: the plain law. -/
set_option linter.unusedSimpArgs false
set_option linter.unusedVariables false
set_option maxRecDepth 100000
set_option maxHeartbeats 4000000
namespace Go.Proofs.Ytjeinbfnbcempaa
open Go.Ev

abbrev LMap := List (ByteArray × (Int × Int))
def mgetS (K : LMap) (p : ByteArray) : Option (Int × Int) := mget (kt := .str) K p
def msetS (K : LMap) (p : ByteArray) (v : Int × Int) : LMap := mset (kt := .str) K p v
theorem keyS (a b : ByteArray) : keyEq .str a b = decide (a = b) := rfl
theorem mget_set (p q : ByteArray) (v : Int × Int) : ∀ K : LMap, mgetS (msetS K p v) q = if q = p then some v else mgetS K q
  | [] => by
    simp only [mgetS, msetS, mset, mget, keyS]
    by_cases h : q = p <;> simp [h]
  | (a, u) :: K => by
    have ih := mget_set p q v K
    simp only [mgetS, msetS, mset, mget, keyS] at ih ⊢
    by_cases h : p = a
    · subst h
      simp only [decide_true, if_true, mget, keyS]
      by_cases h2 : q = p <;> simp [h2]
    · simp only [h, decide_false, Bool.false_eq_true, if_false, mget, keyS, ih]
      by_cases h2 : q = a
      · subst h2
        have h3 : ¬ q = p := fun k => h k.symm
        simp [h3]
      · simp [h2]
/-- One service is looked at, at a port. -/
def sv0 : Svc := ((ByteArray.empty, 0, ByteArray.empty, 0), ByteArray.empty, ByteArray.empty, 0, 0, 0)
abbrev QSt := LMap × List ByteArray
def tmOf (K : LMap) (p : ByteArray) : Int := ((mgetS K p).getD (0, 0)).1
def rlx (l : List Svc) (f : ByteArray) (n : Int) (p : ByteArray) (st : QSt) (i : Nat) : QSt :=
  let s := l.getD i sv0
  if s.2.1 ≠ p ∨ takV s f n (tmOf st.1 p) = false then st
  else if (mgetS st.1 s.2.2.1).isSome = true ∧ tmOf st.1 s.2.2.1 ≤ s.2.2.2.2.1 then st
  else (msetS st.1 s.2.2.1 (s.2.2.2.2.1, (i : Int)), st.2 ++ [s.2.2.1])
def rlxs (l : List Svc) (f : ByteArray) (n : Int) (p : ByteArray) (k : Nat) (st : QSt) : QSt := (List.range k).foldl (rlx l f n p) st
theorem rlxs_succ (l : List Svc) (f : ByteArray) (n : Int) (p : ByteArray) (k : Nat) (st : QSt) : rlxs l f n p (k + 1) st = rlx l f n p (rlxs l f n p k st) k := by
  unfold rlxs; rw [List.range_succ, List.foldl_append]; rfl
/-- The queue, with fuel. -/
def labQ (l : List Svc) (f : ByteArray) (n : Int) : Nat → QSt → LMap
  | 0, st => st.1
  | _ + 1, (K, []) => K
  | k + 1, (K, p :: q) => labQ l f n k (rlxs l f n p l.length (K, q))
/-- What is left to fall. -/
def phi (K : LMap) (p : ByteArray) : Nat := match mgetS K p with | some v => v.1.toNat | none => 1048577
def Phi (l : List Svc) (K : LMap) : Nat := (l.map (fun s => phi K s.2.2.1)).sum
def mu (l : List Svc) (st : QSt) : Nat := 2 * Phi l st.1 + st.2.length
theorem sum_le {α : Type} {f g : α → Nat} : ∀ {l : List α}, (∀ x ∈ l, f x ≤ g x) → (l.map f).sum ≤ (l.map g).sum
  | [], _ => Nat.le_refl _
  | a :: l, h => by
    have h1 := h a (List.mem_cons_self ..)
    have h2 := sum_le (l := l) fun x hx => h x (List.mem_cons_of_mem _ hx)
    simp only [List.map_cons, List.sum_cons]; omega
theorem sum_lt {α : Type} {f g : α → Nat} : ∀ {l : List α}, (∀ x ∈ l, f x ≤ g x) → (∃ x ∈ l, f x < g x) → (l.map f).sum < (l.map g).sum
  | [], _, ⟨x, hx, _⟩ => by cases hx
  | a :: l, h, ⟨x, hx, hlt⟩ => by
    have h1 := h a (List.mem_cons_self ..)
    have h2 := sum_le (l := l) fun x hx => h x (List.mem_cons_of_mem _ hx)
    simp only [List.map_cons, List.sum_cons]
    rcases List.mem_cons.1 hx with rfl | hx
    · omega
    · have h3 := sum_lt (l := l) (fun x hx => h x (List.mem_cons_of_mem _ hx)) ⟨x, hx, hlt⟩
      omega
/-- What the arguments bear. -/
structure ArgOk (l : List Svc) (r n : Int) : Prop where
  sv : ∀ s ∈ l, svOk s = true
  r0 : 0 ≤ r
  r1 : r ≤ 1048576
  n0 : 0 ≤ n
  n1 : n ≤ 1048576
theorem argsV_ok {l : List Svc} {f t : ByteArray} {r n : Int} (h : argsV l f t r n = 0) : l.length ≤ 40 ∧ ArgOk l r n ∧ portOk f = true ∧ portOk t = true := by
  unfold argsV at h
  by_cases h1 : valL l ≠ 0
  · rw [if_pos h1] at h; exact absurd h h1
  · rw [if_neg h1] at h
    by_cases h2 : portOk f = true ∧ portOk t = true
    · rw [if_neg (fun k => k h2)] at h
      by_cases h3 : inV r 0 1048576 = true ∧ inV n 0 1048576 = true
      · have h1 : valL l = 0 := by simpa using h1
        unfold valL at h1
        split at h1
        · cases h1
        · rename_i hl
          split at h1
          · rename_i ha
            rw [List.all_eq_true] at ha
            unfold inV at h3
            simp only [Bool.and_eq_true, decide_eq_true_eq] at h3
            exact ⟨by omega, ⟨ha, h3.1.1, h3.1.2, h3.2.1, h3.2.2⟩, h2.1, h2.2⟩
          · cases h1
      · rw [if_pos h3] at h; cases h
    · rw [if_pos h2] at h; cases h
theorem takV_bd {s : Svc} {f : ByteArray} {n t : Int} (h : takV s f n t = true) (hn : 0 ≤ n) : 1 ≤ s.2.2.2.2.2 ∧ t ≤ s.2.2.2.1 := by
  unfold takV at h
  simp only [Bool.and_eq_true, decide_eq_true_eq] at h
  refine ⟨h.1, ?_⟩
  have h2 := h.2
  by_cases e : s.2.1 = f
  · rw [if_pos e] at h2; exact of_decide_eq_true h2
  · rw [if_neg e] at h2
    have := of_decide_eq_true h2
    omega
theorem takV_mono {s : Svc} {f : ByteArray} {n t u : Int} (h : takV s f n t = true) (hu : u ≤ t) : takV s f n u = true := by
  unfold takV at h ⊢
  simp only [Bool.and_eq_true, decide_eq_true_eq] at h ⊢
  refine ⟨h.1, ?_⟩
  have h2 := h.2
  by_cases e : s.2.1 = f
  · rw [if_pos e] at h2 ⊢
    have := of_decide_eq_true h2
    exact decide_eq_true (by omega)
  · rw [if_neg e] at h2 ⊢
    have := of_decide_eq_true h2
    exact decide_eq_true (by omega)
/-- A label that bears itself out. -/
def Snd (l : List Svc) (f : ByteArray) (r n : Int) (K : LMap) (p : ByteArray) (v : Int × Int) : Prop :=
  (p = f ∧ v = (r, -1)) ∨ ∃ i : Nat, v.2 = (i : Int) ∧ i < l.length ∧ (l.getD i sv0).2.2.1 = p ∧ (l.getD i sv0).2.2.2.2.1 = v.1 ∧ ∃ u, mgetS K (l.getD i sv0).2.1 = some u ∧ takV (l.getD i sv0) f n u.1 = true
def Cls (l : List Svc) (f : ByteArray) (n : Int) (K : LMap) (i : Nat) : Prop :=
  ∀ u, mgetS K (l.getD i sv0).2.1 = some u → takV (l.getD i sv0) f n u.1 = true → ∃ v, mgetS K (l.getD i sv0).2.2.1 = some v ∧ v.1 ≤ (l.getD i sv0).2.2.2.2.1
structure LBase (l : List Svc) (f : ByteArray) (r n : Int) (K : LMap) : Prop where
  frm : mgetS K f = some (r, -1)
  snd : ∀ p v, mgetS K p = some v → Snd l f r n K p v
  low : ∀ p v, mgetS K p = some v → r ≤ v.1 ∧ v.1 ≤ 1048576
/-- What the labels are. -/
structure LOK (l : List Svc) (f : ByteArray) (r n : Int) (K : LMap) : Prop where
  base : LBase l f r n K
  cls : ∀ i, i < l.length → Cls l f n K i
/-- The state of the queue: what is not closed waits. -/
structure QI (l : List Svc) (f : ByteArray) (r n : Int) (W : Nat → Prop) (st : QSt) : Prop where
  base : LBase l f r n st.1
  cls : ∀ i, i < l.length → Cls l f n st.1 i ∨ (l.getD i sv0).2.1 ∈ st.2 ∨ W i
  has : ∀ p ∈ st.2, (mgetS st.1 p).isSome = true
theorem get_sv {l : List Svc} {r n : Int} (h : ArgOk l r n) {i : Nat} (hi : i < l.length) : svOk (l.getD i sv0) = true ∧ (l.getD i sv0).2.1 ≠ (l.getD i sv0).2.2.1 := by
  have e : l.getD i sv0 = l[i] := by simp [hi]
  have h1 := h.sv l[i] (List.getElem_mem hi)
  rw [e]
  refine ⟨h1, ?_⟩
  unfold svOk at h1
  simp only [Bool.and_eq_true, Bool.not_eq_true', decide_eq_false_iff_not] at h1
  exact h1.1.1.1.1.2
/-- One service keeps what is known. -/
theorem rlx_inv {l : List Svc} {f : ByteArray} {r n : Int} (hA : ArgOk l r n) {p : ByteArray} {k : Nat} (hk : k < l.length) {st : QSt} (hp : (mgetS st.1 p).isSome = true)
    (h : QI l f r n (fun i => (l.getD i sv0).2.1 = p ∧ k ≤ i) st) : QI l f r n (fun i => (l.getD i sv0).2.1 = p ∧ k + 1 ≤ i) (rlx l f n p st k) ∧ (mgetS (rlx l f n p st k).1 p).isSome = true ∧ mu l (rlx l f n p st k) ≤ mu l st ∧ (rlx l f n p st k).2.length ≤ st.2.length + 1 := by
  obtain ⟨up, hup⟩ := Option.isSome_iff_exists.1 hp
  have htp : tmOf st.1 p = up.1 := by unfold tmOf; rw [hup]; rfl
  unfold rlx
  simp only []
  generalize hs : l.getD k sv0 = s
  obtain ⟨s1, s2⟩ := get_sv hA hk
  rw [hs] at s1 s2
  have hb := svOk_bd s1
  -- what was closed but for this service
  have keep : Cls l f n st.1 k → QI l f r n (fun i => (l.getD i sv0).2.1 = p ∧ k + 1 ≤ i) st := fun hc => ⟨h.base, fun i hi => by
    rcases h.cls i hi with q | q | q
    · exact .inl q
    · exact .inr (.inl q)
    · by_cases e : i = k
      · subst e; exact .inl hc
      · exact .inr (.inr ⟨q.1, by omega⟩), h.has⟩
  by_cases c1 : s.2.1 ≠ p ∨ takV s f n (tmOf st.1 p) = false
  · rw [if_pos c1]
    refine ⟨?_, hp, Nat.le_refl _, by omega⟩
    refine ⟨h.base, fun i hi => ?_, h.has⟩
    rcases h.cls i hi with q | q | q
    · exact .inl q
    · exact .inr (.inl q)
    · by_cases e : i = k
      · subst e
        rw [hs] at q
        rcases c1 with c1 | c1
        · exact absurd q.1 c1
        · refine .inl fun u hu ht => ?_
          rw [hs, q.1, hup] at hu
          cases hu
          rw [hs, ← htp, c1] at ht
          cases ht
      · exact .inr (.inr ⟨q.1, by omega⟩)
  · rw [if_neg c1]
    simp only [not_or, ne_eq, Decidable.not_not, Bool.not_eq_false] at c1
    obtain ⟨c1, c2⟩ := c1
    rw [htp] at c2
    have hbd := takV_bd c2 hA.n0
    have hlow := h.base.low p up hup
    by_cases c3 : (mgetS st.1 s.2.2.1).isSome = true ∧ tmOf st.1 s.2.2.1 ≤ s.2.2.2.2.1
    · rw [if_pos c3]
      refine ⟨keep fun u hu ht => ?_, hp, Nat.le_refl _, by omega⟩
      obtain ⟨v, hv⟩ := Option.isSome_iff_exists.1 c3.1
      refine ⟨v, by rw [hs]; exact hv, ?_⟩
      have := c3.2
      unfold tmOf at this
      rw [hv] at this
      rw [hs]; exact this
    · rw [if_neg c3]
      have hnf : s.2.2.1 ≠ f := fun e => by
        apply c3
        rw [e]
        refine ⟨by rw [h.base.frm]; rfl, ?_⟩
        unfold tmOf
        rw [h.base.frm]
        show r ≤ _
        omega
      have hnp : s.2.2.1 ≠ p := fun e => s2 (c1.trans e.symm)
      have hG : ∀ q, mgetS (msetS st.1 s.2.2.1 (s.2.2.2.2.1, (k : Int))) q = if q = s.2.2.1 then some (s.2.2.2.2.1, (k : Int)) else mgetS st.1 q := fun q => mget_set _ _ _ _
      -- labels only fall
      have fall : ∀ q u, mgetS st.1 q = some u → ∃ u', mgetS (msetS st.1 s.2.2.1 (s.2.2.2.2.1, (k : Int))) q = some u' ∧ u'.1 ≤ u.1 := fun q u hu => by
        rw [hG]
        by_cases e : q = s.2.2.1
        · rw [if_pos e]
          refine ⟨_, rfl, ?_⟩
          have : ¬ tmOf st.1 s.2.2.1 ≤ s.2.2.2.2.1 := fun q2 => c3 ⟨by rw [← e, hu]; rfl, q2⟩
          unfold tmOf at this
          rw [← e, hu] at this
          simp only [Option.getD_some] at this
          show s.2.2.2.2.1 ≤ u.1
          omega
        · rw [if_neg e]; exact ⟨u, hu, Int.le_refl _⟩
      refine ⟨⟨⟨?_, ?_, ?_⟩, ?_, ?_⟩, ?_, ?_, by simp⟩
      · rw [hG, if_neg (fun e => hnf e.symm)]; exact h.base.frm
      · intro q v hv
        rw [hG] at hv
        have lift : ∀ i, (∃ u, mgetS st.1 (l.getD i sv0).2.1 = some u ∧ takV (l.getD i sv0) f n u.1 = true) → ∃ u, mgetS (msetS st.1 s.2.2.1 (s.2.2.2.2.1, (k : Int))) (l.getD i sv0).2.1 = some u ∧ takV (l.getD i sv0) f n u.1 = true := fun i ⟨u, hu, ht⟩ => by
          obtain ⟨u', h1, h2⟩ := fall _ u hu
          exact ⟨u', h1, takV_mono ht h2⟩
        by_cases e : q = s.2.2.1
        · rw [if_pos e] at hv
          cases hv
          exact .inr ⟨k, rfl, hk, by rw [hs, e], by rw [hs], lift k ⟨up, by rw [hs, c1]; exact hup, by rw [hs]; exact c2⟩⟩
        · rw [if_neg e] at hv
          rcases h.base.snd q v hv with g | ⟨i, g1, g2, g3, g4, g5⟩
          · exact .inl g
          · exact .inr ⟨i, g1, g2, g3, g4, lift i g5⟩
      · intro q v hv
        rw [hG] at hv
        by_cases e : q = s.2.2.1
        · rw [if_pos e] at hv
          cases hv
          exact ⟨by show r ≤ s.2.2.2.2.1; omega, by show s.2.2.2.2.1 ≤ 1048576; omega⟩
        · rw [if_neg e] at hv
          exact h.base.low q v hv
      · intro i hi
        by_cases e : i = k
        · subst e
          refine .inl fun u hu ht => ⟨_, by rw [hG, hs, if_pos rfl], by rw [hs]; exact Int.le_refl _⟩
        · by_cases e2 : (l.getD i sv0).2.1 = s.2.2.1
          · exact .inr (.inl (by rw [e2]; simp))
          · rcases h.cls i hi with q | q | q
            · refine .inl fun u hu ht => ?_
              rw [hG, if_neg e2] at hu
              obtain ⟨v, hv, hle⟩ := q u hu ht
              obtain ⟨v', h1, h2⟩ := fall _ v hv
              exact ⟨v', h1, by omega⟩
            · exact .inr (.inl (List.mem_append_left _ q))
            · exact .inr (.inr ⟨q.1, by omega⟩)
      · intro q hq
        rw [hG]
        by_cases e : q = s.2.2.1
        · rw [if_pos e]; rfl
        · rw [if_neg e]
          rcases List.mem_append.1 hq with hq | hq
          · exact h.has q hq
          · exact absurd (by simpa using hq) e
      · rw [hG, if_neg (fun e => hnp e.symm)]; exact hp
      · -- the measure
        have hlt : Phi l (msetS st.1 s.2.2.1 (s.2.2.2.2.1, (k : Int))) < Phi l st.1 := by
          refine sum_lt (fun x hx => ?_) ⟨s, by rw [← hs]; have e : l.getD k sv0 = l[k] := by simp [hk]
                                                rw [e]; exact List.getElem_mem hk, ?_⟩
          · unfold phi
            rw [hG]
            by_cases e : x.2.2.1 = s.2.2.1
            · rw [if_pos e, e]
              cases hm : mgetS st.1 s.2.2.1 with
              | none => simp only; omega
              | some v =>
                have : ¬ tmOf st.1 s.2.2.1 ≤ s.2.2.2.2.1 := fun q2 => c3 ⟨by rw [hm]; rfl, q2⟩
                unfold tmOf at this
                rw [hm] at this
                simp only [Option.getD_some] at this ⊢
                omega
            · rw [if_neg e]; exact Nat.le_refl _
          · unfold phi
            rw [hG, if_pos rfl]
            cases hm : mgetS st.1 s.2.2.1 with
            | none => simp only; omega
            | some v =>
              have : ¬ tmOf st.1 s.2.2.1 ≤ s.2.2.2.2.1 := fun q2 => c3 ⟨by rw [hm]; rfl, q2⟩
              unfold tmOf at this
              rw [hm] at this
              simp only [Option.getD_some] at this ⊢
              omega
        unfold mu
        simp only [List.length_append, List.length_singleton]
        omega
theorem rlxs_inv {l : List Svc} {f : ByteArray} {r n : Int} (hA : ArgOk l r n) {p : ByteArray} {st : QSt} (hp : (mgetS st.1 p).isSome = true) (h : QI l f r n (fun i => (l.getD i sv0).2.1 = p ∧ 0 ≤ i) st) :
    ∀ k, k ≤ l.length → QI l f r n (fun i => (l.getD i sv0).2.1 = p ∧ k ≤ i) (rlxs l f n p k st) ∧ (mgetS (rlxs l f n p k st).1 p).isSome = true ∧ mu l (rlxs l f n p k st) ≤ mu l st ∧ (rlxs l f n p k st).2.length ≤ st.2.length + k
  | 0, _ => ⟨h, hp, Nat.le_refl _, Nat.le_refl _⟩
  | k + 1, hk => by
    obtain ⟨h1, h2, h3, h4⟩ := rlxs_inv hA hp h k (by omega)
    rw [rlxs_succ]
    obtain ⟨g1, g2, g3, g4⟩ := rlx_inv hA (by omega) h2 h1
    exact ⟨g1, g2, by omega, by omega⟩
theorem QI.pop {l : List Svc} {f : ByteArray} {r n : Int} {p : ByteArray} {q : List ByteArray} {K : LMap} (h : QI l f r n (fun _ => False) (K, p :: q)) : QI l f r n (fun i => (l.getD i sv0).2.1 = p ∧ 0 ≤ i) (K, q) ∧ (mgetS K p).isSome = true := by
  refine ⟨⟨h.base, fun i hi => ?_, fun x hx => h.has x (List.mem_cons_of_mem _ hx)⟩, h.has p (List.mem_cons_self ..)⟩
  rcases h.cls i hi with g | g | g
  · exact .inl g
  · rcases List.mem_cons.1 g with g | g
    · exact .inr (.inr ⟨g, Nat.zero_le _⟩)
    · exact .inr (.inl g)
  · exact g.elim
theorem QI.shut {l : List Svc} {f : ByteArray} {r n : Int} {p : ByteArray} {st : QSt} (h : QI l f r n (fun i => (l.getD i sv0).2.1 = p ∧ l.length ≤ i) st) : QI l f r n (fun _ => False) st :=
  ⟨h.base, fun i hi => by
    rcases h.cls i hi with g | g | g
    · exact .inl g
    · exact .inr (.inl g)
    · omega, h.has⟩
theorem labQ_ok {l : List Svc} {f : ByteArray} {r n : Int} (hA : ArgOk l r n) : ∀ (k : Nat) (st : QSt), mu l st ≤ k → QI l f r n (fun _ => False) st → LOK l f r n (labQ l f n k st)
  | 0, (K, q), hm, h => by
    have hq : q = [] := List.eq_nil_of_length_eq_zero (by unfold mu at hm; simp only at hm; omega)
    subst hq
    exact ⟨h.base, fun i hi => (h.cls i hi).elim id fun g => g.elim (fun g => by cases g) False.elim⟩
  | k + 1, (K, []), hm, h => ⟨h.base, fun i hi => (h.cls i hi).elim id fun g => g.elim (fun g => by cases g) False.elim⟩
  | k + 1, (K, p :: q), hm, h => by
    obtain ⟨h1, h2⟩ := h.pop
    obtain ⟨g1, g2, g3, g4⟩ := rlxs_inv hA h2 h1 l.length (Nat.le_refl _)
    have : mu l (K, q) + 1 = mu l (K, p :: q) := by unfold mu; simp only [List.length_cons]; omega
    exact labQ_ok hA k _ (by omega) g1.shut
/-- Fuel beyond what is needed. -/
theorem labQ_more {l : List Svc} {f : ByteArray} {r n : Int} (hA : ArgOk l r n) : ∀ (k : Nat) (st : QSt), mu l st ≤ k → QI l f r n (fun _ => False) st → labQ l f n (k + 1) st = labQ l f n k st
  | 0, (K, q), hm, h => by
    have hq : q = [] := List.eq_nil_of_length_eq_zero (by unfold mu at hm; simp only at hm; omega)
    subst hq; rfl
  | k + 1, (K, []), hm, h => rfl
  | k + 1, (K, p :: q), hm, h => by
    obtain ⟨h1, h2⟩ := h.pop
    obtain ⟨g1, g2, g3, g4⟩ := rlxs_inv hA h2 h1 l.length (Nat.le_refl _)
    have : mu l (K, q) + 1 = mu l (K, p :: q) := by unfold mu; simp only [List.length_cons]; omega
    show labQ l f n (k + 1) _ = labQ l f n k _
    exact labQ_more hA k _ (by omega) g1.shut
theorem labQ_any {l : List Svc} {f : ByteArray} {r n : Int} (hA : ArgOk l r n) (st : QSt) (h : QI l f r n (fun _ => False) st) (k : Nat) (hk : mu l st ≤ k) : labQ l f n k st = labQ l f n (mu l st) st := by
  induction k with
  | zero => rw [show mu l st = 0 by omega]
  | succ k ih =>
    by_cases e : mu l st = k + 1
    · rw [e]
    · rw [labQ_more hA k st (by omega) h, ih (by omega)]
def QI0 (f : ByteArray) (r : Int) : QSt := ([(f, (r, -1))], [f])
def labelsV (l : List Svc) (f : ByteArray) (r n : Int) : LMap := labQ l f n (mu l (QI0 f r)) (QI0 f r)
theorem QI0_ok {l : List Svc} {f : ByteArray} {r n : Int} (hA : ArgOk l r n) : QI l f r n (fun _ => False) (QI0 f r) := by
  have hG : ∀ p, mgetS (QI0 f r).1 p = if p = f then some (r, -1) else none := fun p => by
    unfold QI0 mgetS mget
    rw [keyS]
    by_cases e : p = f
    · rw [if_pos (by simpa using e), if_pos e]
    · rw [if_neg (by simpa using e), if_neg e]; rfl
  refine ⟨⟨by rw [hG, if_pos rfl], fun p v hv => ?_, fun p v hv => ?_⟩, fun i hi => ?_, fun p hp => ?_⟩
  · rw [hG] at hv
    split at hv
    · rename_i e; cases hv; exact .inl ⟨e, rfl⟩
    · cases hv
  · rw [hG] at hv
    split at hv
    · cases hv; exact ⟨Int.le_refl _, hA.r1⟩
    · cases hv
  · by_cases e : (l.getD i sv0).2.1 = f
    · exact .inr (.inl (by rw [e]; exact List.mem_singleton.2 rfl))
    · refine .inl fun u hu _ => ?_
      rw [hG, if_neg e] at hu; cases hu
  · have : p = f := by simpa [QI0] using hp
    rw [hG, if_pos this]; rfl
theorem labels_ok {l : List Svc} {f : ByteArray} {r n : Int} (hA : ArgOk l r n) : LOK l f r n (labelsV l f r n) := labQ_ok hA _ _ (Nat.le_refl _) (QI0_ok hA)
end Go.Proofs.Ytjeinbfnbcempaa

/- The contracts of labels, Reverse. -/
set_option linter.unusedSimpArgs false
set_option linter.unusedVariables false
set_option maxRecDepth 100000
set_option maxHeartbeats 8000000
namespace Go.Proofs.Ytjeinbfnbcempaa
open Go.Ev

theorem labQ_nil (l : List Svc) (f : ByteArray) (n : Int) (K : LMap) : ∀ k, labQ l f n k (K, []) = K
  | 0 => rfl
  | _ + 1 => rfl
theorem labQ_step {l : List Svc} {f : ByteArray} {r n : Int} (hA : ArgOk l r n) {K : LMap} {p : ByteArray} {q : List ByteArray} (h : QI l f r n (fun _ => False) (K, p :: q)) :
    labQ l f n (mu l (K, p :: q)) (K, p :: q) = labQ l f n (mu l (rlxs l f n p l.length (K, q))) (rlxs l f n p l.length (K, q)) ∧ QI l f r n (fun _ => False) (rlxs l f n p l.length (K, q)) ∧ mu l (rlxs l f n p l.length (K, q)) < mu l (K, p :: q) := by
  obtain ⟨h1, h2⟩ := h.pop
  obtain ⟨g1, g2, g3, g4⟩ := rlxs_inv hA h2 h1 l.length (Nat.le_refl _)
  have : mu l (K, q) + 1 = mu l (K, p :: q) := by unfold mu; simp only [List.length_cons]; omega
  refine ⟨?_, g1.shut, by omega⟩
  rw [← this]
  show labQ l f n (mu l (K, q)) (rlxs l f n p l.length (K, q)) = _
  exact labQ_any hA _ g1.shut _ g3
theorem mu_start {l : List Svc} {f : ByteArray} {r n : Int} (hA : ArgOk l r n) (hl : l.length ≤ 40) : mu l (QI0 f r) ≤ 83886161 := by
  have h1 : Phi l (QI0 f r).1 ≤ l.length * 1048577 := by
    have key : ∀ l : List Svc, (l.map (fun s => phi (QI0 f r).1 s.2.2.1)).sum ≤ l.length * 1048577 := fun l => by
      induction l with
      | nil => simp
      | cons a l ih =>
        have : phi (QI0 f r).1 a.2.2.1 ≤ 1048577 := by
          unfold phi
          cases hm : mgetS (QI0 f r).1 a.2.2.1 with
          | none => exact Nat.le_refl _
          | some v =>
            have := ((QI0_ok hA (f := f)).base.low _ v hm).2
            simp only; omega
        simp only [List.map_cons, List.sum_cons, List.length_cons]; omega
    exact key l
  unfold mu
  have : (QI0 f r).2.length = 1 := rfl
  omega
def con42 : Con := { ps := [.d false (.sl (.pair (.pair .str (.pair (.int .i64) (.pair .str (.int .i64)))) (.pair .str (.pair .str (.pair (.int .i64) (.pair (.int .i64) (.int .i64))))))), .d false .str, .d false (.int .i64), .d false (.int .i64)], rs := [.mp .str (.pair (.int .i64) (.int .i64)) false true], pre := fun (x : List Svc × ByteArray × Int × Int × Unit) => x.1.length ≤ 40 ∧ ArgOk x.1 x.2.2.1 x.2.2.2.1, out := fun (x : List Svc × ByteArray × Int × Int × Unit) => (labelsV x.1 x.2.1 x.2.2.1 x.2.2.2.1, ()), nw := id }
theorem c42 : CtrOk Try.prog 42 con42.ctr :=
  con_sound (G := ⟨[(53, con53.ctr)], [], [(10, 1), (30, 1), (79, 7)], []⟩) tab_ok (EnvOk.cons c53 has53 EnvOk.nil) rfl Try.func42 rfl con42 147578456221549657871 (by kernel_rfl) (by decide) (by decide) rfl (by decide) rfl (by
    rintro ⟨(l : List Svc), (f : ByteArray), (r : Int), (n : Int), _⟩ hpre hwf X hT hG hk hK
    obtain ⟨hl, hA⟩ : l.length ≤ 40 ∧ ArgOk l r n := hpre
    (simp -implicitDefEqProofs only [go_sem, Prod.eta, Option.isSome_none, Option.isSome_some, Int.toNat_zero, Nat.reduceAdd, Nat.reduceMul, Nat.reduceSub, Nat.reduceEqDiff, Nat.reduceLT, Nat.reduceLeDiff, Nat.reduceShiftRight, Nat.reduceMod, Nat.reduceBEq, reduceCtorEq, reduceIte, reduceDIte, Int.reduceNeg, Bool.not_eq_true', Bool.not_eq_false', Bool.or_eq_true, Bool.or_eq_false_iff, Bool.and_eq_true, Bool.and_eq_false_iff, decide_eq_true_eq, decide_eq_false_iff_not, Classical.not_not, not_or, maxLen, con42, con53, hT, hG, hk, hK, Try.results42] at hwf ⊢); (try simp (disch := decide +kernel) only [drawn, true_and, and_true])
    refine evk_loop ⟨{ q : LMap × List ByteArray × List ByteArray // QI l f r n (fun _ => False) (q.1, q.2.2) ∧ labelsV l f r n = labQ l f n (mu l (q.1, q.2.2)) (q.1, q.2.2) ∧ mu l (q.1, q.2.2) ≤ 83886161 }, 1000, fun q => [(0, .one (.sl (.pair (.pair .str (.pair (.int .i64) (.pair .str (.int .i64)))) (.pair .str (.pair .str (.pair (.int .i64) (.pair (.int .i64) (.int .i64)))))) l false)), (1, .one (.str f)), (3, .one (.int .i64 n)), (9, .one (.map 64)), (10, .one (.win 65 1 q.1.2.1.length q.1.2.2.length))],
      fun q => [(64, .mapb .str (.pair (.int .i64) (.int .i64)) false true q.1.1), (65, .row 9 .str (q.1.2.1 ++ q.1.2.2))], fun q => mu l (q.1.1, q.1.2.2)⟩ ⟨([(f, (r, -1))], [], [f]), QI0_ok hA, rfl, mu_start hA hl⟩ ?_ ?_
    · simp only [go_sem, Prod.eta, Option.isSome_none, Option.isSome_some, Int.toNat_zero, Nat.reduceAdd, Nat.reduceMul, Nat.reduceSub, Nat.reduceEqDiff, Nat.reduceLT, Nat.reduceLeDiff, Nat.reduceShiftRight, Nat.reduceMod, Nat.reduceBEq, reduceCtorEq, reduceIte, reduceDIte, Int.reduceNeg]
      try (first | rfl | exact ⟨rfl, rfl⟩)
    · rintro ⟨⟨K, pre, q⟩, (hQ : QI l f r n (fun _ => False) (K, q)), (hV : labelsV l f r n = labQ l f n (mu l (K, q)) (K, q)), (hM : mu l (K, q) ≤ 83886161)⟩
      cases q with
      | nil =>
        have w1 : pre.length + 0 ≤ pre.length := Nat.le_refl _
        (simp -implicitDefEqProofs only [go_sem, Prod.eta, Option.isSome_none, Option.isSome_some, Int.toNat_zero, Nat.reduceAdd, Nat.reduceMul, Nat.reduceSub, Nat.reduceEqDiff, Nat.reduceLT, Nat.reduceLeDiff, Nat.reduceShiftRight, Nat.reduceMod, Nat.reduceBEq, reduceCtorEq, reduceIte, reduceDIte, Int.reduceNeg, Bool.not_eq_true', Bool.not_eq_false', Bool.or_eq_true, Bool.or_eq_false_iff, Bool.and_eq_true, Bool.and_eq_false_iff, decide_eq_true_eq, decide_eq_false_iff_not, Classical.not_not, not_or, maxLen, con42, con53, hT, hG, hk, hK, Try.results42, w1]); (try simp (disch := decide +kernel) only [drawn, true_and, and_true])
        refine fun _ => ⟨fun h => by omega, fun _ => ?_⟩
        rw [hV, labQ_nil]
      | cons p q =>
        have w1 : pre.length + (q.length + 1) ≤ (pre ++ p :: q).length := by simp
        (simp -implicitDefEqProofs only [go_sem, Prod.eta, Option.isSome_none, Option.isSome_some, Int.toNat_zero, Nat.reduceAdd, Nat.reduceMul, Nat.reduceSub, Nat.reduceEqDiff, Nat.reduceLT, Nat.reduceLeDiff, Nat.reduceShiftRight, Nat.reduceMod, Nat.reduceBEq, reduceCtorEq, reduceIte, reduceDIte, Int.reduceNeg, Bool.not_eq_true', Bool.not_eq_false', Bool.or_eq_true, Bool.or_eq_false_iff, Bool.and_eq_true, Bool.and_eq_false_iff, decide_eq_true_eq, decide_eq_false_iff_not, Classical.not_not, not_or, maxLen, con42, con53, hT, hG, hk, hK, Try.results42, w1]); (try simp (disch := decide +kernel) only [drawn, true_and, and_true])
        have hpl : (pre ++ p :: q).length = pre.length + (q.length + 1) := by simp
        have hpg : (pre ++ p :: q).getD ((pre.length : Int) + 0).toNat ByteArray.empty = p := by
          rw [show ((pre.length : Int) + 0).toNat = pre.length by omega, List.getD_eq_getElem?_getD, List.getElem?_append_right (Nat.le_refl _), Nat.sub_self]; rfl
        have e1 : (((q.length + 1 : Nat) : Int) - 1).toNat = q.length := by omega
        have e2 : (1 : Int).toNat = 1 := rfl
        simp only [hpl, hpg, e1, e2]
        refine fun _ => ⟨fun _ => ⟨by omega, fun _ => ⟨by omega, fun _ => ⟨by omega, fun _ => ?_⟩⟩⟩, fun h => by omega⟩
        obtain ⟨hq1, hq2⟩ := hQ.pop
        obtain ⟨hs1, hs2, hs3⟩ := labQ_step hA hQ
        have hqs : q.length ≤ mu l (K, p :: q) := by unfold mu; simp only [List.length_cons]; omega
        refine evk_loop ⟨{ s : Nat × LMap × List ByteArray × List ByteArray // s.1 ≤ l.length ∧ rlxs l f n p s.1 (K, q) = (s.2.1, s.2.2.2) }, 1000, fun s => [(0, .one (.sl (.pair (.pair .str (.pair (.int .i64) (.pair .str (.int .i64)))) (.pair .str (.pair .str (.pair (.int .i64) (.pair (.int .i64) (.int .i64)))))) l false)), (1, .one (.str f)), (3, .one (.int .i64 n)), (9, .one (.map 64)), (10, .one (.win 65 1 s.1.2.2.1.length s.1.2.2.2.length)), (11, .one (.str p)), (31, .one (.sl (.pair (.pair .str (.pair (.int .i64) (.pair .str (.int .i64)))) (.pair .str (.pair .str (.pair (.int .i64) (.pair (.int .i64) (.int .i64)))))) l false)), (32, .one (.int .i64 l.length)), (33, .one (.int .i64 s.1.1))],
          fun s => [(64, .mapb .str (.pair (.int .i64) (.int .i64)) false true s.1.2.1), (65, .row 9 .str (s.1.2.2.1 ++ s.1.2.2.2))], fun s => l.length - s.1.1⟩ ⟨(0, K, pre ++ [p], q), by simp only; omega, rfl⟩ ?_ ?_
        · simp only [go_sem, Prod.eta, Option.isSome_none, Option.isSome_some, Int.toNat_zero, Nat.reduceAdd, Nat.reduceMul, Nat.reduceSub, Nat.reduceEqDiff, Nat.reduceLT, Nat.reduceLeDiff, Nat.reduceShiftRight, Nat.reduceMod, Nat.reduceBEq, reduceCtorEq, reduceIte, reduceDIte, Int.reduceNeg]
          have e3 : (pre ++ p :: q) = (pre ++ [p]) ++ q := by simp
          have e4 : (pre ++ [p]).length = pre.length + 1 := by simp
          try (first | rfl | exact ⟨rfl, rfl⟩ | (and_intros <;> first | rfl | omega | exact e3 | exact e4.symm))
        · rintro ⟨⟨k, K2, pre2, q2⟩, (hk1 : k ≤ l.length), (hk2 : rlxs l f n p k (K, q) = (K2, q2))⟩
          have w2 : pre2.length + q2.length ≤ (pre2 ++ q2).length := by simp
          (simp -implicitDefEqProofs only [go_sem, Prod.eta, Option.isSome_none, Option.isSome_some, Int.toNat_zero, Nat.reduceAdd, Nat.reduceMul, Nat.reduceSub, Nat.reduceEqDiff, Nat.reduceLT, Nat.reduceLeDiff, Nat.reduceShiftRight, Nat.reduceMod, Nat.reduceBEq, reduceCtorEq, reduceIte, reduceDIte, Int.reduceNeg, Bool.not_eq_true', Bool.not_eq_false', Bool.or_eq_true, Bool.or_eq_false_iff, Bool.and_eq_true, Bool.and_eq_false_iff, decide_eq_true_eq, decide_eq_false_iff_not, Classical.not_not, not_or, maxLen, con42, con53, hT, hG, hk, hK, Try.results42, w2]); (try simp (disch := decide +kernel) only [drawn, true_and, and_true])
          have hkN : (k : Int).toNat = k := by omega
          obtain ⟨s, hs⟩ : ∃ s, l.getD k (((ByteArray.empty, 0, ByteArray.empty, 0), ByteArray.empty, ByteArray.empty, 0, 0, 0) : Svc) = s := ⟨_, rfl⟩
          simp only [hkN, hs]
          have hsk : l.getD k sv0 = s := hs
          have hR : rlxs l f n p (k + 1) (K, q) = rlx l f n p (K2, q2) k := by rw [rlxs_succ, hk2]
          unfold rlx at hR
          simp only [hsk, tmOf, mgetS, msetS] at hR
          refine ⟨fun hlt => ⟨by omega, fun _ _ _ => ⟨fun _ => ⟨?_, hA.n0, hA.n1⟩, fun hc => ⟨by omega, ?_⟩, fun hc => ?_⟩⟩, fun hge => ?_⟩
          · rw [← hsk]; exact (get_sv hA (by omega)).1
          · rw [if_pos hc] at hR
            refine fin_lp ⟨(k + 1, K2, pre2, q2), by simp only; omega, hR⟩ ?_ (by dsimp only; omega)
            simp only [go_sem, Prod.eta, Option.isSome_none, Option.isSome_some, Int.toNat_zero, Nat.reduceAdd, Nat.reduceMul, Nat.reduceSub, Nat.reduceEqDiff, Nat.reduceLT, Nat.reduceLeDiff, Nat.reduceShiftRight, Nat.reduceMod, Nat.reduceBEq, reduceCtorEq, reduceIte, reduceDIte, Int.reduceNeg]
            try (first | rfl | exact ⟨rfl, rfl⟩ | (and_intros <;> first | rfl | omega))
          · rw [if_neg (by rw [hc.1, hc.2]; simp)] at hR
            have hin := rlxs_inv hA hq2 hq1 k (by omega)
            rw [hk2] at hin
            have hq2l : q2.length ≤ 83886161 := by
              have h1 := hin.2.2.1
              have h2 : q2.length ≤ mu l (K2, q2) := by unfold mu; simp only; omega
              have h3 : mu l (K, q) ≤ mu l (K, p :: q) := by unfold mu; simp only [List.length_cons]; omega
              omega
            refine fun _ => ⟨fun hc2 => ⟨by omega, ?_⟩, fun hc2 => ?_⟩
            · rw [if_pos hc2] at hR
              refine fin_lp ⟨(k + 1, K2, pre2, q2), by simp only; omega, hR⟩ ?_ (by dsimp only; omega)
              simp only [go_sem, Prod.eta, Option.isSome_none, Option.isSome_some, Int.toNat_zero, Nat.reduceAdd, Nat.reduceMul, Nat.reduceSub, Nat.reduceEqDiff, Nat.reduceLT, Nat.reduceLeDiff, Nat.reduceShiftRight, Nat.reduceMod, Nat.reduceBEq, reduceCtorEq, reduceIte, reduceDIte, Int.reduceNeg]
              try (first | rfl | exact ⟨rfl, rfl⟩ | (and_intros <;> first | rfl | omega))
            · rw [if_neg (fun k => by rcases hc2 with h | h; exact absurd k.1 (by rw [h]; simp); exact h k.2)] at hR
              refine ⟨⟨by simp, by omega⟩, fun a => ⟨by omega, ?_⟩⟩
              cases a with
              | true =>
                refine fin_lp ⟨(k + 1, msetS K2 s.snd.snd.fst (s.snd.snd.snd.snd.fst, (k : Int)), pre2, q2 ++ [s.snd.snd.fst]), by simp only; omega, hR⟩ ?_ (by dsimp only; omega)
                simp only [go_sem, Prod.eta, Option.isSome_none, Option.isSome_some, Int.toNat_zero, Nat.reduceAdd, Nat.reduceMul, Nat.reduceSub, Nat.reduceEqDiff, Nat.reduceLT, Nat.reduceLeDiff, Nat.reduceShiftRight, Nat.reduceMod, Nat.reduceBEq, reduceCtorEq, reduceIte, reduceDIte, Int.reduceNeg]
                have e5 : pre2 ++ q2 ++ [s.snd.snd.fst] = pre2 ++ (q2 ++ [s.snd.snd.fst]) := by simp
                have e6 : (q2 ++ [s.snd.snd.fst]).length = q2.length + 1 := by simp
                try (first | rfl | exact ⟨rfl, rfl⟩ | (and_intros <;> first | rfl | omega | exact e5 | exact e6.symm | exact e5.symm | exact e6))
              | false =>
                refine fin_lp ⟨(k + 1, msetS K2 s.snd.snd.fst (s.snd.snd.snd.snd.fst, (k : Int)), [], q2 ++ [s.snd.snd.fst]), by simp only; omega, hR⟩ ?_ (by dsimp only; omega)
                simp only [go_sem, Prod.eta, Option.isSome_none, Option.isSome_some, Int.toNat_zero, Nat.reduceAdd, Nat.reduceMul, Nat.reduceSub, Nat.reduceEqDiff, Nat.reduceLT, Nat.reduceLeDiff, Nat.reduceShiftRight, Nat.reduceMod, Nat.reduceBEq, reduceCtorEq, reduceIte, reduceDIte, Int.reduceNeg]
                have e5 : List.drop pre2.length (pre2 ++ q2) ++ [s.snd.snd.fst] = [] ++ (q2 ++ [s.snd.snd.fst]) := by simp
                have e6 : (q2 ++ [s.snd.snd.fst]).length = q2.length + 1 := by simp
                try (first | rfl | exact ⟨rfl, rfl⟩ | (and_intros <;> first | rfl | omega | exact e5 | exact e6.symm | exact e5.symm | exact e6))
          · have hkl : k = l.length := by omega
            subst hkl
            rw [hk2] at hs1 hs2 hs3
            refine fin_lp ⟨(K2, pre2, q2), hs2, hV.trans hs1, by simp only; omega⟩ ?_ (by dsimp only; exact hs3)
            simp only [go_sem, Prod.eta, Option.isSome_none, Option.isSome_some, Int.toNat_zero, Nat.reduceAdd, Nat.reduceMul, Nat.reduceSub, Nat.reduceEqDiff, Nat.reduceLT, Nat.reduceLeDiff, Nat.reduceShiftRight, Nat.reduceMod, Nat.reduceBEq, reduceCtorEq, reduceIte, reduceDIte, Int.reduceNeg]
            try (first | rfl | exact ⟨rfl, rfl⟩ | (and_intros <;> first | rfl | omega)))
end Go.Proofs.Ytjeinbfnbcempaa
