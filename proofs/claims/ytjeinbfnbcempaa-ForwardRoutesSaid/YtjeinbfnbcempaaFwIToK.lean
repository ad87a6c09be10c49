/- The generator of services; an itinerary as the reference walks it. -/
import Derived.Test.YtjeinbfnbcempaaEvKeysToH
set_option linter.unusedSimpArgs false
set_option linter.unusedVariables false
set_option maxRecDepth 100000
set_option maxHeartbeats 4000000
namespace Go.Proofs.Ytjeinbfnbcempaa
open Go.Ev

theorem flight_ok (s : Src) : fltOk (flightV s) = true := by
  have h1 := goMod_bd s.raw 3 (by omega)
  have h2 := goMod_bd s.step.raw 3 (by omega)
  have h3 := goMod_bd s.step.step.raw 3 (by omega)
  have hc : ∀ k : Int, 0 ≤ k ∧ k < 3 → carrierV (([⟨#[83, 75]⟩, ⟨#[66, 65]⟩, ⟨#[76, 72]⟩] : List ByteArray).getD k.toNat ByteArray.empty) = true := fun k hk => by
    rcases (by omega : k = 0 ∨ k = 1 ∨ k = 2) with rfl | rfl | rfl <;> decide +kernel
  unfold fltOk flightV
  dsimp only
  rw [hc _ h1]
  have hl : lettersV ByteArray.empty 0 1 = true := by decide +kernel
  simp only [hl, Bool.true_and, Bool.and_true, Bool.and_eq_true, decide_eq_true_eq]
  omega
theorem ports_ok (k : Int) (h : 0 ≤ k ∧ k < 5) : portOk (portsA.getD k.toNat ByteArray.empty) = true := by
  rcases (by omega : k = 0 ∨ k = 1 ∨ k = 2 ∨ k = 3 ∨ k = 4) with rfl | rfl | rfl | rfl | rfl <;> decide +kernel
theorem ports_ne (k j : Int) (h : 0 ≤ k ∧ k < 5) (h2 : 0 ≤ j ∧ j < 5) (hn : k ≠ j) : portsA.getD k.toNat ByteArray.empty ≠ portsA.getD j.toNat ByteArray.empty := by
  rcases (by omega : k = 0 ∨ k = 1 ∨ k = 2 ∨ k = 3 ∨ k = 4) with rfl | rfl | rfl | rfl | rfl <;>
    rcases (by omega : j = 0 ∨ j = 1 ∨ j = 2 ∨ j = 3 ∨ j = 4) with rfl | rfl | rfl | rfl | rfl <;> first | exact absurd rfl hn | decide +kernel
theorem rooms_ok (k : Int) (h : 0 ≤ k ∧ k < 5) : 0 ≤ ([0, 1, 1, 2, 5] : List Int).getD k.toNat 0 ∧ ([0, 1, 1, 2, 5] : List Int).getD k.toNat 0 ≤ 5 := by
  rcases (by omega : k = 0 ∨ k = 1 ∨ k = 2 ∨ k = 3 ∨ k = 4) with rfl | rfl | rfl | rfl | rfl <;> decide
/-- The services, in the order in which they are drawn. -/
def svcOf (s : Src) : Svc := (flightV s.step, portsA.getD (goMod s.raw 5).toNat ByteArray.empty, portsA.getD ((goMod s.raw 5 + 1 + goMod s.step.step.step.step.raw 4) % 5).toNat ByteArray.empty, goMod s.step.step.step.step.step.raw 60, goMod s.step.step.step.step.step.raw 60 + 1 + goMod s.step.step.step.step.step.step.step.raw 20, ([0, 1, 1, 2, 5] : List Int).getD (goMod s.step.step.step.step.step.step.raw 5).toNat 0)
def step8 (s : Src) : Src := s.step.step.step.step.step.step.step.step
def servF : Nat → Src → List Svc × Src
  | 0, s => ([], s)
  | k + 1, s => (svcOf s :: (servF k (step8 s)).1, (servF k (step8 s)).2)
theorem svc_ok (s : Src) : svOk (svcOf s) = true := by
  have b0 := goMod_bd s.raw 5 (by omega)
  have hf := flight_ok s.step
  have b4 := goMod_bd s.step.step.step.step.raw 4 (by omega)
  have b5 := goMod_bd s.step.step.step.step.step.raw 60 (by omega)
  have b6 := goMod_bd s.step.step.step.step.step.step.raw 5 (by omega)
  have b7 := goMod_bd s.step.step.step.step.step.step.step.raw 20 (by omega)
  have hR := rooms_ok _ b6
  unfold svcOf
  generalize goMod s.raw 5 = p at *
  generalize goMod s.step.step.step.step.raw 4 = q at *
  have br : 0 ≤ (p + 1 + q) % 5 ∧ (p + 1 + q) % 5 < 5 := ⟨Int.emod_nonneg _ (by omega), Int.emod_lt_of_pos _ (by omega)⟩
  have hpr : p ≠ (p + 1 + q) % 5 := by omega
  have o1 := ports_ok p b0
  have o2 := ports_ok _ br
  have o3 := ports_ne p _ b0 br hpr
  unfold svOk inV
  simp only [hf, o1, o2, o3, Bool.true_and, Bool.and_eq_true, decide_eq_true_eq, Bool.not_eq_true', decide_eq_false_iff_not, not_false_eq_true, true_and]
  omega
theorem servF_ok : ∀ (k : Nat) (s : Src), (∀ x ∈ (servF k s).1, svOk x = true) ∧ (servF k s).1.length = k ∧ (0 ≤ s.2 → 0 ≤ (servF k s).2.2)
  | 0, s => ⟨fun _ h => (by cases h), rfl, id⟩
  | k + 1, s => by
    obtain ⟨h1, h2, h3⟩ := servF_ok k (step8 s)
    refine ⟨fun x hx => ?_, by simp only [servF, List.length_cons, h2], fun h => h3 ?_⟩
    · rcases List.mem_cons.1 hx with rfl | hx
      · exact svc_ok s
      · exact h1 x hx
    · unfold step8
      exact Src.step_pos _ (Src.step_pos _ (Src.step_pos _ (Src.step_pos _ (Src.step_pos _ (Src.step_pos _ (Src.step_pos _ (Src.step_pos _ h)))))))
def servV (s : Src) (n : Int) : List Svc × Src := servF (goMod s.raw (n + 1)).toNat s.step
theorem servV_ok {s : Src} {n : Int} (hn : 0 ≤ n) (hs : 0 ≤ s.2) : (∀ x ∈ (servV s n).1, svOk x = true) ∧ ((servV s n).1.length : Int) ≤ n ∧ 0 ≤ (servV s n).2.2 := by
  obtain ⟨h1, h2, h3⟩ := servF_ok (goMod s.raw (n + 1)).toNat s.step
  have hb := goMod_bd s.raw (n + 1) (by omega)
  refine ⟨h1, ?_, h3 (Src.step_pos _ hs)⟩
  unfold servV
  rw [h2]; omega
def con11 : Con := { ps := [.p 70 (.pair (.sl (.int .i64)) (.int .i64)), .d false (.int .i64)], rs := [.d false (.sl (.pair (.pair .str (.pair (.int .i64) (.pair .str (.int .i64)))) (.pair .str (.pair .str (.pair (.int .i64) (.pair (.int .i64) (.int .i64)))))))], pre := fun (x : Src × Int × Unit) => 0 ≤ x.1.2 ∧ 0 ≤ x.2.1 ∧ x.2.1 ≤ 40, out := fun (x : Src × Int × Unit) => ((servV x.1 x.2.1).1, ()), nw := fun (x : Src × Int × Unit) => ((servV x.1 x.2.1).2, x.2) }
theorem c11 : CtrOk Try.prog 11 con11.ctr :=
  con_sound (G := ⟨[(16, con16.ctr), (34, con34.ctr), (35, con35.ctr), (36, con36.ctr)], [], [], []⟩) tab_ok (EnvOk.cons c16 has16 (EnvOk.cons c34 has34 (EnvOk.cons c35 has35 (EnvOk.cons c36 has36 EnvOk.nil)))) rfl Try.func11 rfl con11 16883 (by kernel_rfl) (by decide) (by decide) rfl (by decide) rfl (by
    rintro ⟨⟨(s : List Int), (a : Int)⟩, (n : Int), _⟩ hpre hwf X hT hG hk hK
    (simp -implicitDefEqProofs only [go_sem, Prod.eta, Option.isSome_none, Option.isSome_some, Int.toNat_zero, Nat.reduceAdd, Nat.reduceMul, Nat.reduceSub, Nat.reduceEqDiff, Nat.reduceLT, Nat.reduceLeDiff, Nat.reduceShiftRight, Nat.reduceMod, Nat.reduceBEq, reduceCtorEq, reduceIte, reduceDIte, Int.reduceNeg, Bool.not_eq_true', Bool.not_eq_false', Bool.or_eq_true, Bool.or_eq_false_iff, Bool.and_eq_true, Bool.and_eq_false_iff, decide_eq_true_eq, decide_eq_false_iff_not, Classical.not_not, not_or, maxLen, con11, con16, con34, con35, con36, hT, hG, hk, hK, Try.results11] at hwf ⊢); (try simp (disch := decide +kernel) only [drawn, true_and, and_true])
    obtain ⟨h1, h2, h3⟩ : 0 ≤ a ∧ 0 ≤ n ∧ n ≤ 40 := hpre
    have hb := goMod_bd (Src.raw (s, a)) (n + 1) (by omega)
    have hs1 := Src.step_pos (s, a) h1
    refine ⟨by omega, h1, fun _ => ?_⟩
    refine evk_loop ⟨{ q : Src × List Svc × Nat // 0 ≤ q.1.2 ∧ ((q.2.1.length + q.2.2 : Nat) : Int) ≤ n ∧ servV (s, a) n = (q.2.1 ++ (servF q.2.2 q.1).1, (servF q.2.2 q.1).2) }, 1000, fun q => [(0, .one (.loc 0 0)), (5, .one (.row 64)), (6, .one (.int .i64 q.1.2.2))], fun q => [(0, .cells 70 [.sl (.int .i64) q.1.1.1 false, .int .i64 q.1.1.2]), (64, .row 54 (.pair (.pair .str (.pair (.int .i64) (.pair .str (.int .i64)))) (.pair .str (.pair .str (.pair (.int .i64) (.pair (.int .i64) (.int .i64)))))) q.1.2.1)], fun q => q.1.2.2⟩ ⟨(Src.step (s, a), [], (goMod (Src.raw (s, a)) (n + 1)).toNat), hs1, (by simp; omega), rfl⟩ ?_ ?_
    · simp only [go_sem, Prod.eta, Option.isSome_none, Option.isSome_some, Int.toNat_zero, Nat.reduceAdd, Nat.reduceMul, Nat.reduceSub, Nat.reduceEqDiff, Nat.reduceLT, Nat.reduceLeDiff, Nat.reduceShiftRight, Nat.reduceMod, Nat.reduceBEq, reduceCtorEq, reduceIte, reduceDIte, Int.reduceNeg]
      try (first | rfl | exact ⟨rfl, rfl⟩ | (and_intros <;> first | rfl | omega))
    · generalize hV : servV (s, a) n = V at *
      rintro ⟨⟨⟨s, a⟩, A, k⟩, (h1 : 0 ≤ a), (hk1 : ((A.length + k : Nat) : Int) ≤ n), (hA : V = (A ++ (servF k (s, a)).1, (servF k (s, a)).2))⟩
      (simp -implicitDefEqProofs only [go_sem, Prod.eta, Option.isSome_none, Option.isSome_some, Int.toNat_zero, Nat.reduceAdd, Nat.reduceMul, Nat.reduceSub, Nat.reduceEqDiff, Nat.reduceLT, Nat.reduceLeDiff, Nat.reduceShiftRight, Nat.reduceMod, Nat.reduceBEq, reduceCtorEq, reduceIte, reduceDIte, Int.reduceNeg, Bool.not_eq_true', Bool.not_eq_false', Bool.or_eq_true, Bool.or_eq_false_iff, Bool.and_eq_true, Bool.and_eq_false_iff, decide_eq_true_eq, decide_eq_false_iff_not, Classical.not_not, not_or, maxLen, con11, con16, con34, con35, con36, hT, hG, hk, hK, Try.results11]); (try simp (disch := decide +kernel) only [drawn, true_and, and_true])
      have hlenA : (portsA.length : Int) = 5 := rfl
      have p1 := Src.step_pos (s, a) h1
      have b0 := goMod_bd (Src.raw (s, a)) 5 (by omega)
      have hsv : svcOf (s, a) = svcOf (s, a) := rfl
      have hst : step8 (s, a) = step8 (s, a) := rfl
      conv at hsv => rhs; unfold svcOf
      conv at hst => rhs; unfold step8
      generalize hFl : flightV (Src.step (s, a)) = fl at *
      generalize hp : goMod (Src.raw (s, a)) 5 = p at *
      generalize hs4 : (Src.step (s, a)).step.step.step = s4 at *
      have p4 : 0 ≤ s4.2 := by rw [← hs4]; exact Src.step_pos _ (Src.step_pos _ (Src.step_pos _ p1))
      have p5 := Src.step_pos s4 p4
      have p6 := Src.step_pos _ p5
      have p7 := Src.step_pos _ p6
      have b4 := goMod_bd s4.raw 4 (by omega)
      have b5 := goMod_bd s4.step.raw 60 (by omega)
      have b6 := goMod_bd s4.step.step.raw 5 (by omega)
      have b7 := goMod_bd s4.step.step.step.raw 20 (by omega)
      have hR := rooms_ok _ b6
      generalize hq : goMod s4.raw 4 = q at *
      generalize goMod s4.step.raw 60 = L at *
      generalize goMod s4.step.step.step.raw 20 = d at *
      have et : (p + 1 + q).tmod 5 = (p + 1 + q) % 5 := Int.tmod_eq_emod_of_nonneg (by omega)
      simp only [et, show ((5 : Nat) : Int) = 5 from rfl]
      generalize ([0, 1, 1, 2, 5] : List Int).getD (goMod s4.step.step.raw 5).toNat 0 = R at *
      have br : 0 ≤ (p + 1 + q) % 5 ∧ (p + 1 + q) % 5 < 5 := ⟨Int.emod_nonneg _ (by omega), Int.emod_lt_of_pos _ (by omega)⟩
      generalize portsA.getD p.toNat ByteArray.empty = P1 at *
      generalize portsA.getD ((p + 1 + q) % 5).toNat ByteArray.empty = P2 at *
      refine ⟨fun hgt => ?_, fun hle => ?_⟩
      · refine ⟨h1, fun _ => ⟨p1, fun _ _ => ⟨by omega, fun _ _ _ => ⟨by omega, p4, fun _ => ⟨by omega, ⟨by omega, by omega, by omega⟩, by omega, fun _ _ => ⟨p5, fun _ => ⟨p6, fun _ => ⟨by omega, p7, fun _ => ⟨by omega, by omega, by omega, ?_⟩⟩⟩⟩⟩⟩⟩⟩⟩
        obtain ⟨k', rfl⟩ : ∃ k', k = k' + 1 := ⟨k - 1, by omega⟩
        refine fin_lp ⟨(s4.step.step.step.step, A ++ [(fl, P1, P2, L, L + 1 + d, R)], k'), Src.step_pos _ p7, ?_, ?_⟩ ?_ ?_
        · simp only [List.length_append, List.length_singleton]; omega
        · rw [hA, servF, hsv, hst]
          simp
        · simp only [go_sem, Prod.eta, Option.isSome_none, Option.isSome_some, Int.toNat_zero, Nat.reduceAdd, Nat.reduceMul, Nat.reduceSub, Nat.reduceEqDiff, Nat.reduceLT, Nat.reduceLeDiff, Nat.reduceShiftRight, Nat.reduceMod, Nat.reduceBEq, reduceCtorEq, reduceIte, reduceDIte, Int.reduceNeg]
          try (first | rfl | exact ⟨rfl, rfl⟩ | (and_intros <;> first | rfl | omega))
        · dsimp only; omega
      · have hk0 : k = 0 := by omega
        subst hk0
        rw [hV, hA]
        simp [servF])
def insV (l : List Int) (n : Int) : List Int := l.filter fun k => decide (0 ≤ k) && decide (k < n)
def con27 : Con := { ps := [.d false (.sl (.int .i64)), .d false (.int .i64)], rs := [.d false (.sl (.int .i64))], pre := fun (x : List Int × Int × Unit) => x.1.length ≤ 10000000, out := fun (x : List Int × Int × Unit) => (insV x.1 x.2.1, ()), nw := id }
theorem c27 : CtrOk Try.prog 27 con27.ctr :=
  con_sound (G := ⟨[], [], [], []⟩) tab_ok EnvOk.nil rfl Try.func27 rfl con27 1052595 (by kernel_rfl) (by decide) (by decide) rfl (by decide) rfl (by
    rintro ⟨(l : List Int), (n : Int), _⟩ hpre hwf X hT hG hk hK
    have hln : l.length ≤ 10000000 := hpre
    (simp -implicitDefEqProofs only [go_sem, Prod.eta, Option.isSome_none, Option.isSome_some, Int.toNat_zero, Nat.reduceAdd, Nat.reduceMul, Nat.reduceSub, Nat.reduceEqDiff, Nat.reduceLT, Nat.reduceLeDiff, Nat.reduceShiftRight, Nat.reduceMod, Nat.reduceBEq, reduceCtorEq, reduceIte, reduceDIte, Int.reduceNeg, Bool.not_eq_true', Bool.not_eq_false', Bool.or_eq_true, Bool.or_eq_false_iff, Bool.and_eq_true, Bool.and_eq_false_iff, decide_eq_true_eq, decide_eq_false_iff_not, Classical.not_not, not_or, maxLen, con27, hT, hG, hk, hK, Try.results27] at hwf ⊢); (try simp (disch := decide +kernel) only [drawn, true_and, and_true])
    refine fun _ => ?_
    refine evk_loop ⟨{ i : Nat // i ≤ l.length }, 1000, fun q => [(1, .one (.int .i64 n)), (5, .one (.row 64)), (8, .one (.sl (.int .i64) l false)), (9, .one (.int .i64 l.length)), (10, .one (.int .i64 q.1))], fun q => [(64, .row 3 (.int .i64) (insV (l.take q.1) n))], fun q => l.length - q.1⟩ ⟨0, by omega⟩ ?_ ?_
    · simp only [go_sem, Prod.eta, Option.isSome_none, Option.isSome_some, Int.toNat_zero, Nat.reduceAdd, Nat.reduceMul, Nat.reduceSub, Nat.reduceEqDiff, Nat.reduceLT, Nat.reduceLeDiff, Nat.reduceShiftRight, Nat.reduceMod, Nat.reduceBEq, reduceCtorEq, reduceIte, reduceDIte, Int.reduceNeg]
      try (first | rfl | exact ⟨rfl, rfl⟩)
    · rintro ⟨i, (hi : i ≤ l.length)⟩
      (simp -implicitDefEqProofs only [go_sem, Prod.eta, Option.isSome_none, Option.isSome_some, Int.toNat_zero, Nat.reduceAdd, Nat.reduceMul, Nat.reduceSub, Nat.reduceEqDiff, Nat.reduceLT, Nat.reduceLeDiff, Nat.reduceShiftRight, Nat.reduceMod, Nat.reduceBEq, reduceCtorEq, reduceIte, reduceDIte, Int.reduceNeg, Bool.not_eq_true', Bool.not_eq_false', Bool.or_eq_true, Bool.or_eq_false_iff, Bool.and_eq_true, Bool.and_eq_false_iff, decide_eq_true_eq, decide_eq_false_iff_not, Classical.not_not, not_or, maxLen, con27, hT, hG, hk, hK, Try.results27]); (try simp (disch := decide +kernel) only [drawn, true_and, and_true])
      have hiN : ((i : Int)).toNat = i := by omega
      simp only [hiN]
      have hil : (insV (l.take i) n).length ≤ i := by unfold insV; exact Nat.le_trans (List.length_filter_le ..) (by simp; omega)
      have hst : i < l.length → insV (l.take (i + 1)) n = insV (l.take i) n ++ (if 0 ≤ l.getD i 0 ∧ l.getD i 0 < n then [l.getD i 0] else []) := fun h => by
        unfold insV
        rw [List.take_succ_eq_append_getElem h, List.filter_append, List.getD_eq_getElem?_getD, List.getElem?_eq_getElem h]
        simp only [List.filter_cons, List.filter_nil, Bool.and_eq_true, decide_eq_true_eq, Option.getD_some]
      refine ⟨fun hlt => ⟨by omega, fun _ _ => ⟨fun hc => ⟨by omega, by omega, ?_⟩, fun hc => ⟨by omega, ?_⟩⟩⟩, fun hge => ?_⟩
      · have e := hst (by omega)
        rw [if_pos (by omega)] at e
        refine fin_lp ⟨i + 1, by omega⟩ ?_ ?_
        · simp only [go_sem, Prod.eta, Option.isSome_none, Option.isSome_some, Int.toNat_zero, Nat.reduceAdd, Nat.reduceMul, Nat.reduceSub, Nat.reduceEqDiff, Nat.reduceLT, Nat.reduceLeDiff, Nat.reduceShiftRight, Nat.reduceMod, Nat.reduceBEq, reduceCtorEq, reduceIte, reduceDIte, Int.reduceNeg]
          try (first | rfl | exact ⟨rfl, rfl⟩ | (and_intros <;> first | rfl | omega | exact e | exact e.symm))
        · dsimp only; omega
      · have e := hst (by omega)
        rw [if_neg (by omega), List.append_nil] at e
        refine fin_lp ⟨i + 1, by omega⟩ ?_ ?_
        · simp only [go_sem, Prod.eta, Option.isSome_none, Option.isSome_some, Int.toNat_zero, Nat.reduceAdd, Nat.reduceMul, Nat.reduceSub, Nat.reduceEqDiff, Nat.reduceLT, Nat.reduceLeDiff, Nat.reduceShiftRight, Nat.reduceMod, Nat.reduceBEq, reduceCtorEq, reduceIte, reduceDIte, Int.reduceNeg]
          try (first | rfl | exact ⟨rfl, rfl⟩ | (and_intros <;> first | rfl | omega | exact e | exact e.symm))
        · dsimp only; omega
      · rw [List.take_of_length_le (by omega)])
end Go.Proofs.Ytjeinbfnbcempaa

/- Itineraries: the plain law, and the walk of the reference. -/
set_option linter.unusedSimpArgs false
set_option linter.unusedVariables false
set_option maxRecDepth 100000
set_option maxHeartbeats 4000000
namespace Go.Proofs.Ytjeinbfnbcempaa
open Go.Ev

def stepOk (s : Svc) (p : ByteArray) (b : Int) : Bool := decide (1 ≤ s.2.2.2.2.2) && decide (s.2.1 = p) && decide (b ≤ s.2.2.2.1)
def goV (l : List Svc) (n : Int) : Bool → ByteArray → Int → List Int → Option (ByteArray × Int)
  | _, p, t, [] => some (p, t)
  | b, p, t, k :: ks => if stepOk (l.getD k.toNat sv0) p (t + if b then 0 else n) = true then goV l n false (l.getD k.toNat sv0).2.2.1 (l.getD k.toNat sv0).2.2.2.2.1 ks else none
theorem goV_append (l : List Svc) (n : Int) : ∀ (xs : List Int) (b : Bool) (p : ByteArray) (t : Int) (k : Int), goV l n b p t (xs ++ [k]) = (goV l n b p t xs).bind fun q => goV l n (b && xs.isEmpty) q.1 q.2 [k]
  | [], b, p, t, k => by simp [goV]
  | x :: xs, b, p, t, k => by
    rw [List.cons_append, goV, goV]
    by_cases hs : stepOk (l.getD x.toNat sv0) p (t + if b then 0 else n) = true
    · rw [if_pos hs, if_pos hs, goV_append l n xs false]
      simp
    · rw [if_neg hs, if_neg hs]; rfl
/-- The way to a port is an itinerary that arrives at the port's time. -/
theorem way_goes {l : List Svc} {f : ByteArray} {r n : Int} (hA : ArgOk l r n) {K : LMap} (hK : LOK l f r n K) : ∀ (k : Nat) (p : ByteArray), (tmOf K p).toNat < k → (mgetS K p).isSome = true →
    goV l n true f r (wayOf l K p).reverse = some (p, tmOf K p) ∧ ∀ i ∈ wayOf l K p, 0 ≤ i ∧ i < l.length
  | 0, _, h, _ => by omega
  | k + 1, p, hk, hp => by
    obtain ⟨v, hv⟩ := Option.isSome_iff_exists.1 hp
    have e1 : byOf K p = v.2 := by unfold byOf; rw [hv]; rfl
    have e2 : tmOf K p = v.1 := by unfold tmOf; rw [hv]; rfl
    by_cases hb : byOf K p < 0
    · rw [wayOf_end hb]
      rcases hK.base.snd p v hv with ⟨rfl, rfl⟩ | ⟨i, g1, _⟩
      · exact ⟨by rw [e2]; rfl, fun i hi => by cases hi⟩
      · omega
    · rcases hK.base.snd p v hv with ⟨rfl, rfl⟩ | ⟨i, g1, g2, g3, g4, u, g5, g6⟩
      · rw [e1] at hb; simp at hb
      · have hi : (byOf K p).toNat = i := by omega
        obtain ⟨q1, q2, q3, q4⟩ := way_step hA hK hp hb
        obtain ⟨h1, h2⟩ := way_goes hA hK k _ (by omega) q2
        rw [wayOf_step hA hK hp hb]
        refine ⟨?_, fun j hj => ?_⟩
        · rw [List.reverse_cons, goV_append, h1, Option.bind_some]
          dsimp only
          rw [hi] at h1 q2 q4 ⊢
          have e3 : tmOf K (l.getD i sv0).2.1 = u.1 := by unfold tmOf; rw [g5]; rfl
          rw [goV, hi, g3, g4, ← e2, goV, if_pos, e2]
          unfold stepOk
          have hbd := takV_bd g6 hA.n0
          simp only [Bool.and_eq_true, decide_eq_true_eq, Bool.true_and]
          refine ⟨⟨hbd.1, trivial⟩, ?_⟩
          rw [e3]
          by_cases hf : (l.getD i sv0).2.1 = f
          · have hu := g5
            rw [hf, hK.base.frm] at hu
            cases hu
            have : wayOf l K (l.getD i sv0).2.1 = [] := wayOf_end (by unfold byOf; rw [g5]; show (-1 : Int) < 0; decide)
            rw [this]
            simp only [List.reverse_nil, List.isEmpty_nil, if_true]
            have := hbd.2
            omega
          · have h3 := g6
            unfold takV at h3
            rw [if_neg hf] at h3
            simp only [Bool.and_eq_true, decide_eq_true_eq] at h3
            have h4 := h3.2
            have h5 := hA.n0
            split <;> omega
        · rcases List.mem_cons.1 hj with rfl | hj
          · omega
          · exact h2 j hj
/-- No itinerary arrives earlier. -/
theorem least_goes {l : List Svc} {f : ByteArray} {r n : Int} (hA : ArgOk l r n) {K : LMap} (hK : LOK l f r n K) : ∀ (xs : List Int) (b : Bool) (p : ByteArray) (t : Int) (q : ByteArray × Int), (b = true → p = f ∧ t = r) → (∃ v, mgetS K p = some v ∧ v.1 ≤ t) → (∀ i ∈ xs, 0 ≤ i ∧ i < l.length) →
    goV l n b p t xs = some q → ∃ v, mgetS K q.1 = some v ∧ v.1 ≤ q.2
  | [], b, p, t, q, _, hv, _, h => by
    rw [goV] at h; cases h; exact hv
  | k :: xs, b, p, t, q, hb, ⟨v, hv, hvt⟩, hi, h => by
    rw [goV] at h
    by_cases hs : stepOk (l.getD k.toNat sv0) p (t + if b then 0 else n) = true
    · rw [if_pos hs] at h
      unfold stepOk at hs
      simp only [Bool.and_eq_true, decide_eq_true_eq] at hs
      obtain ⟨⟨s1, s2⟩, s3⟩ := hs
      have hk := hi k List.mem_cons_self
      have hkl : k.toNat < l.length := by omega
      refine least_goes hA hK xs false _ _ q (fun h => by cases h) ?_ (fun i hi' => hi i (List.mem_cons_of_mem _ hi')) h
      refine hK.cls k.toNat hkl v (by rw [s2]; exact hv) ?_
      have h0 := hA.n0
      unfold takV
      simp only [Bool.and_eq_true, decide_eq_true_eq]
      refine ⟨s1, ?_⟩
      cases b with
      | true =>
        obtain ⟨rfl, rfl⟩ := hb rfl
        rw [if_pos s2]
        simp only [if_true] at s3
        exact decide_eq_true (by omega)
      | false =>
        simp only [Bool.false_eq_true, if_false] at s3
        split
        · exact decide_eq_true (by omega)
        · exact decide_eq_true (by omega)
    · rw [if_neg hs] at h; cases h
def arrV (l : List Svc) (f t : ByteArray) (r n : Int) (xs : List Int) : Int × Bool := match goV l n true f r xs with
  | some q => (q.2, decide (q.1 = t))
  | none => (0, false)
def con26 : Con := { ps := [.d false (.sl (.pair (.pair .str (.pair (.int .i64) (.pair .str (.int .i64)))) (.pair .str (.pair .str (.pair (.int .i64) (.pair (.int .i64) (.int .i64))))))), .d false .str, .d false .str, .d false (.int .i64), .d false (.int .i64), .d false (.sl (.int .i64))], rs := [.d false (.int .i64), .d false .bool], pre := fun (x : List Svc × ByteArray × ByteArray × Int × Int × List Int × Unit) => ArgOk x.1 x.2.2.2.1 x.2.2.2.2.1 ∧ ∀ i ∈ x.2.2.2.2.2.1, 0 ≤ i ∧ i < x.1.length, out := fun (x : List Svc × ByteArray × ByteArray × Int × Int × List Int × Unit) => ((arrV x.1 x.2.1 x.2.2.1 x.2.2.2.1 x.2.2.2.2.1 x.2.2.2.2.2.1).1, (arrV x.1 x.2.1 x.2.2.1 x.2.2.2.1 x.2.2.2.2.1 x.2.2.2.2.2.1).2, ()), nw := id }
theorem c26 : CtrOk Try.prog 26 con26.ctr :=
  con_sound (G := ⟨[], [], [], []⟩) tab_ok EnvOk.nil rfl Try.func26 rfl con26 9223372036863422527 (by kernel_rfl) (by decide) (by decide) rfl (by decide) rfl (by
    rintro ⟨(l : List Svc), (f : ByteArray), (t : ByteArray), (r : Int), (n : Int), (xs : List Int), _⟩ hpre hwf X hT hG hk hK
    obtain ⟨hA, hx⟩ : ArgOk l r n ∧ ∀ i ∈ xs, 0 ≤ i ∧ i < l.length := hpre
    (simp -implicitDefEqProofs only [go_sem, Prod.eta, Option.isSome_none, Option.isSome_some, Int.toNat_zero, Nat.reduceAdd, Nat.reduceMul, Nat.reduceSub, Nat.reduceEqDiff, Nat.reduceLT, Nat.reduceLeDiff, Nat.reduceShiftRight, Nat.reduceMod, Nat.reduceBEq, reduceCtorEq, reduceIte, reduceDIte, Int.reduceNeg, Bool.not_eq_true', Bool.not_eq_false', Bool.or_eq_true, Bool.or_eq_false_iff, Bool.and_eq_true, Bool.and_eq_false_iff, decide_eq_true_eq, decide_eq_false_iff_not, Classical.not_not, not_or, maxLen, con26, hT, hG, hk, hK, Try.results26] at hwf ⊢); (try simp (disch := decide +kernel) only [drawn, true_and, and_true])
    refine evk_loop ⟨{ q : Nat × ByteArray × Int // q.1 ≤ xs.length ∧ 0 ≤ q.2.2 ∧ q.2.2 ≤ 1048576 ∧ (q.1 = 0 → q.2 = (f, r)) ∧ goV l n true f r xs = goV l n (decide (q.1 = 0)) q.2.1 q.2.2 (xs.drop q.1) }, 1000, fun q => [(0, .one (.sl (.pair (.pair .str (.pair (.int .i64) (.pair .str (.int .i64)))) (.pair .str (.pair .str (.pair (.int .i64) (.pair (.int .i64) (.int .i64)))))) l false)), (2, .one (.str t)), (3, .one (.int .i64 r)), (4, .one (.int .i64 n)), (5, .one (.sl (.int .i64) xs false)), (14, .one (.str q.1.2.1)), (15, .one (.int .i64 q.1.2.2)), (16, .one (.int .i64 q.1.1))], fun q => [], fun q => xs.length - q.1.1⟩ ⟨(0, f, r), Nat.zero_le _, hA.r0, hA.r1, fun _ => rfl, rfl⟩ ?_ ?_
    · simp only [go_sem, Prod.eta, Option.isSome_none, Option.isSome_some, Int.toNat_zero, Nat.reduceAdd, Nat.reduceMul, Nat.reduceSub, Nat.reduceEqDiff, Nat.reduceLT, Nat.reduceLeDiff, Nat.reduceShiftRight, Nat.reduceMod, Nat.reduceBEq, reduceCtorEq, reduceIte, reduceDIte, Int.reduceNeg]
      try (first | rfl | exact ⟨rfl, rfl⟩ | (and_intros <;> first | rfl | omega))
    · rintro ⟨⟨i, p, tm⟩, (hi : i ≤ xs.length), (ht0 : 0 ≤ tm), (ht1 : tm ≤ 1048576), (h0 : i = 0 → (p, tm) = (f, r)), (hg : goV l n true f r xs = goV l n (decide (i = 0)) p tm (xs.drop i))⟩
      (simp -implicitDefEqProofs only [go_sem, Prod.eta, Option.isSome_none, Option.isSome_some, Int.toNat_zero, Nat.reduceAdd, Nat.reduceMul, Nat.reduceSub, Nat.reduceEqDiff, Nat.reduceLT, Nat.reduceLeDiff, Nat.reduceShiftRight, Nat.reduceMod, Nat.reduceBEq, reduceCtorEq, reduceIte, reduceDIte, Int.reduceNeg, Bool.not_eq_true', Bool.not_eq_false', Bool.or_eq_true, Bool.or_eq_false_iff, Bool.and_eq_true, Bool.and_eq_false_iff, decide_eq_true_eq, decide_eq_false_iff_not, Classical.not_not, not_or, maxLen, con26, hT, hG, hk, hK, Try.results26]); (try simp (disch := decide +kernel) only [drawn, true_and, and_true])
      have hiN : ((i : Int)).toNat = i := by omega
      obtain ⟨k, hk0⟩ : ∃ k, xs.getD i 0 = k := ⟨_, rfl⟩
      obtain ⟨s, hs⟩ : ∃ s, l.getD k.toNat (((ByteArray.empty, 0, ByteArray.empty, 0), ByteArray.empty, ByteArray.empty, 0, 0, 0) : Svc) = s := ⟨_, rfl⟩
      simp only [hiN, hk0, hs]
      have hgs : i < xs.length → goV l n (decide (i = 0)) p tm (xs.drop i) = if stepOk s p (tm + if i = 0 then 0 else n) = true then goV l n false s.2.2.1 s.2.2.2.2.1 (xs.drop (i + 1)) else none := fun h => by
        rw [List.drop_eq_getElem_cons h, goV]
        have e1 : xs[i] = k := by rw [← hk0]; simp [h]
        have e2 : l.getD k.toNat sv0 = s := hs
        rw [e1, e2]
        simp only [decide_eq_true_eq]
      have hn0 := hA.n0
      have hn1 := hA.n1
      have htr : i = 0 → tm = r ∧ p = f := fun h => by have := h0 h; cases this; exact ⟨rfl, rfl⟩
      have hsv : i < xs.length → (0 ≤ k ∧ k < l.length) ∧ svOk s = true := fun h => by
        have e1 : xs[i] = k := by rw [← hk0]; simp [h]
        have h1 := hx k (by rw [← e1]; exact List.getElem_mem h)
        exact ⟨h1, by have := (get_sv hA (i := k.toNat) (by omega)).1; rwa [show l.getD k.toNat sv0 = s from hs] at this⟩
      have hst : stepOk s p (tm + if i = 0 then 0 else n) = true ↔ (1 ≤ s.2.2.2.2.2 ∧ s.2.1 = p) ∧ tm + (if i = 0 then 0 else n) ≤ s.2.2.2.1 := by
        unfold stepOk; simp only [Bool.and_eq_true, decide_eq_true_eq]
      refine fun _ => ⟨fun hlt => ?_, fun hge => ?_⟩
      · have hlt' : i < xs.length := by omega
        obtain ⟨hkb, hsk⟩ := hsv hlt'
        have hbd := svOk_bd hsk
        rw [hgs hlt'] at hg
        refine ⟨by omega, fun _ _ => ⟨hkb, fun _ _ => ⟨fun h => ⟨h, fun h2 => ⟨h, h2⟩⟩, fun _ => by omega, fun h => ⟨h, fun h2 => ⟨h, h2⟩⟩, fun h => ?_, fun h => ⟨by omega, ?_⟩⟩⟩⟩
        · have hno : ¬ stepOk s p (tm + if i = 0 then 0 else n) = true := fun q => by
            rw [hst] at q
            obtain ⟨⟨q1, q2⟩, q3⟩ := q
            rcases h with ((h | h) | h) | h
            · omega
            · exact h q2
            · rw [if_pos (by omega)] at q3
              have := (htr (by omega)).1
              omega
            · rw [if_neg (by omega)] at q3
              omega
          rw [if_neg hno] at hg
          unfold arrV
          rw [hg]
          exact ⟨rfl, rfl⟩
        · have hyes : stepOk s p (tm + if i = 0 then 0 else n) = true := by
            rw [hst]
            refine ⟨⟨by omega, h.1.1.2⟩, ?_⟩
            by_cases hi0 : i = 0
            · rw [if_pos hi0]
              have := (htr hi0).1
              have := h.1.2
              omega
            · rw [if_neg hi0]
              have := h.2
              omega
          rw [if_pos hyes] at hg
          refine fin_lp ⟨(i + 1, s.2.2.1, s.2.2.2.2.1), by dsimp only; omega, by dsimp only; omega, by dsimp only; omega, fun q => by simp at q, ?_⟩ ?_ ?_
          · dsimp only
            rw [hg, decide_eq_false (by omega : ¬ i + 1 = 0)]
          · simp only [go_sem, Prod.eta, Option.isSome_none, Option.isSome_some, Int.toNat_zero, Nat.reduceAdd, Nat.reduceMul, Nat.reduceSub, Nat.reduceEqDiff, Nat.reduceLT, Nat.reduceLeDiff, Nat.reduceShiftRight, Nat.reduceMod, Nat.reduceBEq, reduceCtorEq, reduceIte, reduceDIte, Int.reduceNeg]
            try (first | rfl | exact ⟨rfl, rfl⟩ | (and_intros <;> first | rfl | omega))
          · dsimp only; omega
      · rw [List.drop_eq_nil_of_le (by omega), goV] at hg
        unfold arrV
        rw [hg]
        exact ⟨rfl, rfl⟩)
end Go.Proofs.Ytjeinbfnbcempaa

/- ForwardEarliest. -/
set_option linter.unusedSimpArgs false
set_option linter.unusedVariables false
set_option maxRecDepth 100000
set_option maxHeartbeats 4000000
namespace Go.Proofs.Ytjeinbfnbcempaa
open Go.Ev

theorem wayV_len (l : List Svc) (K : LMap) : ∀ (k : Nat) (p : ByteArray), (wayV l K k p).length ≤ k
  | 0, _ => Nat.le_refl _
  | k + 1, p => by
    unfold wayV
    split
    · exact Nat.zero_le _
    · have := wayV_len l K k (l.getD (byOf K p).toNat sv0).2.1
      simp only [List.length_cons]; omega
theorem argsV_zero {l : List Svc} {f t : ByteArray} {r n : Int} (h : ArgOk l r n) (hl : l.length ≤ 40) (h1 : portOk f = true) (h2 : portOk t = true) : argsV l f t r n = 0 := by
  have hv : valL l = 0 := by unfold valL; rw [if_neg (by omega), if_pos (List.all_eq_true.2 h.sv)]
  have h3 : inV r 0 1048576 = true ∧ inV n 0 1048576 = true := by
    unfold inV
    simp only [Bool.and_eq_true, decide_eq_true_eq]
    exact ⟨⟨h.r0, h.r1⟩, h.n0, h.n1⟩
  unfold argsV
  rw [if_neg (by rw [hv]; simp), if_neg (fun k => k ⟨h1, h2⟩), if_neg (fun k => k h3)]
/-- What the route of a port that an itinerary reaches is. -/
theorem route_ok {x : List Svc} {f p : ByteArray} {r n t : Int} {way : List Int} (hA : ArgOk x r n) (hl : x.length ≤ 40) (hf : portOk f = true) (hp : portOk p = true) (hw : ∀ i ∈ way, 0 ≤ i ∧ i < x.length) (hg : goV x n true f r way = some (p, t)) :
    (routeV x f p r n).2 = 0 ∧ (routeV x f p r n).1.1.length ≤ 1048577 ∧ (∀ i ∈ (routeV x f p r n).1.1, 0 ≤ i ∧ i < x.length) ∧ insV (routeV x f p r n).1.1 x.length = (routeV x f p r n).1.1 ∧ (arrV x f p r n (routeV x f p r n).1.1).2 = true ∧ (arrV x f p r n (routeV x f p r n).1.1).1 ≤ t := by
  have hK := labels_ok hA (f := f)
  obtain ⟨v, hv, hvt⟩ := least_goes hA hK way true f r (p, t) (fun _ => ⟨rfl, rfl⟩) ⟨_, hK.base.frm, Int.le_refl _⟩ hw hg
  have hs : (mgetS (labelsV x f r n) p).isSome = true := by rw [hv]; rfl
  have e2 : tmOf (labelsV x f r n) p = v.1 := by unfold tmOf; rw [hv]; rfl
  have e : routeV x f p r n = (((wayOf x (labelsV x f r n) p).reverse, lblsV (labelsV x f r n)), 0) := by
    unfold routeV; rw [if_neg (by rw [argsV_zero hA hl hf hp]; simp), if_neg (by rw [hs]; simp)]; rfl
  obtain ⟨h1, h2⟩ := way_goes hA hK _ p (Nat.lt_succ_self _) hs
  have hlow := (hK.base.low p v hv).2
  have hlen : (wayOf x (labelsV x f r n) p).length ≤ 1048577 := by
    have := wayV_len x (labelsV x f r n) ((tmOf (labelsV x f r n) p).toNat + 1) p
    unfold wayOf
    omega
  have h3 : ∀ i ∈ (wayOf x (labelsV x f r n) p).reverse, 0 ≤ i ∧ i < x.length := fun i hi => h2 i (List.mem_reverse.1 hi)
  rw [e]
  refine ⟨rfl, by simpa using hlen, h3, ?_, ?_, ?_⟩
  · unfold insV
    refine List.filter_eq_self.2 fun i hi => ?_
    simp only [Bool.and_eq_true, decide_eq_true_eq]
    exact h3 i hi
  · unfold arrV; rw [h1]; simp
  · unfold arrV; rw [h1]; show tmOf _ p ≤ t; rw [e2]; exact hvt
theorem portV_ok (s : Src) : portOk (portV s) = true := by
  have h := goMod_bd s.raw 5 (by omega)
  unfold portV
  generalize goMod s.raw 5 = k at *
  rcases (by omega : k = 0 ∨ k = 1 ∨ k = 2 ∨ k = 3 ∨ k = 4) with rfl | rfl | rfl | rfl | rfl <;> decide +kernel
def con4 : Con := { ps := [.d false (.sl (.int .i64)), .d false (.sl (.int .i64))], rs := [.d false .bool], pre := fun _ => True, out := fun _ => (true, ()), nw := id }
theorem c4 : CtrOk Try.prog 4 con4.ctr :=
  con_sound (G := ⟨[(10, con10.ctr), (11, con11.ctr), (15, con15.ctr), (16, con16.ctr), (17, con17.ctr), (24, con24.ctr), (25, con25.ctr), (26, con26.ctr), (27, con27.ctr)], [], [], []⟩) tab_ok (EnvOk.cons c10 has10 (EnvOk.cons c11 has11 (EnvOk.cons c15 has15 (EnvOk.cons c16 has16 (EnvOk.cons c17 has17 (EnvOk.cons c24 has24 (EnvOk.cons c25 has25 (EnvOk.cons c26 has26 (EnvOk.cons c27 has27 EnvOk.nil))))))))) rfl Try.func4 rfl con4 22835963085953814088580080740914528316418949107 (by kernel_rfl) (by decide) (by decide) rfl (by decide) rfl (by
    rintro ⟨(l : List Int), (ch : List Int), _⟩ hpre hwf X hT hG hk hK
    (simp -implicitDefEqProofs only [go_sem, Prod.eta, Option.isSome_none, Option.isSome_some, Int.toNat_zero, Nat.reduceAdd, Nat.reduceMul, Nat.reduceSub, Nat.reduceEqDiff, Nat.reduceLT, Nat.reduceLeDiff, Nat.reduceShiftRight, Nat.reduceMod, Nat.reduceBEq, reduceCtorEq, reduceIte, reduceDIte, Int.reduceNeg, Bool.not_eq_true', Bool.not_eq_false', Bool.or_eq_true, Bool.or_eq_false_iff, Bool.and_eq_true, Bool.and_eq_false_iff, decide_eq_true_eq, decide_eq_false_iff_not, Classical.not_not, not_or, maxLen, con4, con10, con11, con15, con16, con17, con24, con25, con26, con27, hT, hG, hk, hK, Try.results4] at hwf ⊢); (try simp (disch := decide +kernel) only [drawn, true_and, and_true])
    obtain ⟨hx, hxl, ho⟩ := servV_ok (s := (l.take 2000, 0)) (n := 25) (by omega) (Int.le_refl _)
    generalize servV (l.take 2000, 0) 25 = V at *
    obtain ⟨x, L, o⟩ := V
    have ho : 0 ≤ o := ho
    have hx : ∀ s ∈ x, svOk s = true := hx
    have hxl : (x.length : Int) ≤ 25 := hxl
    refine fun _ => ⟨⟨by omega, by omega, by omega⟩, fun _ => ?_⟩
    have p1 := Src.step_pos (L, o) ho
    have p2 := Src.step_pos _ p1
    have b1 := goMod_bd (Src.step (L, o)).raw 20 (by omega)
    have b2 := goMod_bd (Src.step (L, o)).step.raw 8 (by omega)
    dsimp only
    refine ⟨ho, fun _ => ⟨p1, fun _ => ⟨p2, fun _ => ?_⟩⟩⟩
    have hpf := portV_ok (L, o)
    generalize portV (L, o) = f at *
    generalize goMod (Src.step (L, o)).raw 20 = r at *
    generalize goMod (Src.step (L, o)).step.raw 8 = n at *
    have hA : ArgOk x r n := ⟨hx, by omega, by omega, by omega, by omega⟩
    refine evk_loop ⟨{ q : List Int × ByteArray × Int × Nat // goV x n true f r q.1 = some (q.2.1, q.2.2.1) ∧ (∀ i ∈ q.1, 0 ≤ i ∧ i < x.length) ∧ portOk q.2.1 = true ∧ (0 ≤ q.2.2.1 ∧ q.2.2.1 ≤ 1048576) ∧ q.2.2.2 ≤ ch.length ∧ q.1.length = q.2.2.2 }, 1000, fun q => [(1, .one (.sl (.int .i64) ch false)), (6, .one (.sl (.pair (.pair .str (.pair (.int .i64) (.pair .str (.int .i64)))) (.pair .str (.pair .str (.pair (.int .i64) (.pair (.int .i64) (.int .i64)))))) x false)), (7, .one (.str f)), (8, .one (.int .i64 r)), (9, .one (.int .i64 n)), (10, .one (.str q.1.2.1)), (11, .one (.int .i64 q.1.2.2.1)), (12, .one (.row 64)), (13, .one (.int .i64 q.1.2.2.2))], fun q => [(64, .row 3 (.int .i64) q.1.1)], fun q => ch.length - q.1.2.2.2⟩ ⟨([], f, r, 0), rfl, fun _ h => (by cases h), hpf, ⟨by dsimp only; omega, by dsimp only; omega⟩, Nat.zero_le _, rfl⟩ ?_ ?_
    · simp only [go_sem, Prod.eta, Option.isSome_none, Option.isSome_some, Int.toNat_zero, Nat.reduceAdd, Nat.reduceMul, Nat.reduceSub, Nat.reduceEqDiff, Nat.reduceLT, Nat.reduceLeDiff, Nat.reduceShiftRight, Nat.reduceMod, Nat.reduceBEq, reduceCtorEq, reduceIte, reduceDIte, Int.reduceNeg]
      try (first | rfl | exact ⟨rfl, rfl⟩ | (and_intros <;> first | rfl | omega))
    · rintro ⟨⟨way, p, t, i⟩, (hg : goV x n true f r way = some (p, t)), (hw : ∀ i ∈ way, 0 ≤ i ∧ i < x.length), (hp : portOk p = true), (ht : 0 ≤ t ∧ t ≤ 1048576), (hi : i ≤ ch.length), (hwl : way.length = i)⟩
      (simp -implicitDefEqProofs only [go_sem, Prod.eta, Option.isSome_none, Option.isSome_some, Int.toNat_zero, Nat.reduceAdd, Nat.reduceMul, Nat.reduceSub, Nat.reduceEqDiff, Nat.reduceLT, Nat.reduceLeDiff, Nat.reduceShiftRight, Nat.reduceMod, Nat.reduceBEq, reduceCtorEq, reduceIte, reduceDIte, Int.reduceNeg, Bool.not_eq_true', Bool.not_eq_false', Bool.or_eq_true, Bool.or_eq_false_iff, Bool.and_eq_true, Bool.and_eq_false_iff, decide_eq_true_eq, decide_eq_false_iff_not, Classical.not_not, not_or, maxLen, con4, con10, con11, con15, con16, con17, con24, con25, con26, con27, hT, hG, hk, hK, Try.results4]); (try simp (disch := decide +kernel) only [drawn, true_and, and_true])
      refine fun _ ⟨hic, hi20⟩ _ => ?_
      refine evk_loop ⟨{ e : Nat × List Int // e.1 ≤ x.length ∧ e.2.length ≤ e.1 ∧ ∀ k ∈ e.2, (0 ≤ k ∧ k < x.length) ∧ stepOk (x.getD k.toNat sv0) p (t + if way.isEmpty = true then 0 else n) = true }, 1000, fun e => [(1, .one (.sl (.int .i64) ch false)), (6, .one (.sl (.pair (.pair .str (.pair (.int .i64) (.pair .str (.int .i64)))) (.pair .str (.pair .str (.pair (.int .i64) (.pair (.int .i64) (.int .i64)))))) x false)), (7, .one (.str f)), (8, .one (.int .i64 r)), (9, .one (.int .i64 n)), (10, .one (.str p)), (11, .one (.int .i64 t)), (12, .one (.row 64)), (13, .one (.int .i64 i)), (14, .one (.row 65)), (45, .one (.int .i64 x.length)), (46, .one (.int .i64 e.1.1))], fun e => [(64, .row 3 (.int .i64) way), (65, .row 3 (.int .i64) e.1.2)], fun e => x.length - e.1.1⟩ ⟨(0, []), Nat.zero_le _, Nat.le_refl _, fun _ h => (by cases h)⟩ ?_ ?_
      · simp only [go_sem, Prod.eta, Option.isSome_none, Option.isSome_some, Int.toNat_zero, Nat.reduceAdd, Nat.reduceMul, Nat.reduceSub, Nat.reduceEqDiff, Nat.reduceLT, Nat.reduceLeDiff, Nat.reduceShiftRight, Nat.reduceMod, Nat.reduceBEq, reduceCtorEq, reduceIte, reduceDIte, Int.reduceNeg]
        try (first | rfl | exact ⟨rfl, rfl⟩ | (and_intros <;> first | rfl | omega))
      · rintro ⟨⟨j, nx⟩, (hj : j ≤ x.length), (hnl : nx.length ≤ j), (hnx : ∀ k ∈ nx, (0 ≤ k ∧ k < x.length) ∧ stepOk (x.getD k.toNat sv0) p (t + if way.isEmpty = true then 0 else n) = true)⟩
        (simp -implicitDefEqProofs only [go_sem, Prod.eta, Option.isSome_none, Option.isSome_some, Int.toNat_zero, Nat.reduceAdd, Nat.reduceMul, Nat.reduceSub, Nat.reduceEqDiff, Nat.reduceLT, Nat.reduceLeDiff, Nat.reduceShiftRight, Nat.reduceMod, Nat.reduceBEq, reduceCtorEq, reduceIte, reduceDIte, Int.reduceNeg, Bool.not_eq_true', Bool.not_eq_false', Bool.or_eq_true, Bool.or_eq_false_iff, Bool.and_eq_true, Bool.and_eq_false_iff, decide_eq_true_eq, decide_eq_false_iff_not, Classical.not_not, not_or, maxLen, con4, con10, con11, con15, con16, con17, con24, con25, con26, con27, hT, hG, hk, hK, Try.results4]); (try simp (disch := decide +kernel) only [drawn, true_and, and_true])
        have hjN : ((j : Int)).toNat = j := by omega
        have hiN : ((i : Int)).toNat = i := by omega
        obtain ⟨s, hs⟩ : ∃ s, x.getD j (((ByteArray.empty, 0, ByteArray.empty, 0), ByteArray.empty, ByteArray.empty, 0, 0, 0) : Svc) = s := ⟨_, rfl⟩
        simp only [hjN, hiN, hs]
        refine ⟨fun hlt _ => ?_, fun hge _ hne => ?_⟩
        · have hsk := (get_sv hA (i := j) (by omega)).1
          rw [show x.getD j sv0 = s from hs] at hsk
          have hbd := svOk_bd hsk
          have hadd : ∀ (b : Int), b = (if way.isEmpty = true then 0 else n) → (s.2.2.2.2.2 > 0 ∧ s.2.1 = p) ∧ s.2.2.2.1 ≥ t + b → ∀ k ∈ nx ++ [(j : Int)], (0 ≤ k ∧ k < x.length) ∧ stepOk (x.getD k.toNat sv0) p (t + if way.isEmpty = true then 0 else n) = true := fun b hb hc k hk => by
            rcases List.mem_append.1 hk with hk | hk
            · exact hnx k hk
            · rw [List.mem_singleton.1 hk, hjN, show x.getD j sv0 = s from hs, ← hb]
              refine ⟨by omega, ?_⟩
              unfold stepOk
              simp only [Bool.and_eq_true, decide_eq_true_eq]
              exact ⟨⟨by omega, hc.1.2⟩, by omega⟩
          refine ⟨fun hw0 => ?_, fun hw0 => ?_⟩
          · have hwe : (0 : Int) = if way.isEmpty = true then 0 else n := by
              have : way = [] := List.eq_nil_of_length_eq_zero (by omega)
              rw [this]; rfl
            refine ⟨by omega, fun _ _ => ⟨fun _ => by omega, fun _ _ => ⟨fun _ => by omega, fun _ _ => ⟨fun _ => by omega, fun hc => ⟨by omega, by omega, ?_⟩, fun hc => ⟨by omega, ?_⟩⟩⟩⟩⟩
            · refine fin_lp ⟨(j + 1, nx ++ [(j : Int)]), by dsimp only; omega, by simp; omega, hadd _ hwe hc⟩ ?_ ?_
              · simp only [go_sem, Prod.eta, Option.isSome_none, Option.isSome_some, Int.toNat_zero, Nat.reduceAdd, Nat.reduceMul, Nat.reduceSub, Nat.reduceEqDiff, Nat.reduceLT, Nat.reduceLeDiff, Nat.reduceShiftRight, Nat.reduceMod, Nat.reduceBEq, reduceCtorEq, reduceIte, reduceDIte, Int.reduceNeg]
                try (first | rfl | exact ⟨rfl, rfl⟩ | (and_intros <;> first | rfl | omega))
              · dsimp only; omega
            · refine fin_lp ⟨(j + 1, nx), by dsimp only; omega, by dsimp only; omega, hnx⟩ ?_ ?_
              · simp only [go_sem, Prod.eta, Option.isSome_none, Option.isSome_some, Int.toNat_zero, Nat.reduceAdd, Nat.reduceMul, Nat.reduceSub, Nat.reduceEqDiff, Nat.reduceLT, Nat.reduceLeDiff, Nat.reduceShiftRight, Nat.reduceMod, Nat.reduceBEq, reduceCtorEq, reduceIte, reduceDIte, Int.reduceNeg]
                try (first | rfl | exact ⟨rfl, rfl⟩ | (and_intros <;> first | rfl | omega))
              · dsimp only; omega
          · have hwe : n = if way.isEmpty = true then 0 else n := by
              rw [if_neg]
              intro h
              rw [List.isEmpty_iff] at h
              rw [h] at hw0
              exact hw0 rfl
            refine ⟨by omega, fun _ _ => ⟨fun _ => by omega, fun _ _ => ⟨fun _ => by omega, fun _ _ => ⟨fun _ => by omega, fun hc => ⟨by omega, by omega, ?_⟩, fun hc => ⟨by omega, ?_⟩⟩⟩⟩⟩
            · refine fin_lp ⟨(j + 1, nx ++ [(j : Int)]), by dsimp only; omega, by simp; omega, hadd _ hwe hc⟩ ?_ ?_
              · simp only [go_sem, Prod.eta, Option.isSome_none, Option.isSome_some, Int.toNat_zero, Nat.reduceAdd, Nat.reduceMul, Nat.reduceSub, Nat.reduceEqDiff, Nat.reduceLT, Nat.reduceLeDiff, Nat.reduceShiftRight, Nat.reduceMod, Nat.reduceBEq, reduceCtorEq, reduceIte, reduceDIte, Int.reduceNeg]
                try (first | rfl | exact ⟨rfl, rfl⟩ | (and_intros <;> first | rfl | omega))
              · dsimp only; omega
            · refine fin_lp ⟨(j + 1, nx), by dsimp only; omega, by dsimp only; omega, hnx⟩ ?_ ?_
              · simp only [go_sem, Prod.eta, Option.isSome_none, Option.isSome_some, Int.toNat_zero, Nat.reduceAdd, Nat.reduceMul, Nat.reduceSub, Nat.reduceEqDiff, Nat.reduceLT, Nat.reduceLeDiff, Nat.reduceShiftRight, Nat.reduceMod, Nat.reduceBEq, reduceCtorEq, reduceIte, reduceDIte, Int.reduceNeg]
                try (first | rfl | exact ⟨rfl, rfl⟩ | (and_intros <;> first | rfl | omega))
              · dsimp only; omega
        · have hm := goMod_bd (ch.getD i 0) nx.length (by omega)
          obtain ⟨k, hk0⟩ : ∃ k, nx.getD (goMod (ch.getD i 0) nx.length).toNat 0 = k := ⟨_, rfl⟩
          have hkm : k ∈ nx := by
            rw [← hk0, List.getD_eq_getElem?_getD, List.getElem?_eq_getElem (by omega)]
            exact List.getElem_mem _
          obtain ⟨hkb, hks⟩ := hnx k hkm
          obtain ⟨s2, hs2⟩ : ∃ s2, x.getD k.toNat (((ByteArray.empty, 0, ByteArray.empty, 0), ByteArray.empty, ByteArray.empty, 0, 0, 0) : Svc) = s2 := ⟨_, rfl⟩
          have hs2' : x.getD k.toNat sv0 = s2 := hs2
          have hs2k := (get_sv hA (i := k.toNat) (by omega)).1
          rw [hs2'] at hks hs2k
          have hbd := svOk_bd hs2k
          have hg2 : goV x n true f r (way ++ [k]) = some (s2.2.2.1, s2.2.2.2.2.1) := by
            rw [goV_append, hg, Option.bind_some]
            dsimp only
            rw [goV, hs2', goV, Bool.true_and, if_pos hks]
          have hw2 : ∀ i ∈ way ++ [k], 0 ≤ i ∧ i < x.length := fun i hi => by
            rcases List.mem_append.1 hi with hi | hi
            · exact hw i hi
            · rw [List.mem_singleton.1 hi]; exact hkb
          have hp2 : portOk s2.2.2.1 = true := by
            unfold svOk at hs2k
            simp only [Bool.and_eq_true] at hs2k
            exact hs2k.1.1.1.1.1.2
          obtain ⟨r1, r2, r3, r4, r5, r6⟩ := route_ok hA (by omega) hpf hp2 hw2 hg2
          simp only [hk0, hs2, r4]
          generalize (routeV x f s2.2.2.1 r n).1.1 = ws at *
          generalize (routeV x f s2.2.2.1 r n).1.2 = lbs at *
          generalize (routeV x f s2.2.2.1 r n).2 = ee at *
          refine ⟨by omega, fun _ _ _ _ => ⟨by omega, fun _ => ⟨by omega, fun _ => ⟨by omega, hkb, fun _ _ => ⟨hkb, fun _ _ _ => ⟨fun h => absurd r1 h, fun _ _ => ⟨by omega, fun _ => ⟨⟨hA, r3⟩, fun _ _ => ⟨fun _ => by omega, fun _ _ _ => ⟨fun h => ?_, fun _ => ⟨by omega, ?_⟩⟩⟩⟩⟩⟩⟩⟩⟩⟩⟩
          · rcases h with (h | h) | h
            · rw [r5] at h; cases h
            · omega
            · exact h trivial
          · refine fin_lp ⟨(way ++ [k], s2.2.2.1, s2.2.2.2.2.1, i + 1), hg2, hw2, hp2, ⟨by dsimp only; omega, by dsimp only; omega⟩, by dsimp only; omega, by simp [hwl]⟩ ?_ ?_
            · simp only [go_sem, Prod.eta, Option.isSome_none, Option.isSome_some, Int.toNat_zero, Nat.reduceAdd, Nat.reduceMul, Nat.reduceSub, Nat.reduceEqDiff, Nat.reduceLT, Nat.reduceLeDiff, Nat.reduceShiftRight, Nat.reduceMod, Nat.reduceBEq, reduceCtorEq, reduceIte, reduceDIte, Int.reduceNeg]
              try (first | rfl | exact ⟨rfl, rfl⟩ | (and_intros <;> first | rfl | omega))
            · dsimp only; omega)
end Go.Proofs.Ytjeinbfnbcempaa
