/- The contracts of the functions that read numbers. -/
import Derived.Test.YtjeinbfnbcempaaFwTab
set_option linter.unusedSimpArgs false
set_option linter.unusedVariables false
set_option maxRecDepth 100000
set_option maxHeartbeats 4000000
namespace Go.Proofs.Ytjeinbfnbcempaa
open Go.Ev

theorem has9 : FnHas Try.prog 9 := ⟨⟨_, Try.func9, by kernel_rfl, by kernel_rfl⟩⟩
theorem has10 : FnHas Try.prog 10 := ⟨⟨_, Try.func10, by kernel_rfl, by kernel_rfl⟩⟩
theorem has11 : FnHas Try.prog 11 := ⟨⟨_, Try.func11, by kernel_rfl, by kernel_rfl⟩⟩
theorem has12 : FnHas Try.prog 12 := ⟨⟨_, Try.func12, by kernel_rfl, by kernel_rfl⟩⟩
theorem has13 : FnHas Try.prog 13 := ⟨⟨_, Try.func13, by kernel_rfl, by kernel_rfl⟩⟩
theorem has14 : FnHas Try.prog 14 := ⟨⟨_, Try.func14, by kernel_rfl, by kernel_rfl⟩⟩
theorem has15 : FnHas Try.prog 15 := ⟨⟨_, Try.func15, by kernel_rfl, by kernel_rfl⟩⟩
theorem has16 : FnHas Try.prog 16 := ⟨⟨_, Try.func16, by kernel_rfl, by kernel_rfl⟩⟩
theorem has17 : FnHas Try.prog 17 := ⟨⟨_, Try.func17, by kernel_rfl, by kernel_rfl⟩⟩
theorem has18 : FnHas Try.prog 18 := ⟨⟨_, Try.func18, by kernel_rfl, by kernel_rfl⟩⟩
theorem has19 : FnHas Try.prog 19 := ⟨⟨_, Try.func19, by kernel_rfl, by kernel_rfl⟩⟩
theorem has20 : FnHas Try.prog 20 := ⟨⟨_, Try.func20, by kernel_rfl, by kernel_rfl⟩⟩
theorem has21 : FnHas Try.prog 21 := ⟨⟨_, Try.func21, by kernel_rfl, by kernel_rfl⟩⟩
theorem has22 : FnHas Try.prog 22 := ⟨⟨_, Try.func22, by kernel_rfl, by kernel_rfl⟩⟩
theorem has23 : FnHas Try.prog 23 := ⟨⟨_, Try.func23, by kernel_rfl, by kernel_rfl⟩⟩
theorem has24 : FnHas Try.prog 24 := ⟨⟨_, Try.func24, by kernel_rfl, by kernel_rfl⟩⟩
theorem has25 : FnHas Try.prog 25 := ⟨⟨_, Try.func25, by kernel_rfl, by kernel_rfl⟩⟩
theorem has26 : FnHas Try.prog 26 := ⟨⟨_, Try.func26, by kernel_rfl, by kernel_rfl⟩⟩
theorem has27 : FnHas Try.prog 27 := ⟨⟨_, Try.func27, by kernel_rfl, by kernel_rfl⟩⟩
theorem has28 : FnHas Try.prog 28 := ⟨⟨_, Try.func28, by kernel_rfl, by kernel_rfl⟩⟩
theorem has29 : FnHas Try.prog 29 := ⟨⟨_, Try.func29, by kernel_rfl, by kernel_rfl⟩⟩
theorem has30 : FnHas Try.prog 30 := ⟨⟨_, Try.func30, by kernel_rfl, by kernel_rfl⟩⟩
theorem has31 : FnHas Try.prog 31 := ⟨⟨_, Try.func31, by kernel_rfl, by kernel_rfl⟩⟩
theorem has32 : FnHas Try.prog 32 := ⟨⟨_, Try.func32, by kernel_rfl, by kernel_rfl⟩⟩
theorem has33 : FnHas Try.prog 33 := ⟨⟨_, Try.func33, by kernel_rfl, by kernel_rfl⟩⟩
theorem has34 : FnHas Try.prog 34 := ⟨⟨_, Try.func34, by kernel_rfl, by kernel_rfl⟩⟩
theorem has35 : FnHas Try.prog 35 := ⟨⟨_, Try.func35, by kernel_rfl, by kernel_rfl⟩⟩
theorem has36 : FnHas Try.prog 36 := ⟨⟨_, Try.func36, by kernel_rfl, by kernel_rfl⟩⟩
theorem has37 : FnHas Try.prog 37 := ⟨⟨_, Try.func37, by kernel_rfl, by kernel_rfl⟩⟩
theorem has38 : FnHas Try.prog 38 := ⟨⟨_, Try.func38, by kernel_rfl, by kernel_rfl⟩⟩
theorem has39 : FnHas Try.prog 39 := ⟨⟨_, Try.func39, by kernel_rfl, by kernel_rfl⟩⟩
theorem has40 : FnHas Try.prog 40 := ⟨⟨_, Try.func40, by kernel_rfl, by kernel_rfl⟩⟩
theorem has41 : FnHas Try.prog 41 := ⟨⟨_, Try.func41, by kernel_rfl, by kernel_rfl⟩⟩
theorem has42 : FnHas Try.prog 42 := ⟨⟨_, Try.func42, by kernel_rfl, by kernel_rfl⟩⟩
theorem has43 : FnHas Try.prog 43 := ⟨⟨_, Try.func43, by kernel_rfl, by kernel_rfl⟩⟩
theorem has44 : FnHas Try.prog 44 := ⟨⟨_, Try.func44, by kernel_rfl, by kernel_rfl⟩⟩
theorem has45 : FnHas Try.prog 45 := ⟨⟨_, Try.func45, by kernel_rfl, by kernel_rfl⟩⟩
theorem has46 : FnHas Try.prog 46 := ⟨⟨_, Try.func46, by kernel_rfl, by kernel_rfl⟩⟩
theorem has47 : FnHas Try.prog 47 := ⟨⟨_, Try.func47, by kernel_rfl, by kernel_rfl⟩⟩
theorem has48 : FnHas Try.prog 48 := ⟨⟨_, Try.func48, by kernel_rfl, by kernel_rfl⟩⟩
theorem has49 : FnHas Try.prog 49 := ⟨⟨_, Try.func49, by kernel_rfl, by kernel_rfl⟩⟩
theorem has50 : FnHas Try.prog 50 := ⟨⟨_, Try.func50, by kernel_rfl, by kernel_rfl⟩⟩
theorem has51 : FnHas Try.prog 51 := ⟨⟨_, Try.func51, by kernel_rfl, by kernel_rfl⟩⟩
theorem has52 : FnHas Try.prog 52 := ⟨⟨_, Try.func52, by kernel_rfl, by kernel_rfl⟩⟩
theorem has53 : FnHas Try.prog 53 := ⟨⟨_, Try.func53, by kernel_rfl, by kernel_rfl⟩⟩
theorem has54 : FnHas Try.prog 54 := ⟨⟨_, Try.func54, by kernel_rfl, by kernel_rfl⟩⟩
theorem has55 : FnHas Try.prog 55 := ⟨⟨_, Try.func55, by kernel_rfl, by kernel_rfl⟩⟩
theorem has56 : FnHas Try.prog 56 := ⟨⟨_, Try.func56, by kernel_rfl, by kernel_rfl⟩⟩
theorem has57 : FnHas Try.prog 57 := ⟨⟨_, Try.func57, by kernel_rfl, by kernel_rfl⟩⟩
theorem has58 : FnHas Try.prog 58 := ⟨⟨_, Try.func58, by kernel_rfl, by kernel_rfl⟩⟩
theorem has59 : FnHas Try.prog 59 := ⟨⟨_, Try.func59, by kernel_rfl, by kernel_rfl⟩⟩
theorem has60 : FnHas Try.prog 60 := ⟨⟨_, Try.func60, by kernel_rfl, by kernel_rfl⟩⟩
theorem has61 : FnHas Try.prog 61 := ⟨⟨_, Try.func61, by kernel_rfl, by kernel_rfl⟩⟩
theorem has62 : FnHas Try.prog 62 := ⟨⟨_, Try.func62, by kernel_rfl, by kernel_rfl⟩⟩
theorem has63 : FnHas Try.prog 63 := ⟨⟨_, Try.func63, by kernel_rfl, by kernel_rfl⟩⟩
theorem has64 : FnHas Try.prog 64 := ⟨⟨_, Try.func64, by kernel_rfl, by kernel_rfl⟩⟩
theorem has65 : FnHas Try.prog 65 := ⟨⟨_, Try.func65, by kernel_rfl, by kernel_rfl⟩⟩
theorem has66 : FnHas Try.prog 66 := ⟨⟨_, Try.func66, by kernel_rfl, by kernel_rfl⟩⟩
theorem has67 : FnHas Try.prog 67 := ⟨⟨_, Try.func67, by kernel_rfl, by kernel_rfl⟩⟩
theorem has68 : FnHas Try.prog 68 := ⟨⟨_, Try.func68, by kernel_rfl, by kernel_rfl⟩⟩
theorem has69 : FnHas Try.prog 69 := ⟨⟨_, Try.func69, by kernel_rfl, by kernel_rfl⟩⟩
theorem has70 : FnHas Try.prog 70 := ⟨⟨_, Try.func70, by kernel_rfl, by kernel_rfl⟩⟩
theorem has71 : FnHas Try.prog 71 := ⟨⟨_, Try.func71, by kernel_rfl, by kernel_rfl⟩⟩
theorem has72 : FnHas Try.prog 72 := ⟨⟨_, Try.func72, by kernel_rfl, by kernel_rfl⟩⟩
theorem has73 : FnHas Try.prog 73 := ⟨⟨_, Try.func73, by kernel_rfl, by kernel_rfl⟩⟩
theorem has74 : FnHas Try.prog 74 := ⟨⟨_, Try.func74, by kernel_rfl, by kernel_rfl⟩⟩
theorem has75 : FnHas Try.prog 75 := ⟨⟨_, Try.func75, by kernel_rfl, by kernel_rfl⟩⟩
theorem has76 : FnHas Try.prog 76 := ⟨⟨_, Try.func76, by kernel_rfl, by kernel_rfl⟩⟩
theorem has77 : FnHas Try.prog 77 := ⟨⟨_, Try.func77, by kernel_rfl, by kernel_rfl⟩⟩
theorem has78 : FnHas Try.prog 78 := ⟨⟨_, Try.func78, by kernel_rfl, by kernel_rfl⟩⟩
theorem has79 : FnHas Try.prog 79 := ⟨⟨_, Try.func79, by kernel_rfl, by kernel_rfl⟩⟩
theorem has80 : FnHas Try.prog 80 := ⟨⟨_, Try.func80, by kernel_rfl, by kernel_rfl⟩⟩
theorem has81 : FnHas Try.prog 81 := ⟨⟨_, Try.func81, by kernel_rfl, by kernel_rfl⟩⟩
theorem has82 : FnHas Try.prog 82 := ⟨⟨_, Try.func82, by kernel_rfl, by kernel_rfl⟩⟩


/-- Mod. -/
def goMod (x n : Int) : Int := if n < 1 then 0 else if x.tmod n < 0 then x.tmod n + n else x.tmod n
theorem tmod_bd (x n : Int) (h : 1 ≤ n) : -n < x.tmod n ∧ x.tmod n < n := by
  have h1 := Int.tmod_lt_of_pos x (show 0 < n by omega)
  have h2 := Int.lt_tmod_of_pos x (show 0 < n by omega)
  omega
theorem goMod_bd (x n : Int) (h : 1 ≤ n) : 0 ≤ goMod x n ∧ goMod x n < n := by
  have := tmod_bd x n h
  unfold goMod
  rw [if_neg (by omega)]
  split <;> omega
def con25 : Con := { ps := [.d false (.int .i64), .d false (.int .i64)], rs := [.d false (.int .i64)], pre := fun _ => True, out := fun x => (goMod x.1 x.2.1, ()), nw := id }
theorem c25 : CtrOk Try.prog 25 con25.ctr :=
  con_sound (G := ⟨[], [], [], []⟩) tab_ok EnvOk.nil rfl Try.func25 rfl con25 2131 (by kernel_rfl) (by decide) (by decide) rfl (by decide) rfl (by
    rintro ⟨(x : Int), (n : Int), _⟩ hpre hwf X hT hG hk hK
    (simp -implicitDefEqProofs only [go_sem, Prod.eta, Option.isSome_none, Option.isSome_some, Int.toNat_zero, Nat.reduceAdd, Nat.reduceMul, Nat.reduceSub, Nat.reduceEqDiff, Nat.reduceLT, Nat.reduceLeDiff, Nat.reduceShiftRight, Nat.reduceMod, Nat.reduceBEq, reduceCtorEq, reduceIte, reduceDIte, Int.reduceNeg, con25, hT, hG, hk, hK, Try.results25] at hwf ⊢); (try simp (disch := decide +kernel) only [drawn, true_and, and_true])
    unfold goMod
    by_cases hn : n < 1
    · simp [hn]
    · have hb := tmod_bd x n (by omega)
      have hn0 : n ≠ 0 := by omega
      simp only [hn, if_false, not_false_eq_true, true_implies, false_implies, true_and]
      refine ⟨⟨hn0, by omega, by omega⟩, fun h => ⟨⟨by omega, by omega⟩, ?_⟩, fun h => ?_⟩
      · rw [if_pos h]
      · rw [if_neg h])

abbrev Src := List Int × Int
def Src.raw (s : Src) : Int := if s.2 ≥ s.1.length then 0 else s.1.getD s.2.toNat 0
def Src.step (s : Src) : Src := if s.2 ≥ s.1.length then s else (s.1, s.2 + 1)
theorem Src.step_pos (s : Src) (h : 0 ≤ s.2) : 0 ≤ s.step.2 := by unfold Src.step; split; exact h; exact Int.le_trans h (by simp only; omega)
def con40 : Con := { ps := [.p 70 (.pair (.sl (.int .i64)) (.int .i64))], rs := [.d false (.int .i64)], pre := fun x => 0 ≤ x.1.2, out := fun x => (Src.raw x.1, ()), nw := fun x => (Src.step x.1, ()) }
theorem c40 : CtrOk Try.prog 40 con40.ctr :=
  con_sound (G := ⟨[], [], [], []⟩) tab_ok EnvOk.nil rfl Try.func40 rfl con40 4101 (by kernel_rfl) (by decide) (by decide) rfl (by decide) rfl (by
    rintro ⟨⟨(l : List Int), (a : Int)⟩, _⟩ hpre hwf X hT hG hk hK
    (simp -implicitDefEqProofs only [go_sem, Prod.eta, Option.isSome_none, Option.isSome_some, Int.toNat_zero, Nat.reduceAdd, Nat.reduceMul, Nat.reduceSub, Nat.reduceEqDiff, Nat.reduceLT, Nat.reduceLeDiff, Nat.reduceShiftRight, Nat.reduceMod, Nat.reduceBEq, reduceCtorEq, reduceIte, reduceDIte, Int.reduceNeg, con40, hT, hG, hk, hK, Try.results40] at hwf ⊢); (try simp (disch := decide +kernel) only [drawn, true_and, and_true])
    intro hl
    have hpre : 0 ≤ a := hpre
    have hl' := hl
    simp only [maxLen] at hl'
    unfold Src.step Src.raw
    refine ⟨fun h => ?_, fun h => ⟨⟨by omega, by omega⟩, ⟨by omega, by omega⟩, ⟨by omega, by omega⟩, fun _ _ => ?_⟩⟩
    · simp [show (a : Int) ≥ (l.length : Int) from h]
    · simp [show ¬ (a : Int) ≥ (l.length : Int) from h])

def con16 : Con := { ps := [.p 70 (.pair (.sl (.int .i64)) (.int .i64)), .d false (.int .i64)], rs := [.d false (.int .i64)], pre := fun x => 0 ≤ x.1.2, out := fun x => (goMod (Src.raw x.1) x.2.1, ()), nw := fun x => (Src.step x.1, x.2) }
theorem c16 : CtrOk Try.prog 16 con16.ctr :=
  con_sound (G := ⟨[(40, con40.ctr), (25, con25.ctr)], [], [], []⟩) tab_ok (EnvOk.cons c40 has40 (EnvOk.cons c25 has25 EnvOk.nil)) rfl Try.func16 rfl con16 19 (by kernel_rfl) (by decide) (by decide) rfl (by decide) rfl (by
    rintro ⟨⟨(l : List Int), (a : Int)⟩, (n : Int), _⟩ hpre hwf X hT hG hk hK
    (simp -implicitDefEqProofs only [go_sem, Prod.eta, Option.isSome_none, Option.isSome_some, Int.toNat_zero, Nat.reduceAdd, Nat.reduceMul, Nat.reduceSub, Nat.reduceEqDiff, Nat.reduceLT, Nat.reduceLeDiff, Nat.reduceShiftRight, Nat.reduceMod, Nat.reduceBEq, reduceCtorEq, reduceIte, reduceDIte, Int.reduceNeg, con16, con40, con25, hT, hG, hk, hK, Try.results16] at hwf ⊢); (try simp (disch := decide +kernel) only [drawn, true_and, and_true])
    exact hpre)

def con10 : Con := { ps := [.d false (.sl (.int .i64))], rs := [.p 70 (.pair (.sl (.int .i64)) (.int .i64))], pre := fun x => True, out := fun x => ((x.1.take 2000, 0), ()), nw := id }
theorem c10 : CtrOk Try.prog 10 con10.ctr :=
  con_sound (G := ⟨[], [], [], []⟩) tab_ok EnvOk.nil rfl Try.func10 rfl con10 37 (by kernel_rfl) (by decide) (by decide) rfl (by decide) rfl (by
    rintro ⟨(l : List Int), _⟩ hpre hwf X hT hG hk hK
    (simp -implicitDefEqProofs only [go_sem, Prod.eta, Option.isSome_none, Option.isSome_some, Int.toNat_zero, Nat.reduceAdd, Nat.reduceMul, Nat.reduceSub, Nat.reduceEqDiff, Nat.reduceLT, Nat.reduceLeDiff, Nat.reduceShiftRight, Nat.reduceMod, Nat.reduceBEq, reduceCtorEq, reduceIte, reduceDIte, Int.reduceNeg, con10, hT, hG, hk, hK, Try.results10] at hwf ⊢); (try simp (disch := decide +kernel) only [drawn, true_and, and_true])
    refine fun _ => ⟨fun h => ⟨⟨by omega, by omega, by omega⟩, rfl⟩, fun h => ?_⟩
    rw [List.take_of_length_le (by omega)])
def con36 : Con := { ps := [.p 70 (.pair (.sl (.int .i64)) (.int .i64)), .d false (.sl (.int .i64))], rs := [.d false (.int .i64)], pre := fun (x : Src × List Int × Unit) => 0 ≤ x.1.2 ∧ 0 < x.2.1.length, out := fun (x : Src × List Int × Unit) => (x.2.1.getD (goMod (Src.raw x.1) x.2.1.length).toNat 0, ()), nw := fun x => (Src.step x.1, x.2) }
theorem c36 : CtrOk Try.prog 36 con36.ctr :=
  con_sound (G := ⟨[(16, con16.ctr)], [], [], []⟩) tab_ok (EnvOk.cons c16 has16 EnvOk.nil) rfl Try.func36 rfl con36 19 (by kernel_rfl) (by decide) (by decide) rfl (by decide) rfl (by
    rintro ⟨⟨(l : List Int), (a : Int)⟩, (s : List Int), _⟩ hpre hwf X hT hG hk hK
    obtain ⟨h1, h2⟩ : 0 ≤ a ∧ 0 < s.length := hpre
    (simp -implicitDefEqProofs only [go_sem, Prod.eta, Option.isSome_none, Option.isSome_some, Int.toNat_zero, Nat.reduceAdd, Nat.reduceMul, Nat.reduceSub, Nat.reduceEqDiff, Nat.reduceLT, Nat.reduceLeDiff, Nat.reduceShiftRight, Nat.reduceMod, Nat.reduceBEq, reduceCtorEq, reduceIte, reduceDIte, Int.reduceNeg, Bool.not_eq_true', Bool.not_eq_false', Bool.or_eq_true, Bool.or_eq_false_iff, Bool.and_eq_true, Bool.and_eq_false_iff, decide_eq_true_eq, decide_eq_false_iff_not, Classical.not_not, not_or, maxLen, con36, con16, hT, hG, hk, hK, Try.results36] at hwf ⊢); (try simp (disch := decide +kernel) only [drawn, true_and, and_true])
    have := goMod_bd (Src.raw (l, a)) s.length (by omega)
    (repeat' (with_reducible (first | refine And.intro ?_ ?_ | intro _))) <;> (try (first | with_reducible (first | done | assumption | omega | contradiction) | decide)))
def con39 : Con := { ps := [.p 70 (.pair (.sl (.int .i64)) (.int .i64)), .d false (.sl .str)], rs := [.d false .str], pre := fun (x : Src × List ByteArray × Unit) => 0 ≤ x.1.2 ∧ 0 < x.2.1.length, out := fun (x : Src × List ByteArray × Unit) => (x.2.1.getD (goMod x.1.raw x.2.1.length).toNat ByteArray.empty, ()), nw := fun x => (Src.step x.1, x.2) }
theorem c39 : CtrOk Try.prog 39 con39.ctr :=
  con_sound (G := ⟨[(16, con16.ctr)], [], [], []⟩) tab_ok (EnvOk.cons c16 has16 EnvOk.nil) rfl Try.func39 rfl con39 19 (by kernel_rfl) (by decide) (by decide) rfl (by decide) rfl (by
    rintro ⟨⟨(l : List Int), (a : Int)⟩, (s : List ByteArray), _⟩ hpre hwf X hT hG hk hK
    obtain ⟨h1, h2⟩ : 0 ≤ a ∧ 0 < s.length := hpre
    (simp -implicitDefEqProofs only [go_sem, Prod.eta, Option.isSome_none, Option.isSome_some, Int.toNat_zero, Nat.reduceAdd, Nat.reduceMul, Nat.reduceSub, Nat.reduceEqDiff, Nat.reduceLT, Nat.reduceLeDiff, Nat.reduceShiftRight, Nat.reduceMod, Nat.reduceBEq, reduceCtorEq, reduceIte, reduceDIte, Int.reduceNeg, Bool.not_eq_true', Bool.not_eq_false', Bool.or_eq_true, Bool.or_eq_false_iff, Bool.and_eq_true, Bool.and_eq_false_iff, decide_eq_true_eq, decide_eq_false_iff_not, Classical.not_not, not_or, maxLen, con39, con16, hT, hG, hk, hK, Try.results39] at hwf ⊢); (try simp (disch := decide +kernel) only [drawn, true_and, and_true])
    have := goMod_bd (Src.raw (l, a)) s.length (by omega)
    (repeat' (with_reducible (first | refine And.intro ?_ ?_ | intro _))) <;> (try (first | with_reducible (first | done | assumption | omega | contradiction) | decide)))
def strs3 : List ByteArray := [⟨#[66, 65]⟩, ⟨#[76, 72]⟩, ⟨#[83, 75]⟩]
abbrev Flt := ByteArray × Int × ByteArray × Int
def fltsV (n : Int) : Flt := (strs3.getD (goMod n 27 / 9).toNat ByteArray.empty, 1 + goMod n 27 / 3 % 3, ByteArray.empty, 1 + goMod n 27 % 3)
def con66 : Con := { ps := [.d false (.int .i64)], rs := [.d true (.pair .str (.pair (.int .i64) (.pair .str (.int .i64))))], pre := fun _ => True, out := fun x => (fltsV x.1, ()), nw := id }
theorem c66 : CtrOk Try.prog 66 con66.ctr :=
  con_sound (G := ⟨[(25, con25.ctr)], [], [], []⟩) tab_ok (EnvOk.cons c25 has25 EnvOk.nil) rfl Try.func66 rfl con66 5 (by kernel_rfl) (by decide) (by decide) rfl (by decide) rfl (by
    rintro ⟨(n : Int), _⟩ hpre hwf X hT hG hk hK
    (simp -implicitDefEqProofs only [go_sem, Prod.eta, Option.isSome_none, Option.isSome_some, Int.toNat_zero, Nat.reduceAdd, Nat.reduceMul, Nat.reduceSub, Nat.reduceEqDiff, Nat.reduceLT, Nat.reduceLeDiff, Nat.reduceShiftRight, Nat.reduceMod, Nat.reduceBEq, reduceCtorEq, reduceIte, reduceDIte, Int.reduceNeg, Bool.not_eq_true', Bool.not_eq_false', Bool.or_eq_true, Bool.or_eq_false_iff, Bool.and_eq_true, Bool.and_eq_false_iff, decide_eq_true_eq, decide_eq_false_iff_not, Classical.not_not, not_or, maxLen, con66, con25, hT, hG, hk, hK, Try.results66] at hwf ⊢); (try simp (disch := decide +kernel) only [drawn, true_and, and_true])
    have hb := goMod_bd n 27 (by omega)
    have e : fltsV n = (strs3.getD (goMod n 27 / 9).toNat ByteArray.empty, 1 + goMod n 27 / 3 % 3, ByteArray.empty, 1 + goMod n 27 % 3) := rfl
    rw [e]
    generalize goMod n 27 = k at hb ⊢
    have e1 : k.tdiv 9 = k / 9 := Int.tdiv_eq_ediv_of_nonneg hb.1
    have e2 : k.tdiv 3 = k / 3 := Int.tdiv_eq_ediv_of_nonneg hb.1
    have e3 : k.tmod 3 = k % 3 := Int.tmod_eq_emod_of_nonneg hb.1
    have e4 : (k / 3).tmod 3 = k / 3 % 3 := Int.tmod_eq_emod_of_nonneg (by omega)
    simp only [e1, e2, e3, e4]
    (repeat' (with_reducible (first | refine And.intro ?_ ?_ | intro _))) <;> (try (first | with_reducible (first | done | assumption | omega | contradiction) | decide))
    all_goals rfl)
def ports : List ByteArray := [⟨#[67, 80, 72]⟩, ⟨#[76, 72, 82]⟩, ⟨#[70, 82, 65]⟩, ⟨#[79, 83, 76]⟩, ⟨#[65, 82, 78]⟩]
def portV (s : Src) : ByteArray := ports.getD (goMod s.raw 5).toNat ByteArray.empty
def con15 : Con := { ps := [.p 70 (.pair (.sl (.int .i64)) (.int .i64))], rs := [.d false .str], pre := fun (x : Src × Unit) => 0 ≤ x.1.2, out := fun (x : Src × Unit) => (portV x.1, ()), nw := fun x => (Src.step x.1, x.2) }
theorem c15 : CtrOk Try.prog 15 con15.ctr :=
  con_sound (G := ⟨[(39, con39.ctr)], [], [], []⟩) tab_ok (EnvOk.cons c39 has39 EnvOk.nil) rfl Try.func15 rfl con15 5 (by kernel_rfl) (by decide) (by decide) rfl (by decide) rfl (by
    rintro ⟨⟨(l : List Int), (a : Int)⟩, _⟩ hpre hwf X hT hG hk hK
    have h1 : 0 ≤ a := hpre
    (simp -implicitDefEqProofs only [go_sem, Prod.eta, Option.isSome_none, Option.isSome_some, Int.toNat_zero, Nat.reduceAdd, Nat.reduceMul, Nat.reduceSub, Nat.reduceEqDiff, Nat.reduceLT, Nat.reduceLeDiff, Nat.reduceShiftRight, Nat.reduceMod, Nat.reduceBEq, reduceCtorEq, reduceIte, reduceDIte, Int.reduceNeg, Bool.not_eq_true', Bool.not_eq_false', Bool.or_eq_true, Bool.or_eq_false_iff, Bool.and_eq_true, Bool.and_eq_false_iff, decide_eq_true_eq, decide_eq_false_iff_not, Classical.not_not, not_or, maxLen, con15, con39, hT, hG, hk, hK, Try.results15] at hwf ⊢); (try simp (disch := decide +kernel) only [drawn, true_and, and_true])
    (repeat' (with_reducible (first | refine And.intro ?_ ?_ | intro _))) <;> (try (first | with_reducible (first | done | assumption | omega | contradiction) | decide))
    all_goals rfl)
def flightV (s : Src) : Flt := (([⟨#[83, 75]⟩, ⟨#[66, 65]⟩, ⟨#[76, 72]⟩] : List ByteArray).getD (goMod s.raw 3).toNat ByteArray.empty, 1 + goMod s.step.raw 3, ByteArray.empty, 1 + goMod s.step.step.raw 3)
def con34 : Con := { ps := [.p 70 (.pair (.sl (.int .i64)) (.int .i64))], rs := [.d true (.pair .str (.pair (.int .i64) (.pair .str (.int .i64))))], pre := fun (x : Src × Unit) => 0 ≤ x.1.2, out := fun (x : Src × Unit) => (flightV x.1, ()), nw := fun x => (Src.step (Src.step (Src.step x.1)), x.2) }
theorem c34 : CtrOk Try.prog 34 con34.ctr :=
  con_sound (G := ⟨[(16, con16.ctr), (39, con39.ctr)], [], [], []⟩) tab_ok (EnvOk.cons c16 has16 (EnvOk.cons c39 has39 EnvOk.nil)) rfl Try.func34 rfl con34 5 (by kernel_rfl) (by decide) (by decide) rfl (by decide) rfl (by
    rintro ⟨⟨(l : List Int), (a : Int)⟩, _⟩ hpre hwf X hT hG hk hK
    have h1 : 0 ≤ a := hpre
    (simp -implicitDefEqProofs only [go_sem, Prod.eta, Option.isSome_none, Option.isSome_some, Int.toNat_zero, Nat.reduceAdd, Nat.reduceMul, Nat.reduceSub, Nat.reduceEqDiff, Nat.reduceLT, Nat.reduceLeDiff, Nat.reduceShiftRight, Nat.reduceMod, Nat.reduceBEq, reduceCtorEq, reduceIte, reduceDIte, Int.reduceNeg, Bool.not_eq_true', Bool.not_eq_false', Bool.or_eq_true, Bool.or_eq_false_iff, Bool.and_eq_true, Bool.and_eq_false_iff, decide_eq_true_eq, decide_eq_false_iff_not, Classical.not_not, not_or, maxLen, con34, con16, con39, hT, hG, hk, hK, Try.results34] at hwf ⊢); (try simp (disch := decide +kernel) only [drawn, true_and, and_true])
    have p1 := Src.step_pos (l, a) h1
    have p2 := Src.step_pos _ p1
    have q1 := goMod_bd (Src.raw (Src.step (l, a))) 3 (by omega)
    have q2 := goMod_bd (Src.raw (Src.step (Src.step (l, a)))) 3 (by omega)
    (repeat' (with_reducible (first | refine And.intro ?_ ?_ | intro _))) <;> (try (first | with_reducible (first | done | assumption | omega | contradiction) | decide))
    all_goals rfl)
def portsA : List ByteArray := [⟨#[65, 82, 78]⟩, ⟨#[67, 80, 72]⟩, ⟨#[70, 82, 65]⟩, ⟨#[76, 72, 82]⟩, ⟨#[79, 83, 76]⟩]
def con35 : Con := { ps := [], rs := [.d false (.sl .str)], pre := fun _ => True, out := fun _ => (portsA, ()), nw := id }
theorem c35 : CtrOk Try.prog 35 con35.ctr :=
  con_sound (G := ⟨[], [], [], []⟩) tab_ok EnvOk.nil rfl Try.func35 rfl con35 1 (by kernel_rfl) (by decide) (by decide) rfl (by decide) rfl (by
    rintro _ hpre hwf X hT hG hk hK
    (simp -implicitDefEqProofs only [go_sem, Prod.eta, Option.isSome_none, Option.isSome_some, Int.toNat_zero, Nat.reduceAdd, Nat.reduceMul, Nat.reduceSub, Nat.reduceEqDiff, Nat.reduceLT, Nat.reduceLeDiff, Nat.reduceShiftRight, Nat.reduceMod, Nat.reduceBEq, reduceCtorEq, reduceIte, reduceDIte, Int.reduceNeg, Bool.not_eq_true', Bool.not_eq_false', Bool.or_eq_true, Bool.or_eq_false_iff, Bool.and_eq_true, Bool.and_eq_false_iff, decide_eq_true_eq, decide_eq_false_iff_not, Classical.not_not, not_or, maxLen, con35, hT, hG, hk, hK, Try.results35] at hwf ⊢); (try simp (disch := decide +kernel) only [drawn, true_and, and_true])
    all_goals rfl)
abbrev Svc := Flt × ByteArray × ByteArray × Int × Int × Int
end Go.Proofs.Ytjeinbfnbcempaa

/- The contracts of the functions that the statements about forwarding reach: what is valid. -/
set_option linter.unusedSimpArgs false
set_option linter.unusedVariables false
set_option maxRecDepth 100000
set_option maxHeartbeats 4000000
namespace Go.Proofs.Ytjeinbfnbcempaa
open Go.Ev

def inV (n a b : Int) : Bool := decide (a ≤ n) && decide (n ≤ b)
def con60 : Con := { ps := [.d false (.int .i64), .d false (.int .i64), .d false (.int .i64)], rs := [.d false .bool], pre := fun _ => True, out := fun x => (inV x.1 x.2.1 x.2.2.1, ()), nw := id }
theorem c60 : CtrOk Try.prog 60 con60.ctr :=
  con_sound (G := ⟨[], [], [], []⟩) tab_ok EnvOk.nil rfl Try.func60 rfl con60 71 (by kernel_rfl) (by decide) (by decide) rfl (by decide) rfl (by
    rintro ⟨(n : Int), (a : Int), (b : Int), _⟩ hpre hwf X hT hG hk hK
    (simp -implicitDefEqProofs only [go_sem, Prod.eta, Option.isSome_none, Option.isSome_some, Int.toNat_zero, Nat.reduceAdd, Nat.reduceMul, Nat.reduceSub, Nat.reduceEqDiff, Nat.reduceLT, Nat.reduceLeDiff, Nat.reduceShiftRight, Nat.reduceMod, Nat.reduceBEq, reduceCtorEq, reduceIte, reduceDIte, Int.reduceNeg, Bool.not_eq_true', Bool.not_eq_false', Bool.or_eq_true, Bool.or_eq_false_iff, Bool.and_eq_true, Bool.and_eq_false_iff, decide_eq_true_eq, decide_eq_false_iff_not, Classical.not_not, not_or, maxLen, con60, hT, hG, hk, hK, Try.results60] at hwf ⊢); (try simp (disch := decide +kernel) only [drawn, true_and, and_true])
    (repeat' (with_reducible (first | refine And.intro ?_ ?_ | intro _))) <;> (try (first | with_reducible (first | done | assumption | omega | contradiction) | decide))
    rfl)
def letterV (n : Int) : Bool := decide (65 ≤ n) && decide (n ≤ 90)
def con79 : Con := { ps := [.d false (.int .u8)], rs := [.d false .bool], pre := fun _ => True, out := fun x => (letterV x.1, ()), nw := id }
theorem c79 : CtrOk Try.prog 79 con79.ctr :=
  con_sound (G := ⟨[], [], [], []⟩) tab_ok EnvOk.nil rfl Try.func79 rfl con79 5 (by kernel_rfl) (by decide) (by decide) rfl (by decide) rfl (by
    rintro ⟨(n : Int), _⟩ hpre hwf X hT hG hk hK
    (simp -implicitDefEqProofs only [go_sem, Prod.eta, Option.isSome_none, Option.isSome_some, Int.toNat_zero, Nat.reduceAdd, Nat.reduceMul, Nat.reduceSub, Nat.reduceEqDiff, Nat.reduceLT, Nat.reduceLeDiff, Nat.reduceShiftRight, Nat.reduceMod, Nat.reduceBEq, reduceCtorEq, reduceIte, reduceDIte, Int.reduceNeg, Bool.not_eq_true', Bool.not_eq_false', Bool.or_eq_true, Bool.or_eq_false_iff, Bool.and_eq_true, Bool.and_eq_false_iff, decide_eq_true_eq, decide_eq_false_iff_not, Classical.not_not, not_or, maxLen, con79, hT, hG, hk, hK, Try.results79] at hwf ⊢); (try simp (disch := decide +kernel) only [drawn, true_and, and_true])
    (repeat' (with_reducible (first | refine And.intro ?_ ?_ | intro _))) <;> (try (first | with_reducible (first | done | assumption | omega | contradiction) | decide))
    rfl)
def digitV (n : Int) : Bool := decide (48 ≤ n) && decide (n ≤ 57)
def con80 : Con := { ps := [.d false (.int .u8)], rs := [.d false .bool], pre := fun _ => True, out := fun x => (digitV x.1, ()), nw := id }
theorem c80 : CtrOk Try.prog 80 con80.ctr :=
  con_sound (G := ⟨[], [], [], []⟩) tab_ok EnvOk.nil rfl Try.func80 rfl con80 5 (by kernel_rfl) (by decide) (by decide) rfl (by decide) rfl (by
    rintro ⟨(n : Int), _⟩ hpre hwf X hT hG hk hK
    (simp -implicitDefEqProofs only [go_sem, Prod.eta, Option.isSome_none, Option.isSome_some, Int.toNat_zero, Nat.reduceAdd, Nat.reduceMul, Nat.reduceSub, Nat.reduceEqDiff, Nat.reduceLT, Nat.reduceLeDiff, Nat.reduceShiftRight, Nat.reduceMod, Nat.reduceBEq, reduceCtorEq, reduceIte, reduceDIte, Int.reduceNeg, Bool.not_eq_true', Bool.not_eq_false', Bool.or_eq_true, Bool.or_eq_false_iff, Bool.and_eq_true, Bool.and_eq_false_iff, decide_eq_true_eq, decide_eq_false_iff_not, Classical.not_not, not_or, maxLen, con80, hT, hG, hk, hK, Try.results80] at hwf ⊢); (try simp (disch := decide +kernel) only [drawn, true_and, and_true])
    (repeat' (with_reducible (first | refine And.intro ?_ ?_ | intro _))) <;> (try (first | with_reducible (first | done | assumption | omega | contradiction) | decide))
    rfl)
/-- All bytes from a place on. -/
def allFrom (p : Int → Bool) (s : ByteArray) : Nat → Nat → Bool
  | _, 0 => true
  | i, n + 1 => p (byteAt s i) && allFrom p s (i + 1) n
def con81 : Con := { ps := [.d false .str, .cl 79 []], rs := [.d false .bool], pre := fun _ => True, out := fun x => (allFrom letterV x.1 0 (ByteArray.size x.1), ()), nw := id }
theorem c81 : CtrOk Try.prog 81 con81.ctr :=
  con_sound (G := ⟨[(79, con79.ctr)], [], [], []⟩) tab_ok (EnvOk.cons c79 has79 EnvOk.nil) rfl Try.func81 rfl con81 66483 (by kernel_rfl) (by decide) (by decide) rfl (by decide) rfl (by
    rintro ⟨(s : ByteArray), _⟩ hpre hwf X hT hG hk hK
    (simp -implicitDefEqProofs only [go_sem, Prod.eta, Option.isSome_none, Option.isSome_some, Int.toNat_zero, Nat.reduceAdd, Nat.reduceMul, Nat.reduceSub, Nat.reduceEqDiff, Nat.reduceLT, Nat.reduceLeDiff, Nat.reduceShiftRight, Nat.reduceMod, Nat.reduceBEq, reduceCtorEq, reduceIte, reduceDIte, Int.reduceNeg, Bool.not_eq_true', Bool.not_eq_false', Bool.or_eq_true, Bool.or_eq_false_iff, Bool.and_eq_true, Bool.and_eq_false_iff, decide_eq_true_eq, decide_eq_false_iff_not, Classical.not_not, not_or, maxLen, con81, con79, hT, hG, hk, hK, Try.results81] at hwf ⊢); (try simp (disch := decide +kernel) only [drawn, true_and, and_true])
    intro hl
    refine evk_loop ⟨{ i : Nat // i ≤ s.size ∧ allFrom letterV s 0 s.size = allFrom letterV s i (s.size - i) }, 1000, fun i => [(0, .one (.str s)), (1, .one (.fn 79 [])), (7, .one (.int .i64 s.size)), (8, .one (.int .i64 i.1))], fun _ => [], fun i => s.size - i.1⟩ ⟨0, by simp, by simp⟩ ?_ ?_
    · simp only [go_sem, Prod.eta, Option.isSome_none, Option.isSome_some, Int.toNat_zero, Nat.reduceAdd, Nat.reduceMul, Nat.reduceSub, Nat.reduceEqDiff, Nat.reduceLT, Nat.reduceLeDiff, Nat.reduceShiftRight, Nat.reduceMod, Nat.reduceBEq, reduceCtorEq, reduceIte, reduceDIte, Int.reduceNeg]
      rfl
    · rintro ⟨i, (hi : i ≤ s.size), (he : allFrom letterV s 0 s.size = allFrom letterV s i (s.size - i))⟩
      (simp -implicitDefEqProofs only [go_sem, Prod.eta, Option.isSome_none, Option.isSome_some, Int.toNat_zero, Nat.reduceAdd, Nat.reduceMul, Nat.reduceSub, Nat.reduceEqDiff, Nat.reduceLT, Nat.reduceLeDiff, Nat.reduceShiftRight, Nat.reduceMod, Nat.reduceBEq, reduceCtorEq, reduceIte, reduceDIte, Int.reduceNeg, Bool.not_eq_true', Bool.not_eq_false', Bool.or_eq_true, Bool.or_eq_false_iff, Bool.and_eq_true, Bool.and_eq_false_iff, decide_eq_true_eq, decide_eq_false_iff_not, Classical.not_not, not_or, maxLen, con81, con79, hT, hG, hk, hK, Try.results81]); (try simp (disch := decide +kernel) only [drawn, true_and, and_true])
      refine ⟨fun hlt => ?_, fun hge => ?_⟩
      · have hi' : i < s.size := by omega
        have hst : allFrom letterV s 0 s.size = (letterV (byteAt s i) && allFrom letterV s (i + 1) (s.size - (i + 1))) := by
          rw [he, show s.size - i = (s.size - (i + 1)) + 1 by omega, allFrom]
        (repeat' (with_reducible (first | refine And.intro ?_ ?_ | intro _))) <;> (try (first | with_reducible (first | done | assumption | omega | contradiction) | decide))
        · rename_i h
          rw [hst, h]; rfl
        · rename_i h
          refine fin_lp ⟨i + 1, by omega, ?_⟩ ?_ ?_
          · show allFrom letterV s 0 s.size = allFrom letterV s (i + 1) (s.size - (i + 1))
            rw [hst, h]; rfl
          · simp only [go_sem, Prod.eta, Option.isSome_none, Option.isSome_some, Int.toNat_zero, Nat.reduceAdd, Nat.reduceMul, Nat.reduceSub, Nat.reduceEqDiff, Nat.reduceLT, Nat.reduceLeDiff, Nat.reduceShiftRight, Nat.reduceMod, Nat.reduceBEq, reduceCtorEq, reduceIte, reduceDIte, Int.reduceNeg]
            rfl
          · show s.size - (i + 1) < s.size - i
            omega
      · rw [he, show s.size - i = 0 by omega]
        rfl)
def lettersV (s : ByteArray) (a b : Int) : Bool := decide ((s.size : Int) ≥ a) && decide ((s.size : Int) ≤ b) && allFrom letterV s 0 s.size
def con71 : Con := { ps := [.d false .str, .d false (.int .i64), .d false (.int .i64)], rs := [.d false .bool], pre := fun _ => True, out := fun x => (lettersV x.1 x.2.1 x.2.2.1, ()), nw := id }
theorem c71 : CtrOk Try.prog 71 con71.ctr :=
  con_sound (G := ⟨[(81, con81.ctr)], [], [], []⟩) tab_ok (EnvOk.cons c81 has81 EnvOk.nil) rfl Try.func71 rfl con71 71 (by kernel_rfl) (by decide) (by decide) rfl (by decide) rfl (by
    rintro ⟨(s : ByteArray), (a : Int), (b : Int), _⟩ hpre hwf X hT hG hk hK
    (simp -implicitDefEqProofs only [go_sem, Prod.eta, Option.isSome_none, Option.isSome_some, Int.toNat_zero, Nat.reduceAdd, Nat.reduceMul, Nat.reduceSub, Nat.reduceEqDiff, Nat.reduceLT, Nat.reduceLeDiff, Nat.reduceShiftRight, Nat.reduceMod, Nat.reduceBEq, reduceCtorEq, reduceIte, reduceDIte, Int.reduceNeg, Bool.not_eq_true', Bool.not_eq_false', Bool.or_eq_true, Bool.or_eq_false_iff, Bool.and_eq_true, Bool.and_eq_false_iff, decide_eq_true_eq, decide_eq_false_iff_not, Classical.not_not, not_or, maxLen, con71, con81, hT, hG, hk, hK, Try.results71] at hwf ⊢); (try simp (disch := decide +kernel) only [drawn, true_and, and_true])
    (repeat' (with_reducible (first | refine And.intro ?_ ?_ | intro _))) <;> (try (first | with_reducible (first | done | assumption | omega | contradiction) | decide))
    rfl)
def con59 : Con := { ps := [.d false .str], rs := [.d false .bool], pre := fun _ => True, out := fun x => (lettersV x.1 3 3, ()), nw := id }
theorem c59 : CtrOk Try.prog 59 con59.ctr :=
  con_sound (G := ⟨[(71, con71.ctr)], [], [], []⟩) tab_ok (EnvOk.cons c71 has71 EnvOk.nil) rfl Try.func59 rfl con59 5 (by kernel_rfl) (by decide) (by decide) rfl (by decide) rfl (by
    rintro ⟨(s : ByteArray), _⟩ hpre hwf X hT hG hk hK
    (simp -implicitDefEqProofs only [go_sem, Prod.eta, Option.isSome_none, Option.isSome_some, Int.toNat_zero, Nat.reduceAdd, Nat.reduceMul, Nat.reduceSub, Nat.reduceEqDiff, Nat.reduceLT, Nat.reduceLeDiff, Nat.reduceShiftRight, Nat.reduceMod, Nat.reduceBEq, reduceCtorEq, reduceIte, reduceDIte, Int.reduceNeg, Bool.not_eq_true', Bool.not_eq_false', Bool.or_eq_true, Bool.or_eq_false_iff, Bool.and_eq_true, Bool.and_eq_false_iff, decide_eq_true_eq, decide_eq_false_iff_not, Classical.not_not, not_or, maxLen, con59, con71, hT, hG, hk, hK, Try.results59] at hwf ⊢); (try simp (disch := decide +kernel) only [drawn, true_and, and_true]))
def carF (s : ByteArray) : Nat → Nat → Nat → Bool
  | _, 0, k => decide (0 < k)
  | i, n + 1, k => if letterV (byteAt s i) then carF s (i + 1) n (k + 1) else if digitV (byteAt s i) then carF s (i + 1) n k else false
def carrierV (s : ByteArray) : Bool := if (s.size : Int) ≠ 2 then false else carF s 0 s.size 0
def con70 : Con := { ps := [.d false .str], rs := [.d false .bool], pre := fun _ => True, out := fun x => (carrierV x.1, ()), nw := id }
theorem c70 : CtrOk Try.prog 70 con70.ctr :=
  con_sound (G := ⟨[(79, con79.ctr), (80, con80.ctr)], [], [], []⟩) tab_ok (EnvOk.cons c79 has79 (EnvOk.cons c80 has80 EnvOk.nil)) rfl Try.func70 rfl con70 1060509 (by kernel_rfl) (by decide) (by decide) rfl (by decide) rfl (by
    rintro ⟨(s : ByteArray), _⟩ hpre hwf X hT hG hk hK
    (simp -implicitDefEqProofs only [go_sem, Prod.eta, Option.isSome_none, Option.isSome_some, Int.toNat_zero, Nat.reduceAdd, Nat.reduceMul, Nat.reduceSub, Nat.reduceEqDiff, Nat.reduceLT, Nat.reduceLeDiff, Nat.reduceShiftRight, Nat.reduceMod, Nat.reduceBEq, reduceCtorEq, reduceIte, reduceDIte, Int.reduceNeg, Bool.not_eq_true', Bool.not_eq_false', Bool.or_eq_true, Bool.or_eq_false_iff, Bool.and_eq_true, Bool.and_eq_false_iff, decide_eq_true_eq, decide_eq_false_iff_not, Classical.not_not, not_or, maxLen, con70, con79, con80, hT, hG, hk, hK, Try.results70] at hwf ⊢); (try simp (disch := decide +kernel) only [drawn, true_and, and_true])
    (repeat' (with_reducible (first | refine And.intro ?_ ?_ | intro _))) <;> (try (first | with_reducible (first | done | assumption | omega | contradiction) | decide))
    · rename_i h
      unfold carrierV; rw [if_pos h]
    · rename_i h2 hl
      have e0 : carrierV s = carF s 0 s.size 0 := by unfold carrierV; rw [if_neg (by omega)]
      refine evk_loop ⟨{ q : Nat × Nat // q.1 ≤ s.size ∧ q.2 ≤ q.1 ∧ carF s 0 s.size 0 = carF s q.1 (s.size - q.1) q.2 }, 1000, fun q => [(0, .one (.str s)), (3, .one (.int .i64 q.1.2)), (9, .one (.int .i64 s.size)), (10, .one (.int .i64 q.1.1))], fun _ => [], fun q => s.size - q.1.1⟩ ⟨(0, 0), by simp, by simp, by simp⟩ ?_ ?_
      · simp only [go_sem, Prod.eta, Option.isSome_none, Option.isSome_some, Int.toNat_zero, Nat.reduceAdd, Nat.reduceMul, Nat.reduceSub, Nat.reduceEqDiff, Nat.reduceLT, Nat.reduceLeDiff, Nat.reduceShiftRight, Nat.reduceMod, Nat.reduceBEq, reduceCtorEq, reduceIte, reduceDIte, Int.reduceNeg]
        rfl
      · rintro ⟨⟨i, k⟩, (hi : i ≤ s.size), (hki : k ≤ i), (he : carF s 0 s.size 0 = carF s i (s.size - i) k)⟩
        (simp -implicitDefEqProofs only [go_sem, Prod.eta, Option.isSome_none, Option.isSome_some, Int.toNat_zero, Nat.reduceAdd, Nat.reduceMul, Nat.reduceSub, Nat.reduceEqDiff, Nat.reduceLT, Nat.reduceLeDiff, Nat.reduceShiftRight, Nat.reduceMod, Nat.reduceBEq, reduceCtorEq, reduceIte, reduceDIte, Int.reduceNeg, Bool.not_eq_true', Bool.not_eq_false', Bool.or_eq_true, Bool.or_eq_false_iff, Bool.and_eq_true, Bool.and_eq_false_iff, decide_eq_true_eq, decide_eq_false_iff_not, Classical.not_not, not_or, maxLen, con70, con79, con80, hT, hG, hk, hK, Try.results70]); (try simp (disch := decide +kernel) only [drawn, true_and, and_true])
        refine ⟨fun hlt => ?_, fun hge => ?_⟩
        · have hi' : i < s.size := by omega
          have hst : carF s 0 s.size 0 = if letterV (byteAt s i) then carF s (i + 1) (s.size - (i + 1)) (k + 1) else if digitV (byteAt s i) then carF s (i + 1) (s.size - (i + 1)) k else false := by
            rw [he, show s.size - i = (s.size - (i + 1)) + 1 by omega, carF]
          (repeat' (with_reducible (first | refine And.intro ?_ ?_ | intro _))) <;> (try (first | with_reducible (first | done | assumption | omega | contradiction) | decide))
          · rename_i h
            refine fin_lp ⟨(i + 1, k + 1), by omega, by omega, by dsimp only; rw [hst, if_pos h]⟩ (by simp only [go_sem, Prod.eta, Option.isSome_none, Option.isSome_some, Int.toNat_zero, Nat.reduceAdd, Nat.reduceMul, Nat.reduceSub, Nat.reduceEqDiff, Nat.reduceLT, Nat.reduceLeDiff, Nat.reduceShiftRight, Nat.reduceMod, Nat.reduceBEq, reduceCtorEq, reduceIte, reduceDIte, Int.reduceNeg]; first | rfl | ((repeat' apply And.intro) <;> first | rfl | assumption | omega)) (by dsimp only; omega)
          · rename_i h1 h
            rw [e0, hst, if_neg (by rw [h1]; simp), if_neg (by rw [h]; simp)]
          · rename_i h1 h
            refine fin_lp ⟨(i + 1, k), by omega, by omega, by dsimp only; rw [hst, if_neg (by rw [h1]; simp), if_pos h]⟩ (by simp only [go_sem, Prod.eta, Option.isSome_none, Option.isSome_some, Int.toNat_zero, Nat.reduceAdd, Nat.reduceMul, Nat.reduceSub, Nat.reduceEqDiff, Nat.reduceLT, Nat.reduceLeDiff, Nat.reduceShiftRight, Nat.reduceMod, Nat.reduceBEq, reduceCtorEq, reduceIte, reduceDIte, Int.reduceNeg]; first | rfl | ((repeat' apply And.intro) <;> first | rfl | assumption | omega)) (by dsimp only; omega)
        · rw [e0, he, show s.size - i = 0 by omega]
          rw [carF]
          rw [decide_eq_decide]; omega)
def fltOk (f : Flt) : Bool := carrierV f.1 && decide (f.2.1 ≥ 1) && decide (f.2.1 ≤ 9999) && lettersV f.2.2.1 0 1 && decide (f.2.2.2 ≥ 0) && decide (f.2.2.2 ≤ 99)
def con58 : Con := { ps := [.d true (.pair .str (.pair (.int .i64) (.pair .str (.int .i64))))], rs := [.d false .bool], pre := fun _ => True, out := fun x => (fltOk x.1, ()), nw := id }
theorem c58 : CtrOk Try.prog 58 con58.ctr :=
  con_sound (G := ⟨[(70, con70.ctr), (71, con71.ctr)], [], [], []⟩) tab_ok (EnvOk.cons c70 has70 (EnvOk.cons c71 has71 EnvOk.nil)) rfl Try.func58 rfl con58 7 (by kernel_rfl) (by decide) (by decide) rfl (by decide) rfl (by
    rintro ⟨⟨a1, (a2 : Int), a3, (a4 : Int)⟩, _⟩ hpre hwf X hT hG hk hK
    (simp -implicitDefEqProofs only [go_sem, Prod.eta, Option.isSome_none, Option.isSome_some, Int.toNat_zero, Nat.reduceAdd, Nat.reduceMul, Nat.reduceSub, Nat.reduceEqDiff, Nat.reduceLT, Nat.reduceLeDiff, Nat.reduceShiftRight, Nat.reduceMod, Nat.reduceBEq, reduceCtorEq, reduceIte, reduceDIte, Int.reduceNeg, Bool.not_eq_true', Bool.not_eq_false', Bool.or_eq_true, Bool.or_eq_false_iff, Bool.and_eq_true, Bool.and_eq_false_iff, decide_eq_true_eq, decide_eq_false_iff_not, Classical.not_not, not_or, maxLen, con58, con70, con71, hT, hG, hk, hK, Try.results58] at hwf ⊢); (try simp (disch := decide +kernel) only [drawn, true_and, and_true])
    (repeat' (with_reducible (first | refine And.intro ?_ ?_ | intro _))) <;> (try (first | with_reducible (first | done | assumption | omega | contradiction) | decide))
    rfl)

def con65 : Con := { ps := [.d false (.int .u8)], rs := [.d false .bool], pre := fun _ => True, out := fun x => (letterV x.1, ()), nw := id }
theorem c65 : CtrOk Try.prog 65 con65.ctr :=
  con_sound (G := ⟨[], [], [], []⟩) tab_ok EnvOk.nil rfl Try.func65 rfl con65 5 (by kernel_rfl) (by decide) (by decide) rfl (by decide) rfl (by
    rintro ⟨(b : Int), _⟩ hpre hwf X hT hG hk hK
    (simp -implicitDefEqProofs only [go_sem, Prod.eta, Option.isSome_none, Option.isSome_some, Int.toNat_zero, Nat.reduceAdd, Nat.reduceMul, Nat.reduceSub, Nat.reduceEqDiff, Nat.reduceLT, Nat.reduceLeDiff, Nat.reduceShiftRight, Nat.reduceMod, Nat.reduceBEq, reduceCtorEq, reduceIte, reduceDIte, Int.reduceNeg, Bool.not_eq_true', Bool.not_eq_false', Bool.or_eq_true, Bool.or_eq_false_iff, Bool.and_eq_true, Bool.and_eq_false_iff, decide_eq_true_eq, decide_eq_false_iff_not, Classical.not_not, not_or, maxLen, con65, hT, hG, hk, hK, Try.results65] at hwf ⊢); (try simp (disch := decide +kernel) only [drawn, true_and, and_true])
    (repeat' (with_reducible (first | refine And.intro ?_ ?_ | intro _))) <;> (try (first | with_reducible (first | done | assumption | omega | contradiction) | decide))
    rfl)
def con82 : Con := { ps := [.d false (.int .u8)], rs := [.d false .bool], pre := fun _ => True, out := fun x => (digitV x.1, ()), nw := id }
theorem c82 : CtrOk Try.prog 82 con82.ctr :=
  con_sound (G := ⟨[], [], [], []⟩) tab_ok EnvOk.nil rfl Try.func82 rfl con82 5 (by kernel_rfl) (by decide) (by decide) rfl (by decide) rfl (by
    rintro ⟨(b : Int), _⟩ hpre hwf X hT hG hk hK
    (simp -implicitDefEqProofs only [go_sem, Prod.eta, Option.isSome_none, Option.isSome_some, Int.toNat_zero, Nat.reduceAdd, Nat.reduceMul, Nat.reduceSub, Nat.reduceEqDiff, Nat.reduceLT, Nat.reduceLeDiff, Nat.reduceShiftRight, Nat.reduceMod, Nat.reduceBEq, reduceCtorEq, reduceIte, reduceDIte, Int.reduceNeg, Bool.not_eq_true', Bool.not_eq_false', Bool.or_eq_true, Bool.or_eq_false_iff, Bool.and_eq_true, Bool.and_eq_false_iff, decide_eq_true_eq, decide_eq_false_iff_not, Classical.not_not, not_or, maxLen, con82, hT, hG, hk, hK, Try.results82] at hwf ⊢); (try simp (disch := decide +kernel) only [drawn, true_and, and_true])
    (repeat' (with_reducible (first | refine And.intro ?_ ?_ | intro _))) <;> (try (first | with_reducible (first | done | assumption | omega | contradiction) | decide))
    rfl)
theorem carrierV_eq (s : ByteArray) (h : s.size = 2) : carrierV s = ((letterV (byteAt s 0) || digitV (byteAt s 0)) && (letterV (byteAt s 1) || digitV (byteAt s 1)) && (letterV (byteAt s 0) || letterV (byteAt s 1))) := by
  unfold carrierV
  rw [if_neg (by omega), h]
  simp only [carF]
  cases letterV (byteAt s 0) <;> cases digitV (byteAt s 0) <;> cases letterV (byteAt s 1) <;> cases digitV (byteAt s 1) <;> decide
def con72 : Con := { ps := [.d false .str], rs := [.d false .bool], pre := fun _ => True, out := fun x => (carrierV x.1, ()), nw := id }
theorem c72 : CtrOk Try.prog 72 con72.ctr :=
  con_sound (G := ⟨[(65, con65.ctr), (82, con82.ctr)], [], [], []⟩) tab_ok (EnvOk.cons c65 has65 (EnvOk.cons c82 has82 EnvOk.nil)) rfl Try.func72 rfl con72 157 (by kernel_rfl) (by decide) (by decide) rfl (by decide) rfl (by
    rintro ⟨(s : ByteArray), _⟩ hpre hwf X hT hG hk hK
    (simp -implicitDefEqProofs only [go_sem, Prod.eta, Option.isSome_none, Option.isSome_some, Int.toNat_zero, Nat.reduceAdd, Nat.reduceMul, Nat.reduceSub, Nat.reduceEqDiff, Nat.reduceLT, Nat.reduceLeDiff, Nat.reduceShiftRight, Nat.reduceMod, Nat.reduceBEq, reduceCtorEq, reduceIte, reduceDIte, Int.reduceNeg, Bool.not_eq_true', Bool.not_eq_false', Bool.or_eq_true, Bool.or_eq_false_iff, Bool.and_eq_true, Bool.and_eq_false_iff, decide_eq_true_eq, decide_eq_false_iff_not, Classical.not_not, not_or, maxLen, con72, con65, con82, hT, hG, hk, hK, Try.results72] at hwf ⊢); (try simp (disch := decide +kernel) only [drawn, true_and, and_true])
    (repeat' (with_reducible (first | refine And.intro ?_ ?_ | intro _))) <;> (try (first | with_reducible (first | done | assumption | omega | contradiction) | decide))
    · have h : ¬ (s.size : Int) = 2 := by assumption
      unfold carrierV; rw [if_pos h]
    all_goals first
      | (have h : (letterV (byteAt s 0) = true ∨ digitV (byteAt s 0) = true) ∧ (letterV (byteAt s 1) = true ∨ digitV (byteAt s 1) = true) := by assumption
         first
           | exact h.1
           | exact h.2)
      | (rename_i h
         exact (carrierV_eq s (by omega)).symm))
def con73 : Con := { ps := [.d false .str], rs := [.d false .bool], pre := fun _ => True, out := fun x => (lettersV x.1 0 1, ()), nw := id }
theorem c73 : CtrOk Try.prog 73 con73.ctr :=
  con_sound (G := ⟨[(65, con65.ctr)], [], [], []⟩) tab_ok (EnvOk.cons c65 has65 EnvOk.nil) rfl Try.func73 rfl con73 5 (by kernel_rfl) (by decide) (by decide) rfl (by decide) rfl (by
    rintro ⟨(s : ByteArray), _⟩ hpre hwf X hT hG hk hK
    (simp -implicitDefEqProofs only [go_sem, Prod.eta, Option.isSome_none, Option.isSome_some, Int.toNat_zero, Nat.reduceAdd, Nat.reduceMul, Nat.reduceSub, Nat.reduceEqDiff, Nat.reduceLT, Nat.reduceLeDiff, Nat.reduceShiftRight, Nat.reduceMod, Nat.reduceBEq, reduceCtorEq, reduceIte, reduceDIte, Int.reduceNeg, Bool.not_eq_true', Bool.not_eq_false', Bool.or_eq_true, Bool.or_eq_false_iff, Bool.and_eq_true, Bool.and_eq_false_iff, decide_eq_true_eq, decide_eq_false_iff_not, Classical.not_not, not_or, maxLen, con73, con65, hT, hG, hk, hK, Try.results73] at hwf ⊢); (try simp (disch := decide +kernel) only [drawn, true_and, and_true])
    (repeat' (with_reducible (first | refine And.intro ?_ ?_ | intro _))) <;> (try (first | with_reducible (first | done | assumption | omega | contradiction) | decide))
    unfold lettersV
    have e : decide (s = ByteArray.empty) = decide (s.size = 0) := by
      rw [decide_eq_decide]
      exact ⟨fun h => by rw [h]; rfl, fun h => ByteArray.ext (Array.eq_empty_of_size_eq_zero h)⟩
    show (decide (s = ByteArray.empty) || _) = _
    rw [e]
    rcases hs : s.size with _ | _ | n
    · rfl
    · simp [allFrom]
    · rw [decide_eq_false (by omega), decide_eq_false (by omega), decide_eq_false (p := ((n + 1 + 1 : Nat) : Int) ≤ 1) (by omega)]
      simp)
def con46 : Con := { ps := [.d false .str], rs := [.d false .bool], pre := fun _ => True, out := fun x => (lettersV x.1 3 3, ()), nw := id }
theorem c46 : CtrOk Try.prog 46 con46.ctr :=
  con_sound (G := ⟨[(65, con65.ctr)], [], [], []⟩) tab_ok (EnvOk.cons c65 has65 EnvOk.nil) rfl Try.func46 rfl con46 5 (by kernel_rfl) (by decide) (by decide) rfl (by decide) rfl (by
    rintro ⟨(s : ByteArray), _⟩ hpre hwf X hT hG hk hK
    (simp -implicitDefEqProofs only [go_sem, Prod.eta, Option.isSome_none, Option.isSome_some, Int.toNat_zero, Nat.reduceAdd, Nat.reduceMul, Nat.reduceSub, Nat.reduceEqDiff, Nat.reduceLT, Nat.reduceLeDiff, Nat.reduceShiftRight, Nat.reduceMod, Nat.reduceBEq, reduceCtorEq, reduceIte, reduceDIte, Int.reduceNeg, Bool.not_eq_true', Bool.not_eq_false', Bool.or_eq_true, Bool.or_eq_false_iff, Bool.and_eq_true, Bool.and_eq_false_iff, decide_eq_true_eq, decide_eq_false_iff_not, Classical.not_not, not_or, maxLen, con46, con65, hT, hG, hk, hK, Try.results46] at hwf ⊢); (try simp (disch := decide +kernel) only [drawn, true_and, and_true])
    (repeat' (with_reducible (first | refine And.intro ?_ ?_ | intro _))) <;> (try (first | with_reducible (first | done | assumption | omega | contradiction) | decide))
    unfold lettersV
    by_cases hs : s.size = 3
    · rw [hs]; simp [allFrom, Bool.and_assoc]
    · rw [decide_eq_false (by omega)]
      by_cases h : (s.size : Int) ≥ 3
      · rw [decide_eq_false (p := (s.size : Int) ≤ 3) (by omega)]; simp
      · rw [decide_eq_false h]; simp)
def con61 : Con := { ps := [.d true (.pair .str (.pair (.int .i64) (.pair .str (.int .i64))))], rs := [.d false .bool], pre := fun _ => True, out := fun x => (fltOk x.1, ()), nw := id }
theorem c61 : CtrOk Try.prog 61 con61.ctr :=
  con_sound (G := ⟨[(72, con72.ctr), (73, con73.ctr)], [], [], []⟩) tab_ok (EnvOk.cons c72 has72 (EnvOk.cons c73 has73 EnvOk.nil)) rfl Try.func61 rfl con61 7 (by kernel_rfl) (by decide) (by decide) rfl (by decide) rfl (by
    rintro ⟨⟨a1, (a2 : Int), a3, (a4 : Int)⟩, _⟩ hpre hwf X hT hG hk hK
    (simp -implicitDefEqProofs only [go_sem, Prod.eta, Option.isSome_none, Option.isSome_some, Int.toNat_zero, Nat.reduceAdd, Nat.reduceMul, Nat.reduceSub, Nat.reduceEqDiff, Nat.reduceLT, Nat.reduceLeDiff, Nat.reduceShiftRight, Nat.reduceMod, Nat.reduceBEq, reduceCtorEq, reduceIte, reduceDIte, Int.reduceNeg, Bool.not_eq_true', Bool.not_eq_false', Bool.or_eq_true, Bool.or_eq_false_iff, Bool.and_eq_true, Bool.and_eq_false_iff, decide_eq_true_eq, decide_eq_false_iff_not, Classical.not_not, not_or, maxLen, con61, con72, con73, hT, hG, hk, hK, Try.results61] at hwf ⊢); (try simp (disch := decide +kernel) only [drawn, true_and, and_true])
    (repeat' (with_reducible (first | refine And.intro ?_ ?_ | intro _))) <;> (try (first | with_reducible (first | done | assumption | omega | contradiction) | decide))
    rfl)

end Go.Proofs.Ytjeinbfnbcempaa
