/- The contracts of the functions that read numbers. -/
import Derived.Test.YthiddcobegnokaaMgTab
set_option linter.unusedSimpArgs false
set_option linter.unusedVariables false
set_option maxRecDepth 100000
set_option maxHeartbeats 4000000
namespace Go.Proofs.Ythiddcobegnokaa
open Go.Ev

theorem has10 : FnHas Try.prog 10 := ⟨⟨_, Try.func10, by kernel_rfl, by kernel_rfl⟩⟩
theorem has11 : FnHas Try.prog 11 := ⟨⟨_, Try.func11, by kernel_rfl, by kernel_rfl⟩⟩
theorem has12 : FnHas Try.prog 12 := ⟨⟨_, Try.func12, by kernel_rfl, by kernel_rfl⟩⟩
theorem has13 : FnHas Try.prog 13 := ⟨⟨_, Try.func13, by kernel_rfl, by kernel_rfl⟩⟩
theorem has14 : FnHas Try.prog 14 := ⟨⟨_, Try.func14, by kernel_rfl, by kernel_rfl⟩⟩
theorem has15 : FnHas Try.prog 15 := ⟨⟨_, Try.func15, by kernel_rfl, by kernel_rfl⟩⟩
theorem has16 : FnHas Try.prog 16 := ⟨⟨_, Try.func16, by kernel_rfl, by kernel_rfl⟩⟩
theorem has17 : FnHas Try.prog 17 := ⟨⟨_, Try.func17, by kernel_rfl, by kernel_rfl⟩⟩
theorem has18 : FnHas Try.prog 18 := ⟨⟨_, Try.func18, by kernel_rfl, by kernel_rfl⟩⟩
theorem has19 : FnHas Try.prog 19 := ⟨⟨_, Try.func19, by kernel_rfl, by kernel_rfl⟩⟩
theorem has20 : FnHas Try.prog 20 := ⟨⟨_, Try.func20, by kernel_rfl, by kernel_rfl⟩⟩
theorem has21 : FnHas Try.prog 21 := ⟨⟨_, Try.func21, by kernel_rfl, by kernel_rfl⟩⟩
theorem has22 : FnHas Try.prog 22 := ⟨⟨_, Try.func22, by kernel_rfl, by kernel_rfl⟩⟩
theorem has23 : FnHas Try.prog 23 := ⟨⟨_, Try.func23, by kernel_rfl, by kernel_rfl⟩⟩
theorem has24 : FnHas Try.prog 24 := ⟨⟨_, Try.func24, by kernel_rfl, by kernel_rfl⟩⟩
theorem has25 : FnHas Try.prog 25 := ⟨⟨_, Try.func25, by kernel_rfl, by kernel_rfl⟩⟩
theorem has26 : FnHas Try.prog 26 := ⟨⟨_, Try.func26, by kernel_rfl, by kernel_rfl⟩⟩
theorem has27 : FnHas Try.prog 27 := ⟨⟨_, Try.func27, by kernel_rfl, by kernel_rfl⟩⟩
theorem has28 : FnHas Try.prog 28 := ⟨⟨_, Try.func28, by kernel_rfl, by kernel_rfl⟩⟩
theorem has29 : FnHas Try.prog 29 := ⟨⟨_, Try.func29, by kernel_rfl, by kernel_rfl⟩⟩
theorem has30 : FnHas Try.prog 30 := ⟨⟨_, Try.func30, by kernel_rfl, by kernel_rfl⟩⟩
theorem has31 : FnHas Try.prog 31 := ⟨⟨_, Try.func31, by kernel_rfl, by kernel_rfl⟩⟩
theorem has32 : FnHas Try.prog 32 := ⟨⟨_, Try.func32, by kernel_rfl, by kernel_rfl⟩⟩
theorem has33 : FnHas Try.prog 33 := ⟨⟨_, Try.func33, by kernel_rfl, by kernel_rfl⟩⟩
theorem has34 : FnHas Try.prog 34 := ⟨⟨_, Try.func34, by kernel_rfl, by kernel_rfl⟩⟩
theorem has35 : FnHas Try.prog 35 := ⟨⟨_, Try.func35, by kernel_rfl, by kernel_rfl⟩⟩
theorem has36 : FnHas Try.prog 36 := ⟨⟨_, Try.func36, by kernel_rfl, by kernel_rfl⟩⟩
theorem has37 : FnHas Try.prog 37 := ⟨⟨_, Try.func37, by kernel_rfl, by kernel_rfl⟩⟩
theorem has38 : FnHas Try.prog 38 := ⟨⟨_, Try.func38, by kernel_rfl, by kernel_rfl⟩⟩
theorem has39 : FnHas Try.prog 39 := ⟨⟨_, Try.func39, by kernel_rfl, by kernel_rfl⟩⟩
theorem has40 : FnHas Try.prog 40 := ⟨⟨_, Try.func40, by kernel_rfl, by kernel_rfl⟩⟩
theorem has41 : FnHas Try.prog 41 := ⟨⟨_, Try.func41, by kernel_rfl, by kernel_rfl⟩⟩
theorem has42 : FnHas Try.prog 42 := ⟨⟨_, Try.func42, by kernel_rfl, by kernel_rfl⟩⟩
theorem has43 : FnHas Try.prog 43 := ⟨⟨_, Try.func43, by kernel_rfl, by kernel_rfl⟩⟩
theorem has44 : FnHas Try.prog 44 := ⟨⟨_, Try.func44, by kernel_rfl, by kernel_rfl⟩⟩
theorem has45 : FnHas Try.prog 45 := ⟨⟨_, Try.func45, by kernel_rfl, by kernel_rfl⟩⟩
theorem has46 : FnHas Try.prog 46 := ⟨⟨_, Try.func46, by kernel_rfl, by kernel_rfl⟩⟩
theorem has47 : FnHas Try.prog 47 := ⟨⟨_, Try.func47, by kernel_rfl, by kernel_rfl⟩⟩
theorem has48 : FnHas Try.prog 48 := ⟨⟨_, Try.func48, by kernel_rfl, by kernel_rfl⟩⟩
theorem has49 : FnHas Try.prog 49 := ⟨⟨_, Try.func49, by kernel_rfl, by kernel_rfl⟩⟩
theorem has50 : FnHas Try.prog 50 := ⟨⟨_, Try.func50, by kernel_rfl, by kernel_rfl⟩⟩
theorem has51 : FnHas Try.prog 51 := ⟨⟨_, Try.func51, by kernel_rfl, by kernel_rfl⟩⟩
theorem has52 : FnHas Try.prog 52 := ⟨⟨_, Try.func52, by kernel_rfl, by kernel_rfl⟩⟩
theorem has53 : FnHas Try.prog 53 := ⟨⟨_, Try.func53, by kernel_rfl, by kernel_rfl⟩⟩
theorem has54 : FnHas Try.prog 54 := ⟨⟨_, Try.func54, by kernel_rfl, by kernel_rfl⟩⟩
theorem has55 : FnHas Try.prog 55 := ⟨⟨_, Try.func55, by kernel_rfl, by kernel_rfl⟩⟩
theorem has56 : FnHas Try.prog 56 := ⟨⟨_, Try.func56, by kernel_rfl, by kernel_rfl⟩⟩
theorem has57 : FnHas Try.prog 57 := ⟨⟨_, Try.func57, by kernel_rfl, by kernel_rfl⟩⟩
theorem has58 : FnHas Try.prog 58 := ⟨⟨_, Try.func58, by kernel_rfl, by kernel_rfl⟩⟩
theorem has59 : FnHas Try.prog 59 := ⟨⟨_, Try.func59, by kernel_rfl, by kernel_rfl⟩⟩
theorem has60 : FnHas Try.prog 60 := ⟨⟨_, Try.func60, by kernel_rfl, by kernel_rfl⟩⟩
theorem has61 : FnHas Try.prog 61 := ⟨⟨_, Try.func61, by kernel_rfl, by kernel_rfl⟩⟩
theorem has62 : FnHas Try.prog 62 := ⟨⟨_, Try.func62, by kernel_rfl, by kernel_rfl⟩⟩
theorem has63 : FnHas Try.prog 63 := ⟨⟨_, Try.func63, by kernel_rfl, by kernel_rfl⟩⟩
theorem has64 : FnHas Try.prog 64 := ⟨⟨_, Try.func64, by kernel_rfl, by kernel_rfl⟩⟩
theorem has65 : FnHas Try.prog 65 := ⟨⟨_, Try.func65, by kernel_rfl, by kernel_rfl⟩⟩
theorem has66 : FnHas Try.prog 66 := ⟨⟨_, Try.func66, by kernel_rfl, by kernel_rfl⟩⟩
theorem has67 : FnHas Try.prog 67 := ⟨⟨_, Try.func67, by kernel_rfl, by kernel_rfl⟩⟩
theorem has68 : FnHas Try.prog 68 := ⟨⟨_, Try.func68, by kernel_rfl, by kernel_rfl⟩⟩
theorem has69 : FnHas Try.prog 69 := ⟨⟨_, Try.func69, by kernel_rfl, by kernel_rfl⟩⟩
theorem has70 : FnHas Try.prog 70 := ⟨⟨_, Try.func70, by kernel_rfl, by kernel_rfl⟩⟩
theorem has71 : FnHas Try.prog 71 := ⟨⟨_, Try.func71, by kernel_rfl, by kernel_rfl⟩⟩
theorem has72 : FnHas Try.prog 72 := ⟨⟨_, Try.func72, by kernel_rfl, by kernel_rfl⟩⟩
theorem has73 : FnHas Try.prog 73 := ⟨⟨_, Try.func73, by kernel_rfl, by kernel_rfl⟩⟩
theorem has74 : FnHas Try.prog 74 := ⟨⟨_, Try.func74, by kernel_rfl, by kernel_rfl⟩⟩
theorem has75 : FnHas Try.prog 75 := ⟨⟨_, Try.func75, by kernel_rfl, by kernel_rfl⟩⟩
theorem has76 : FnHas Try.prog 76 := ⟨⟨_, Try.func76, by kernel_rfl, by kernel_rfl⟩⟩
theorem has77 : FnHas Try.prog 77 := ⟨⟨_, Try.func77, by kernel_rfl, by kernel_rfl⟩⟩
theorem has78 : FnHas Try.prog 78 := ⟨⟨_, Try.func78, by kernel_rfl, by kernel_rfl⟩⟩
theorem has79 : FnHas Try.prog 79 := ⟨⟨_, Try.func79, by kernel_rfl, by kernel_rfl⟩⟩
theorem has80 : FnHas Try.prog 80 := ⟨⟨_, Try.func80, by kernel_rfl, by kernel_rfl⟩⟩
theorem has81 : FnHas Try.prog 81 := ⟨⟨_, Try.func81, by kernel_rfl, by kernel_rfl⟩⟩
theorem has82 : FnHas Try.prog 82 := ⟨⟨_, Try.func82, by kernel_rfl, by kernel_rfl⟩⟩
theorem has83 : FnHas Try.prog 83 := ⟨⟨_, Try.func83, by kernel_rfl, by kernel_rfl⟩⟩
theorem has84 : FnHas Try.prog 84 := ⟨⟨_, Try.func84, by kernel_rfl, by kernel_rfl⟩⟩
theorem has85 : FnHas Try.prog 85 := ⟨⟨_, Try.func85, by kernel_rfl, by kernel_rfl⟩⟩
theorem has86 : FnHas Try.prog 86 := ⟨⟨_, Try.func86, by kernel_rfl, by kernel_rfl⟩⟩
theorem has87 : FnHas Try.prog 87 := ⟨⟨_, Try.func87, by kernel_rfl, by kernel_rfl⟩⟩
theorem has88 : FnHas Try.prog 88 := ⟨⟨_, Try.func88, by kernel_rfl, by kernel_rfl⟩⟩
theorem has89 : FnHas Try.prog 89 := ⟨⟨_, Try.func89, by kernel_rfl, by kernel_rfl⟩⟩
theorem has90 : FnHas Try.prog 90 := ⟨⟨_, Try.func90, by kernel_rfl, by kernel_rfl⟩⟩
theorem has91 : FnHas Try.prog 91 := ⟨⟨_, Try.func91, by kernel_rfl, by kernel_rfl⟩⟩
theorem has92 : FnHas Try.prog 92 := ⟨⟨_, Try.func92, by kernel_rfl, by kernel_rfl⟩⟩
theorem has93 : FnHas Try.prog 93 := ⟨⟨_, Try.func93, by kernel_rfl, by kernel_rfl⟩⟩
theorem has94 : FnHas Try.prog 94 := ⟨⟨_, Try.func94, by kernel_rfl, by kernel_rfl⟩⟩
theorem has95 : FnHas Try.prog 95 := ⟨⟨_, Try.func95, by kernel_rfl, by kernel_rfl⟩⟩
theorem has96 : FnHas Try.prog 96 := ⟨⟨_, Try.func96, by kernel_rfl, by kernel_rfl⟩⟩
theorem has97 : FnHas Try.prog 97 := ⟨⟨_, Try.func97, by kernel_rfl, by kernel_rfl⟩⟩
theorem has98 : FnHas Try.prog 98 := ⟨⟨_, Try.func98, by kernel_rfl, by kernel_rfl⟩⟩
theorem has99 : FnHas Try.prog 99 := ⟨⟨_, Try.func99, by kernel_rfl, by kernel_rfl⟩⟩
theorem has100 : FnHas Try.prog 100 := ⟨⟨_, Try.func100, by kernel_rfl, by kernel_rfl⟩⟩
theorem has101 : FnHas Try.prog 101 := ⟨⟨_, Try.func101, by kernel_rfl, by kernel_rfl⟩⟩
theorem has102 : FnHas Try.prog 102 := ⟨⟨_, Try.func102, by kernel_rfl, by kernel_rfl⟩⟩
theorem has103 : FnHas Try.prog 103 := ⟨⟨_, Try.func103, by kernel_rfl, by kernel_rfl⟩⟩
theorem has104 : FnHas Try.prog 104 := ⟨⟨_, Try.func104, by kernel_rfl, by kernel_rfl⟩⟩
theorem has105 : FnHas Try.prog 105 := ⟨⟨_, Try.func105, by kernel_rfl, by kernel_rfl⟩⟩
theorem has106 : FnHas Try.prog 106 := ⟨⟨_, Try.func106, by kernel_rfl, by kernel_rfl⟩⟩
theorem has107 : FnHas Try.prog 107 := ⟨⟨_, Try.func107, by kernel_rfl, by kernel_rfl⟩⟩
theorem has108 : FnHas Try.prog 108 := ⟨⟨_, Try.func108, by kernel_rfl, by kernel_rfl⟩⟩
theorem has109 : FnHas Try.prog 109 := ⟨⟨_, Try.func109, by kernel_rfl, by kernel_rfl⟩⟩
theorem has110 : FnHas Try.prog 110 := ⟨⟨_, Try.func110, by kernel_rfl, by kernel_rfl⟩⟩
theorem has111 : FnHas Try.prog 111 := ⟨⟨_, Try.func111, by kernel_rfl, by kernel_rfl⟩⟩
theorem has112 : FnHas Try.prog 112 := ⟨⟨_, Try.func112, by kernel_rfl, by kernel_rfl⟩⟩
theorem has113 : FnHas Try.prog 113 := ⟨⟨_, Try.func113, by kernel_rfl, by kernel_rfl⟩⟩
theorem has114 : FnHas Try.prog 114 := ⟨⟨_, Try.func114, by kernel_rfl, by kernel_rfl⟩⟩
theorem has115 : FnHas Try.prog 115 := ⟨⟨_, Try.func115, by kernel_rfl, by kernel_rfl⟩⟩
theorem has116 : FnHas Try.prog 116 := ⟨⟨_, Try.func116, by kernel_rfl, by kernel_rfl⟩⟩
theorem has117 : FnHas Try.prog 117 := ⟨⟨_, Try.func117, by kernel_rfl, by kernel_rfl⟩⟩
theorem has118 : FnHas Try.prog 118 := ⟨⟨_, Try.func118, by kernel_rfl, by kernel_rfl⟩⟩
theorem has119 : FnHas Try.prog 119 := ⟨⟨_, Try.func119, by kernel_rfl, by kernel_rfl⟩⟩
theorem has120 : FnHas Try.prog 120 := ⟨⟨_, Try.func120, by kernel_rfl, by kernel_rfl⟩⟩
theorem has121 : FnHas Try.prog 121 := ⟨⟨_, Try.func121, by kernel_rfl, by kernel_rfl⟩⟩
theorem has122 : FnHas Try.prog 122 := ⟨⟨_, Try.func122, by kernel_rfl, by kernel_rfl⟩⟩
theorem has123 : FnHas Try.prog 123 := ⟨⟨_, Try.func123, by kernel_rfl, by kernel_rfl⟩⟩
theorem has124 : FnHas Try.prog 124 := ⟨⟨_, Try.func124, by kernel_rfl, by kernel_rfl⟩⟩
theorem has125 : FnHas Try.prog 125 := ⟨⟨_, Try.func125, by kernel_rfl, by kernel_rfl⟩⟩
theorem has126 : FnHas Try.prog 126 := ⟨⟨_, Try.func126, by kernel_rfl, by kernel_rfl⟩⟩


/-- Mod. -/
def goMod (x n : Int) : Int := if n < 1 then 0 else if x.tmod n < 0 then x.tmod n + n else x.tmod n
theorem tmod_bd (x n : Int) (h : 1 ≤ n) : -n < x.tmod n ∧ x.tmod n < n := by
  have h1 := Int.tmod_lt_of_pos x (show 0 < n by omega)
  have h2 := Int.lt_tmod_of_pos x (show 0 < n by omega)
  omega
theorem goMod_bd (x n : Int) (h : 1 ≤ n) : 0 ≤ goMod x n ∧ goMod x n < n := by
  have := tmod_bd x n h
  unfold goMod
  rw [if_neg (by omega)]
  split <;> omega
def con28 : Con := { ps := [.d false (.int .i64), .d false (.int .i64)], rs := [.d false (.int .i64)], pre := fun _ => True, out := fun x => (goMod x.1 x.2.1, ()), nw := id }
theorem c28 : CtrOk Try.prog 28 con28.ctr :=
  con_sound (G := ⟨[], [], [], []⟩) tab_ok EnvOk.nil rfl Try.func28 rfl con28 2131 (by kernel_rfl) (by decide) (by decide) rfl (by decide) rfl (by
    rintro ⟨(x : Int), (n : Int), _⟩ hpre hwf X hT hG hk hK
    (simp -implicitDefEqProofs only [go_sem, Prod.eta, Option.isSome_none, Option.isSome_some, Int.toNat_zero, Nat.reduceAdd, Nat.reduceMul, Nat.reduceSub, Nat.reduceEqDiff, Nat.reduceLT, Nat.reduceLeDiff, Nat.reduceShiftRight, Nat.reduceMod, Nat.reduceBEq, reduceCtorEq, reduceIte, reduceDIte, Int.reduceNeg, con28, hT, hG, hk, hK, Try.results28] at hwf ⊢); (try simp (disch := decide +kernel) only [drawn, true_and, and_true])
    unfold goMod
    by_cases hn : n < 1
    · simp [hn]
    · have hb := tmod_bd x n (by omega)
      have hn0 : n ≠ 0 := by omega
      simp only [hn, if_false, not_false_eq_true, true_implies, false_implies, true_and]
      refine ⟨⟨hn0, by omega, by omega⟩, fun h => ⟨⟨by omega, by omega⟩, ?_⟩, fun h => ?_⟩
      · rw [if_pos h]
      · rw [if_neg h])

abbrev Src := List Int × Int
def Src.raw (s : Src) : Int := if s.2 ≥ s.1.length then 0 else s.1.getD s.2.toNat 0
def Src.step (s : Src) : Src := if s.2 ≥ s.1.length then s else (s.1, s.2 + 1)
theorem Src.step_pos (s : Src) (h : 0 ≤ s.2) : 0 ≤ s.step.2 := by unfold Src.step; split; exact h; exact Int.le_trans h (by simp only; omega)
def con61 : Con := { ps := [.p 74 (.pair (.sl (.int .i64)) (.int .i64))], rs := [.d false (.int .i64)], pre := fun x => 0 ≤ x.1.2, out := fun x => (Src.raw x.1, ()), nw := fun x => (Src.step x.1, ()) }
theorem c61 : CtrOk Try.prog 61 con61.ctr :=
  con_sound (G := ⟨[], [], [], []⟩) tab_ok EnvOk.nil rfl Try.func61 rfl con61 4101 (by kernel_rfl) (by decide) (by decide) rfl (by decide) rfl (by
    rintro ⟨⟨(l : List Int), (a : Int)⟩, _⟩ hpre hwf X hT hG hk hK
    (simp -implicitDefEqProofs only [go_sem, Prod.eta, Option.isSome_none, Option.isSome_some, Int.toNat_zero, Nat.reduceAdd, Nat.reduceMul, Nat.reduceSub, Nat.reduceEqDiff, Nat.reduceLT, Nat.reduceLeDiff, Nat.reduceShiftRight, Nat.reduceMod, Nat.reduceBEq, reduceCtorEq, reduceIte, reduceDIte, Int.reduceNeg, con61, hT, hG, hk, hK, Try.results61] at hwf ⊢); (try simp (disch := decide +kernel) only [drawn, true_and, and_true])
    intro hl
    have hpre : 0 ≤ a := hpre
    have hl' := hl
    simp only [maxLen] at hl'
    unfold Src.step Src.raw
    refine ⟨fun h => ?_, fun h => ⟨⟨by omega, by omega⟩, ⟨by omega, by omega⟩, ⟨by omega, by omega⟩, fun _ _ => ?_⟩⟩
    · simp [show (a : Int) ≥ (l.length : Int) from h]
    · simp [show ¬ (a : Int) ≥ (l.length : Int) from h])

def con39 : Con := { ps := [.p 74 (.pair (.sl (.int .i64)) (.int .i64)), .d false (.int .i64)], rs := [.d false (.int .i64)], pre := fun x => 0 ≤ x.1.2, out := fun x => (goMod (Src.raw x.1) x.2.1, ()), nw := fun x => (Src.step x.1, x.2) }
theorem c39 : CtrOk Try.prog 39 con39.ctr :=
  con_sound (G := ⟨[(61, con61.ctr), (28, con28.ctr)], [], [], []⟩) tab_ok (EnvOk.cons c61 has61 (EnvOk.cons c28 has28 EnvOk.nil)) rfl Try.func39 rfl con39 19 (by kernel_rfl) (by decide) (by decide) rfl (by decide) rfl (by
    rintro ⟨⟨(l : List Int), (a : Int)⟩, (n : Int), _⟩ hpre hwf X hT hG hk hK
    (simp -implicitDefEqProofs only [go_sem, Prod.eta, Option.isSome_none, Option.isSome_some, Int.toNat_zero, Nat.reduceAdd, Nat.reduceMul, Nat.reduceSub, Nat.reduceEqDiff, Nat.reduceLT, Nat.reduceLeDiff, Nat.reduceShiftRight, Nat.reduceMod, Nat.reduceBEq, reduceCtorEq, reduceIte, reduceDIte, Int.reduceNeg, con39, con61, con28, hT, hG, hk, hK, Try.results39] at hwf ⊢); (try simp (disch := decide +kernel) only [drawn, true_and, and_true])
    exact hpre)

def con10 : Con := { ps := [.d false (.sl (.int .i64))], rs := [.p 74 (.pair (.sl (.int .i64)) (.int .i64))], pre := fun x => True, out := fun x => ((x.1.take 2000, 0), ()), nw := id }
theorem c10 : CtrOk Try.prog 10 con10.ctr :=
  con_sound (G := ⟨[], [], [], []⟩) tab_ok EnvOk.nil rfl Try.func10 rfl con10 37 (by kernel_rfl) (by decide) (by decide) rfl (by decide) rfl (by
    rintro ⟨(l : List Int), _⟩ hpre hwf X hT hG hk hK
    (simp -implicitDefEqProofs only [go_sem, Prod.eta, Option.isSome_none, Option.isSome_some, Int.toNat_zero, Nat.reduceAdd, Nat.reduceMul, Nat.reduceSub, Nat.reduceEqDiff, Nat.reduceLT, Nat.reduceLeDiff, Nat.reduceShiftRight, Nat.reduceMod, Nat.reduceBEq, reduceCtorEq, reduceIte, reduceDIte, Int.reduceNeg, con10, hT, hG, hk, hK, Try.results10] at hwf ⊢); (try simp (disch := decide +kernel) only [drawn, true_and, and_true])
    refine fun _ => ⟨fun h => ⟨⟨by omega, by omega, by omega⟩, rfl⟩, fun h => ?_⟩
    rw [List.take_of_length_le (by omega)])
end Go.Proofs.Ythiddcobegnokaa
