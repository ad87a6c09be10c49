/- The contracts of the functions that read numbers. -/
import Derived.Test.YtdmgmdppejopcaaGreatMpTab
set_option linter.unusedSimpArgs false
set_option linter.unusedVariables false
set_option maxRecDepth 100000
set_option maxHeartbeats 4000000
namespace Go.Proofs.YtdmgmdppejopcaaGreat
open Go.Ev

theorem has5 : FnHas Tryz.prog 5 := ⟨⟨_, Tryz.func5, by kernel_rfl, by kernel_rfl⟩⟩
theorem has6 : FnHas Tryz.prog 6 := ⟨⟨_, Tryz.func6, by kernel_rfl, by kernel_rfl⟩⟩
theorem has7 : FnHas Tryz.prog 7 := ⟨⟨_, Tryz.func7, by kernel_rfl, by kernel_rfl⟩⟩
theorem has8 : FnHas Tryz.prog 8 := ⟨⟨_, Tryz.func8, by kernel_rfl, by kernel_rfl⟩⟩
theorem has9 : FnHas Tryz.prog 9 := ⟨⟨_, Tryz.func9, by kernel_rfl, by kernel_rfl⟩⟩
theorem has10 : FnHas Tryz.prog 10 := ⟨⟨_, Tryz.func10, by kernel_rfl, by kernel_rfl⟩⟩
theorem has11 : FnHas Tryz.prog 11 := ⟨⟨_, Tryz.func11, by kernel_rfl, by kernel_rfl⟩⟩
theorem has12 : FnHas Tryz.prog 12 := ⟨⟨_, Tryz.func12, by kernel_rfl, by kernel_rfl⟩⟩
theorem has13 : FnHas Tryz.prog 13 := ⟨⟨_, Tryz.func13, by kernel_rfl, by kernel_rfl⟩⟩
theorem has14 : FnHas Tryz.prog 14 := ⟨⟨_, Tryz.func14, by kernel_rfl, by kernel_rfl⟩⟩
theorem has15 : FnHas Tryz.prog 15 := ⟨⟨_, Tryz.func15, by kernel_rfl, by kernel_rfl⟩⟩
theorem has16 : FnHas Tryz.prog 16 := ⟨⟨_, Tryz.func16, by kernel_rfl, by kernel_rfl⟩⟩
theorem has17 : FnHas Tryz.prog 17 := ⟨⟨_, Tryz.func17, by kernel_rfl, by kernel_rfl⟩⟩
theorem has18 : FnHas Tryz.prog 18 := ⟨⟨_, Tryz.func18, by kernel_rfl, by kernel_rfl⟩⟩
theorem has19 : FnHas Tryz.prog 19 := ⟨⟨_, Tryz.func19, by kernel_rfl, by kernel_rfl⟩⟩
theorem has20 : FnHas Tryz.prog 20 := ⟨⟨_, Tryz.func20, by kernel_rfl, by kernel_rfl⟩⟩
theorem has21 : FnHas Tryz.prog 21 := ⟨⟨_, Tryz.func21, by kernel_rfl, by kernel_rfl⟩⟩
theorem has22 : FnHas Tryz.prog 22 := ⟨⟨_, Tryz.func22, by kernel_rfl, by kernel_rfl⟩⟩
theorem has23 : FnHas Tryz.prog 23 := ⟨⟨_, Tryz.func23, by kernel_rfl, by kernel_rfl⟩⟩
theorem has24 : FnHas Tryz.prog 24 := ⟨⟨_, Tryz.func24, by kernel_rfl, by kernel_rfl⟩⟩
theorem has25 : FnHas Tryz.prog 25 := ⟨⟨_, Tryz.func25, by kernel_rfl, by kernel_rfl⟩⟩
theorem has26 : FnHas Tryz.prog 26 := ⟨⟨_, Tryz.func26, by kernel_rfl, by kernel_rfl⟩⟩
theorem has27 : FnHas Tryz.prog 27 := ⟨⟨_, Tryz.func27, by kernel_rfl, by kernel_rfl⟩⟩
theorem has28 : FnHas Tryz.prog 28 := ⟨⟨_, Tryz.func28, by kernel_rfl, by kernel_rfl⟩⟩
theorem has29 : FnHas Tryz.prog 29 := ⟨⟨_, Tryz.func29, by kernel_rfl, by kernel_rfl⟩⟩
theorem has30 : FnHas Tryz.prog 30 := ⟨⟨_, Tryz.func30, by kernel_rfl, by kernel_rfl⟩⟩
theorem has31 : FnHas Tryz.prog 31 := ⟨⟨_, Tryz.func31, by kernel_rfl, by kernel_rfl⟩⟩
theorem has32 : FnHas Tryz.prog 32 := ⟨⟨_, Tryz.func32, by kernel_rfl, by kernel_rfl⟩⟩
theorem has33 : FnHas Tryz.prog 33 := ⟨⟨_, Tryz.func33, by kernel_rfl, by kernel_rfl⟩⟩
theorem has34 : FnHas Tryz.prog 34 := ⟨⟨_, Tryz.func34, by kernel_rfl, by kernel_rfl⟩⟩
theorem has35 : FnHas Tryz.prog 35 := ⟨⟨_, Tryz.func35, by kernel_rfl, by kernel_rfl⟩⟩
theorem has36 : FnHas Tryz.prog 36 := ⟨⟨_, Tryz.func36, by kernel_rfl, by kernel_rfl⟩⟩
theorem has37 : FnHas Tryz.prog 37 := ⟨⟨_, Tryz.func37, by kernel_rfl, by kernel_rfl⟩⟩
theorem has38 : FnHas Tryz.prog 38 := ⟨⟨_, Tryz.func38, by kernel_rfl, by kernel_rfl⟩⟩
theorem has39 : FnHas Tryz.prog 39 := ⟨⟨_, Tryz.func39, by kernel_rfl, by kernel_rfl⟩⟩
theorem has40 : FnHas Tryz.prog 40 := ⟨⟨_, Tryz.func40, by kernel_rfl, by kernel_rfl⟩⟩
theorem has41 : FnHas Tryz.prog 41 := ⟨⟨_, Tryz.func41, by kernel_rfl, by kernel_rfl⟩⟩
theorem has42 : FnHas Tryz.prog 42 := ⟨⟨_, Tryz.func42, by kernel_rfl, by kernel_rfl⟩⟩
theorem has43 : FnHas Tryz.prog 43 := ⟨⟨_, Tryz.func43, by kernel_rfl, by kernel_rfl⟩⟩
theorem has44 : FnHas Tryz.prog 44 := ⟨⟨_, Tryz.func44, by kernel_rfl, by kernel_rfl⟩⟩
theorem has45 : FnHas Tryz.prog 45 := ⟨⟨_, Tryz.func45, by kernel_rfl, by kernel_rfl⟩⟩
theorem has46 : FnHas Tryz.prog 46 := ⟨⟨_, Tryz.func46, by kernel_rfl, by kernel_rfl⟩⟩
theorem has47 : FnHas Tryz.prog 47 := ⟨⟨_, Tryz.func47, by kernel_rfl, by kernel_rfl⟩⟩
theorem has48 : FnHas Tryz.prog 48 := ⟨⟨_, Tryz.func48, by kernel_rfl, by kernel_rfl⟩⟩
theorem has49 : FnHas Tryz.prog 49 := ⟨⟨_, Tryz.func49, by kernel_rfl, by kernel_rfl⟩⟩
theorem has50 : FnHas Tryz.prog 50 := ⟨⟨_, Tryz.func50, by kernel_rfl, by kernel_rfl⟩⟩
theorem has51 : FnHas Tryz.prog 51 := ⟨⟨_, Tryz.func51, by kernel_rfl, by kernel_rfl⟩⟩
theorem has52 : FnHas Tryz.prog 52 := ⟨⟨_, Tryz.func52, by kernel_rfl, by kernel_rfl⟩⟩
theorem has53 : FnHas Tryz.prog 53 := ⟨⟨_, Tryz.func53, by kernel_rfl, by kernel_rfl⟩⟩
theorem has54 : FnHas Tryz.prog 54 := ⟨⟨_, Tryz.func54, by kernel_rfl, by kernel_rfl⟩⟩
theorem has55 : FnHas Tryz.prog 55 := ⟨⟨_, Tryz.func55, by kernel_rfl, by kernel_rfl⟩⟩
theorem has56 : FnHas Tryz.prog 56 := ⟨⟨_, Tryz.func56, by kernel_rfl, by kernel_rfl⟩⟩
theorem has57 : FnHas Tryz.prog 57 := ⟨⟨_, Tryz.func57, by kernel_rfl, by kernel_rfl⟩⟩
theorem has58 : FnHas Tryz.prog 58 := ⟨⟨_, Tryz.func58, by kernel_rfl, by kernel_rfl⟩⟩
theorem has59 : FnHas Tryz.prog 59 := ⟨⟨_, Tryz.func59, by kernel_rfl, by kernel_rfl⟩⟩
theorem has60 : FnHas Tryz.prog 60 := ⟨⟨_, Tryz.func60, by kernel_rfl, by kernel_rfl⟩⟩
theorem has61 : FnHas Tryz.prog 61 := ⟨⟨_, Tryz.func61, by kernel_rfl, by kernel_rfl⟩⟩
theorem has62 : FnHas Tryz.prog 62 := ⟨⟨_, Tryz.func62, by kernel_rfl, by kernel_rfl⟩⟩
theorem has63 : FnHas Tryz.prog 63 := ⟨⟨_, Tryz.func63, by kernel_rfl, by kernel_rfl⟩⟩
theorem has64 : FnHas Tryz.prog 64 := ⟨⟨_, Tryz.func64, by kernel_rfl, by kernel_rfl⟩⟩
theorem has65 : FnHas Tryz.prog 65 := ⟨⟨_, Tryz.func65, by kernel_rfl, by kernel_rfl⟩⟩
theorem has66 : FnHas Tryz.prog 66 := ⟨⟨_, Tryz.func66, by kernel_rfl, by kernel_rfl⟩⟩
theorem has67 : FnHas Tryz.prog 67 := ⟨⟨_, Tryz.func67, by kernel_rfl, by kernel_rfl⟩⟩
theorem has68 : FnHas Tryz.prog 68 := ⟨⟨_, Tryz.func68, by kernel_rfl, by kernel_rfl⟩⟩
theorem has69 : FnHas Tryz.prog 69 := ⟨⟨_, Tryz.func69, by kernel_rfl, by kernel_rfl⟩⟩
theorem has70 : FnHas Tryz.prog 70 := ⟨⟨_, Tryz.func70, by kernel_rfl, by kernel_rfl⟩⟩
theorem has71 : FnHas Tryz.prog 71 := ⟨⟨_, Tryz.func71, by kernel_rfl, by kernel_rfl⟩⟩
theorem has72 : FnHas Tryz.prog 72 := ⟨⟨_, Tryz.func72, by kernel_rfl, by kernel_rfl⟩⟩
theorem has73 : FnHas Tryz.prog 73 := ⟨⟨_, Tryz.func73, by kernel_rfl, by kernel_rfl⟩⟩
theorem has74 : FnHas Tryz.prog 74 := ⟨⟨_, Tryz.func74, by kernel_rfl, by kernel_rfl⟩⟩
theorem has75 : FnHas Tryz.prog 75 := ⟨⟨_, Tryz.func75, by kernel_rfl, by kernel_rfl⟩⟩
theorem has76 : FnHas Tryz.prog 76 := ⟨⟨_, Tryz.func76, by kernel_rfl, by kernel_rfl⟩⟩
theorem has77 : FnHas Tryz.prog 77 := ⟨⟨_, Tryz.func77, by kernel_rfl, by kernel_rfl⟩⟩
theorem has78 : FnHas Tryz.prog 78 := ⟨⟨_, Tryz.func78, by kernel_rfl, by kernel_rfl⟩⟩
theorem has79 : FnHas Tryz.prog 79 := ⟨⟨_, Tryz.func79, by kernel_rfl, by kernel_rfl⟩⟩
theorem has80 : FnHas Tryz.prog 80 := ⟨⟨_, Tryz.func80, by kernel_rfl, by kernel_rfl⟩⟩
theorem has81 : FnHas Tryz.prog 81 := ⟨⟨_, Tryz.func81, by kernel_rfl, by kernel_rfl⟩⟩
theorem has82 : FnHas Tryz.prog 82 := ⟨⟨_, Tryz.func82, by kernel_rfl, by kernel_rfl⟩⟩
theorem has83 : FnHas Tryz.prog 83 := ⟨⟨_, Tryz.func83, by kernel_rfl, by kernel_rfl⟩⟩
theorem has84 : FnHas Tryz.prog 84 := ⟨⟨_, Tryz.func84, by kernel_rfl, by kernel_rfl⟩⟩
theorem has85 : FnHas Tryz.prog 85 := ⟨⟨_, Tryz.func85, by kernel_rfl, by kernel_rfl⟩⟩
theorem has86 : FnHas Tryz.prog 86 := ⟨⟨_, Tryz.func86, by kernel_rfl, by kernel_rfl⟩⟩
theorem has87 : FnHas Tryz.prog 87 := ⟨⟨_, Tryz.func87, by kernel_rfl, by kernel_rfl⟩⟩
theorem has88 : FnHas Tryz.prog 88 := ⟨⟨_, Tryz.func88, by kernel_rfl, by kernel_rfl⟩⟩
theorem has89 : FnHas Tryz.prog 89 := ⟨⟨_, Tryz.func89, by kernel_rfl, by kernel_rfl⟩⟩
theorem has90 : FnHas Tryz.prog 90 := ⟨⟨_, Tryz.func90, by kernel_rfl, by kernel_rfl⟩⟩
theorem has91 : FnHas Tryz.prog 91 := ⟨⟨_, Tryz.func91, by kernel_rfl, by kernel_rfl⟩⟩
theorem has92 : FnHas Tryz.prog 92 := ⟨⟨_, Tryz.func92, by kernel_rfl, by kernel_rfl⟩⟩
theorem has93 : FnHas Tryz.prog 93 := ⟨⟨_, Tryz.func93, by kernel_rfl, by kernel_rfl⟩⟩
theorem has94 : FnHas Tryz.prog 94 := ⟨⟨_, Tryz.func94, by kernel_rfl, by kernel_rfl⟩⟩
theorem has95 : FnHas Tryz.prog 95 := ⟨⟨_, Tryz.func95, by kernel_rfl, by kernel_rfl⟩⟩
theorem has96 : FnHas Tryz.prog 96 := ⟨⟨_, Tryz.func96, by kernel_rfl, by kernel_rfl⟩⟩
theorem has97 : FnHas Tryz.prog 97 := ⟨⟨_, Tryz.func97, by kernel_rfl, by kernel_rfl⟩⟩
theorem has98 : FnHas Tryz.prog 98 := ⟨⟨_, Tryz.func98, by kernel_rfl, by kernel_rfl⟩⟩
theorem has99 : FnHas Tryz.prog 99 := ⟨⟨_, Tryz.func99, by kernel_rfl, by kernel_rfl⟩⟩
theorem has100 : FnHas Tryz.prog 100 := ⟨⟨_, Tryz.func100, by kernel_rfl, by kernel_rfl⟩⟩
theorem has101 : FnHas Tryz.prog 101 := ⟨⟨_, Tryz.func101, by kernel_rfl, by kernel_rfl⟩⟩
theorem has102 : FnHas Tryz.prog 102 := ⟨⟨_, Tryz.func102, by kernel_rfl, by kernel_rfl⟩⟩
theorem has103 : FnHas Tryz.prog 103 := ⟨⟨_, Tryz.func103, by kernel_rfl, by kernel_rfl⟩⟩
theorem has104 : FnHas Tryz.prog 104 := ⟨⟨_, Tryz.func104, by kernel_rfl, by kernel_rfl⟩⟩
theorem has105 : FnHas Tryz.prog 105 := ⟨⟨_, Tryz.func105, by kernel_rfl, by kernel_rfl⟩⟩
theorem has106 : FnHas Tryz.prog 106 := ⟨⟨_, Tryz.func106, by kernel_rfl, by kernel_rfl⟩⟩
theorem has107 : FnHas Tryz.prog 107 := ⟨⟨_, Tryz.func107, by kernel_rfl, by kernel_rfl⟩⟩
theorem has108 : FnHas Tryz.prog 108 := ⟨⟨_, Tryz.func108, by kernel_rfl, by kernel_rfl⟩⟩
theorem has109 : FnHas Tryz.prog 109 := ⟨⟨_, Tryz.func109, by kernel_rfl, by kernel_rfl⟩⟩
theorem has110 : FnHas Tryz.prog 110 := ⟨⟨_, Tryz.func110, by kernel_rfl, by kernel_rfl⟩⟩
theorem has111 : FnHas Tryz.prog 111 := ⟨⟨_, Tryz.func111, by kernel_rfl, by kernel_rfl⟩⟩
theorem has112 : FnHas Tryz.prog 112 := ⟨⟨_, Tryz.func112, by kernel_rfl, by kernel_rfl⟩⟩
theorem has113 : FnHas Tryz.prog 113 := ⟨⟨_, Tryz.func113, by kernel_rfl, by kernel_rfl⟩⟩
theorem has114 : FnHas Tryz.prog 114 := ⟨⟨_, Tryz.func114, by kernel_rfl, by kernel_rfl⟩⟩
theorem has115 : FnHas Tryz.prog 115 := ⟨⟨_, Tryz.func115, by kernel_rfl, by kernel_rfl⟩⟩
theorem has116 : FnHas Tryz.prog 116 := ⟨⟨_, Tryz.func116, by kernel_rfl, by kernel_rfl⟩⟩
theorem has117 : FnHas Tryz.prog 117 := ⟨⟨_, Tryz.func117, by kernel_rfl, by kernel_rfl⟩⟩
theorem has118 : FnHas Tryz.prog 118 := ⟨⟨_, Tryz.func118, by kernel_rfl, by kernel_rfl⟩⟩
theorem has119 : FnHas Tryz.prog 119 := ⟨⟨_, Tryz.func119, by kernel_rfl, by kernel_rfl⟩⟩
theorem has120 : FnHas Tryz.prog 120 := ⟨⟨_, Tryz.func120, by kernel_rfl, by kernel_rfl⟩⟩
theorem has121 : FnHas Tryz.prog 121 := ⟨⟨_, Tryz.func121, by kernel_rfl, by kernel_rfl⟩⟩


/-- Mod. -/
def goMod (x n : Int) : Int := if n < 1 then 0 else if x.tmod n < 0 then x.tmod n + n else x.tmod n
theorem tmod_bd (x n : Int) (h : 1 ≤ n) : -n < x.tmod n ∧ x.tmod n < n := by
  have h1 := Int.tmod_lt_of_pos x (show 0 < n by omega)
  have h2 := Int.lt_tmod_of_pos x (show 0 < n by omega)
  omega
theorem goMod_bd (x n : Int) (h : 1 ≤ n) : 0 ≤ goMod x n ∧ goMod x n < n := by
  have := tmod_bd x n h
  unfold goMod
  rw [if_neg (by omega)]
  split <;> omega
def con41 : Con := { ps := [.d false (.int .i64), .d false (.int .i64)], rs := [.d false (.int .i64)], pre := fun _ => True, out := fun x => (goMod x.1 x.2.1, ()), nw := id }
theorem c41 : CtrOk Tryz.prog 41 con41.ctr :=
  con_sound (G := ⟨[], [], []⟩) tab_ok EnvOk.nil rfl Tryz.func41 rfl con41 2131 (by kernel_rfl) (by decide) (by decide) rfl (by decide) rfl (by
    rintro ⟨(x : Int), (n : Int), _⟩ hpre hwf X hT hG hk hK
    (simp only [go_sem, Prod.eta, Option.isSome_none, Option.isSome_some, Int.toNat_zero, Nat.reduceAdd, Nat.reduceMul, Nat.reduceSub, Nat.reduceEqDiff, Nat.reduceLT, Nat.reduceLeDiff, Nat.reduceShiftRight, Nat.reduceMod, Nat.reduceBEq, reduceCtorEq, reduceIte, reduceDIte, Int.reduceNeg, con41, hT, hG, hk, hK, Tryz.results41] at hwf ⊢); (try simp (disch := decide +kernel) only [drawn, true_and, and_true])
    unfold goMod
    by_cases hn : n < 1
    · simp [hn]
    · have hb := tmod_bd x n (by omega)
      have hn0 : n ≠ 0 := by omega
      simp only [hn, if_false, not_false_eq_true, true_implies, false_implies, true_and]
      refine ⟨⟨hn0, by omega, by omega⟩, fun h => ⟨⟨by omega, by omega⟩, ?_⟩, fun h => ?_⟩
      · rw [if_pos h]
      · rw [if_neg h])

abbrev Src := List Int × Int
def Src.raw (s : Src) : Int := if s.2 ≥ s.1.length then 0 else s.1.getD s.2.toNat 0
def Src.step (s : Src) : Src := if s.2 ≥ s.1.length then s else (s.1, s.2 + 1)
theorem Src.step_pos (s : Src) (h : 0 ≤ s.2) : 0 ≤ s.step.2 := by unfold Src.step; split; exact h; exact Int.le_trans h (by simp only; omega)
def con21 : Con := { ps := [.p 48 (.pair (.sl (.int .i64)) (.int .i64))], rs := [.d false (.int .i64)], pre := fun x => 0 ≤ x.1.2, out := fun x => (Src.raw x.1, ()), nw := fun x => (Src.step x.1, ()) }
theorem c21 : CtrOk Tryz.prog 21 con21.ctr :=
  con_sound (G := ⟨[], [], []⟩) tab_ok EnvOk.nil rfl Tryz.func21 rfl con21 4101 (by kernel_rfl) (by decide) (by decide) rfl (by decide) rfl (by
    rintro ⟨⟨(l : List Int), (a : Int)⟩, _⟩ hpre hwf X hT hG hk hK
    (simp only [go_sem, Prod.eta, Option.isSome_none, Option.isSome_some, Int.toNat_zero, Nat.reduceAdd, Nat.reduceMul, Nat.reduceSub, Nat.reduceEqDiff, Nat.reduceLT, Nat.reduceLeDiff, Nat.reduceShiftRight, Nat.reduceMod, Nat.reduceBEq, reduceCtorEq, reduceIte, reduceDIte, Int.reduceNeg, con21, hT, hG, hk, hK, Tryz.results21] at hwf ⊢); (try simp (disch := decide +kernel) only [drawn, true_and, and_true])
    intro hl
    have hpre : 0 ≤ a := hpre
    have hl' := hl
    simp only [maxLen] at hl'
    unfold Src.step Src.raw
    refine ⟨fun h => ?_, fun h => ⟨⟨by omega, by omega⟩, ⟨by omega, by omega⟩, ⟨by omega, by omega⟩, fun _ _ => ?_⟩⟩
    · simp [show (a : Int) ≥ (l.length : Int) from h]
    · simp [show ¬ (a : Int) ≥ (l.length : Int) from h])

def con15 : Con := { ps := [.p 48 (.pair (.sl (.int .i64)) (.int .i64)), .d false (.int .i64)], rs := [.d false (.int .i64)], pre := fun x => 0 ≤ x.1.2, out := fun x => (goMod (Src.raw x.1) x.2.1, ()), nw := fun x => (Src.step x.1, x.2) }
theorem c15 : CtrOk Tryz.prog 15 con15.ctr :=
  con_sound (G := ⟨[(21, con21.ctr), (41, con41.ctr)], [], []⟩) tab_ok (EnvOk.cons c21 has21 (EnvOk.cons c41 has41 EnvOk.nil)) rfl Tryz.func15 rfl con15 19 (by kernel_rfl) (by decide) (by decide) rfl (by decide) rfl (by
    rintro ⟨⟨(l : List Int), (a : Int)⟩, (n : Int), _⟩ hpre hwf X hT hG hk hK
    (simp only [go_sem, Prod.eta, Option.isSome_none, Option.isSome_some, Int.toNat_zero, Nat.reduceAdd, Nat.reduceMul, Nat.reduceSub, Nat.reduceEqDiff, Nat.reduceLT, Nat.reduceLeDiff, Nat.reduceShiftRight, Nat.reduceMod, Nat.reduceBEq, reduceCtorEq, reduceIte, reduceDIte, Int.reduceNeg, con15, con21, con41, hT, hG, hk, hK, Tryz.results15] at hwf ⊢); (try simp (disch := decide +kernel) only [drawn, true_and, and_true])
    exact hpre)

def con5 : Con := { ps := [.d false (.sl (.int .i64))], rs := [.p 48 (.pair (.sl (.int .i64)) (.int .i64))], pre := fun x => True, out := fun x => ((x.1.take 2000, 0), ()), nw := id }
theorem c5 : CtrOk Tryz.prog 5 con5.ctr :=
  con_sound (G := ⟨[], [], []⟩) tab_ok EnvOk.nil rfl Tryz.func5 rfl con5 37 (by kernel_rfl) (by decide) (by decide) rfl (by decide) rfl (by
    rintro ⟨(l : List Int), _⟩ hpre hwf X hT hG hk hK
    (simp only [go_sem, Prod.eta, Option.isSome_none, Option.isSome_some, Int.toNat_zero, Nat.reduceAdd, Nat.reduceMul, Nat.reduceSub, Nat.reduceEqDiff, Nat.reduceLT, Nat.reduceLeDiff, Nat.reduceShiftRight, Nat.reduceMod, Nat.reduceBEq, reduceCtorEq, reduceIte, reduceDIte, Int.reduceNeg, con5, hT, hG, hk, hK, Tryz.results5] at hwf ⊢); (try simp (disch := decide +kernel) only [drawn, true_and, and_true])
    refine fun _ => ⟨fun h => ⟨⟨by omega, by omega, by omega⟩, rfl⟩, fun h => ?_⟩
    rw [List.take_of_length_le (by omega)])
end Go.Proofs.YtdmgmdppejopcaaGreat

/- The contracts of the functions that the statements about the makeup reach: comparisons, what is valid, what is open. -/
set_option linter.unusedSimpArgs false
set_option linter.unusedVariables false
set_option maxRecDepth 100000
set_option maxHeartbeats 4000000
namespace Go.Proofs.YtdmgmdppejopcaaGreat
open Go.Ev

abbrev Flt := ByteArray × Int × ByteArray × Int
abbrev Dep := Flt × ByteArray × Int × Int × Int × Int × Int
abbrev All := Flt × Int
def Dep.opens (d : Dep) : Int := d.2.2.1
def Dep.closes (d : Dep) : Int := d.2.2.2.1
def Dep.state (d : Dep) : Int := d.2.2.2.2.2.2

def con99 : Con := { ps := [.d false (.int .i64)], rs := [.d false .bool], pre := fun _ => True, out := fun x => (false, ()), nw := id }
theorem c99 : CtrOk Tryz.prog 99 con99.ctr :=
  con_sound (G := ⟨[], [], []⟩) tab_ok EnvOk.nil rfl Tryz.func99 rfl con99 5 (by kernel_rfl) (by decide) (by decide) rfl (by decide) rfl (by
    rintro ⟨(p : Int), _⟩ hpre hwf X hT hG hk hK
    (simp only [go_sem, Prod.eta, Option.isSome_none, Option.isSome_some, Int.toNat_zero, Nat.reduceAdd, Nat.reduceMul, Nat.reduceSub, Nat.reduceEqDiff, Nat.reduceLT, Nat.reduceLeDiff, Nat.reduceShiftRight, Nat.reduceMod, Nat.reduceBEq, reduceCtorEq, reduceIte, reduceDIte, Int.reduceNeg, con99, hT, hG, hk, hK, Tryz.results99] at hwf ⊢); (try simp (disch := decide +kernel) only [drawn, true_and, and_true]))
def con98 : Con := { ps := [.d false .str], rs := [.d false .bool], pre := fun _ => True, out := fun x => (false, ()), nw := id }
theorem c98 : CtrOk Tryz.prog 98 con98.ctr :=
  con_sound (G := ⟨[], [], []⟩) tab_ok EnvOk.nil rfl Tryz.func98 rfl con98 5 (by kernel_rfl) (by decide) (by decide) rfl (by decide) rfl (by
    rintro ⟨(p : ByteArray), _⟩ hpre hwf X hT hG hk hK
    (simp only [go_sem, Prod.eta, Option.isSome_none, Option.isSome_some, Int.toNat_zero, Nat.reduceAdd, Nat.reduceMul, Nat.reduceSub, Nat.reduceEqDiff, Nat.reduceLT, Nat.reduceLeDiff, Nat.reduceShiftRight, Nat.reduceMod, Nat.reduceBEq, reduceCtorEq, reduceIte, reduceDIte, Int.reduceNeg, con98, hT, hG, hk, hK, Tryz.results98] at hwf ⊢); (try simp (disch := decide +kernel) only [drawn, true_and, and_true]))
def cmpV (a b : Int) : Int := if a < b then -1 else if a > b then 1 else 0
def con73 : Con := { ps := [.d false (.int .i64), .d false (.int .i64)], rs := [.d false (.int .i64)], pre := fun _ => True, out := fun x => (cmpV x.1 x.2.1, ()), nw := id }
theorem c73 : CtrOk Tryz.prog 73 con73.ctr :=
  con_sound (G := ⟨[(99, con99.ctr)], [], []⟩) tab_ok (EnvOk.cons c99 has99 EnvOk.nil) rfl Tryz.func73 rfl con73 604275 (by kernel_rfl) (by decide) (by decide) rfl (by decide) rfl (by
    rintro ⟨(a : Int), (b : Int), _⟩ hpre hwf X hT hG hk hK
    (simp only [go_sem, Prod.eta, Option.isSome_none, Option.isSome_some, Int.toNat_zero, Nat.reduceAdd, Nat.reduceMul, Nat.reduceSub, Nat.reduceEqDiff, Nat.reduceLT, Nat.reduceLeDiff, Nat.reduceShiftRight, Nat.reduceMod, Nat.reduceBEq, reduceCtorEq, reduceIte, reduceDIte, Int.reduceNeg, con73, con99, hT, hG, hk, hK, Tryz.results73] at hwf ⊢); (try simp (disch := decide +kernel) only [drawn, true_and, and_true])
    unfold cmpV
    refine ⟨fun h => h.elim, fun h => h.elim, fun h => by rw [if_pos h], fun h => ⟨fun k => by rw [if_neg h, if_pos k], fun k => by rw [if_neg h, if_neg k]⟩⟩)
def cmpS (a b : ByteArray) : Int := if strLt a b = true then -1 else if (!(strLt a b || decide (a = b))) = true then 1 else 0
def con72 : Con := { ps := [.d false .str, .d false .str], rs := [.d false (.int .i64)], pre := fun _ => True, out := fun x => (cmpS x.1 x.2.1, ()), nw := id }
theorem c72 : CtrOk Tryz.prog 72 con72.ctr :=
  con_sound (G := ⟨[(98, con98.ctr)], [], []⟩) tab_ok (EnvOk.cons c98 has98 EnvOk.nil) rfl Tryz.func72 rfl con72 604275 (by kernel_rfl) (by decide) (by decide) rfl (by decide) rfl (by
    rintro ⟨(a : ByteArray), (b : ByteArray), _⟩ hpre hwf X hT hG hk hK
    (simp only [go_sem, Prod.eta, Option.isSome_none, Option.isSome_some, Int.toNat_zero, Nat.reduceAdd, Nat.reduceMul, Nat.reduceSub, Nat.reduceEqDiff, Nat.reduceLT, Nat.reduceLeDiff, Nat.reduceShiftRight, Nat.reduceMod, Nat.reduceBEq, reduceCtorEq, reduceIte, reduceDIte, Int.reduceNeg, con72, con98, hT, hG, hk, hK, Tryz.results72] at hwf ⊢); (try simp (disch := decide +kernel) only [drawn, true_and, and_true])
    unfold cmpS
    generalize strLt a b = q
    generalize decide (a = b) = r
    cases q <;> cases r <;> simp)
def orV : List Int → Int
  | [] => 0
  | x :: l => if x = 0 then orV l else x
def con71 : Con := { ps := [.d false (.sl (.int .i64))], rs := [.d false (.int .i64)], pre := fun _ => True, out := fun x => (orV x.1, ()), nw := id }
theorem c71 : CtrOk Tryz.prog 71 con71.ctr :=
  con_sound (G := ⟨[], [], []⟩) tab_ok EnvOk.nil rfl Tryz.func71 rfl con71 17389 (by kernel_rfl) (by decide) (by decide) rfl (by decide) rfl (by
    rintro ⟨(l : List Int), _⟩ hpre hwf X hT hG hk hK
    (simp only [go_sem, Prod.eta, Option.isSome_none, Option.isSome_some, Int.toNat_zero, Nat.reduceAdd, Nat.reduceMul, Nat.reduceSub, Nat.reduceEqDiff, Nat.reduceLT, Nat.reduceLeDiff, Nat.reduceShiftRight, Nat.reduceMod, Nat.reduceBEq, reduceCtorEq, reduceIte, reduceDIte, Int.reduceNeg, Bool.not_eq_true', Bool.not_eq_false', Bool.or_eq_true, Bool.or_eq_false_iff, Bool.and_eq_true, Bool.and_eq_false_iff, decide_eq_true_eq, decide_eq_false_iff_not, Classical.not_not, not_or, maxLen, con71, hT, hG, hk, hK, Tryz.results71] at hwf ⊢); (try simp (disch := decide +kernel) only [drawn, true_and, and_true])
    intro hl
    refine evk_loop ⟨{ i : Nat // i ≤ l.length ∧ orV l = orV (l.drop i) }, 1000, fun i => [(3, .one (.int .i64 0)), (6, .one (.sl (.int .i64) l false)), (7, .one (.int .i64 l.length)), (8, .one (.int .i64 i.1))], fun _ => [], fun i => l.length - i.1⟩ ⟨0, by simp, by simp⟩ ?_ ?_
    · simp only [go_sem, Prod.eta, Option.isSome_none, Option.isSome_some, Int.toNat_zero, Nat.reduceAdd, Nat.reduceMul, Nat.reduceSub, Nat.reduceEqDiff, Nat.reduceLT, Nat.reduceLeDiff, Nat.reduceShiftRight, Nat.reduceMod, Nat.reduceBEq, reduceCtorEq, reduceIte, reduceDIte, Int.reduceNeg]
      rfl
    · rintro ⟨i, (hi : i ≤ l.length), (he : orV l = orV (l.drop i))⟩
      (simp only [go_sem, Prod.eta, Option.isSome_none, Option.isSome_some, Int.toNat_zero, Nat.reduceAdd, Nat.reduceMul, Nat.reduceSub, Nat.reduceEqDiff, Nat.reduceLT, Nat.reduceLeDiff, Nat.reduceShiftRight, Nat.reduceMod, Nat.reduceBEq, reduceCtorEq, reduceIte, reduceDIte, Int.reduceNeg, Bool.not_eq_true', Bool.not_eq_false', Bool.or_eq_true, Bool.or_eq_false_iff, Bool.and_eq_true, Bool.and_eq_false_iff, decide_eq_true_eq, decide_eq_false_iff_not, Classical.not_not, not_or, maxLen, con71, hT, hG, hk, hK, Tryz.results71]); (try simp (disch := decide +kernel) only [drawn, true_and, and_true])
      refine ⟨fun hlt => ?_, fun hge => ?_⟩
      · have hi' : i < l.length := by omega
        have ek : l.getD (i : Int).toNat 0 = l[i] := by simp [hi']
        rw [ek]
        have hst : orV l = if l[i] = 0 then orV (l.drop (i + 1)) else l[i] := by
          rw [he, List.drop_eq_getElem_cons hi', orV]
        (repeat' (with_reducible (first | refine And.intro ?_ ?_ | intro _))) <;> (try (first | with_reducible (first | done | assumption | omega | contradiction) | decide))
        all_goals rename_i h
        · first
            | rw [hst, if_neg h]
            | (refine fin_lp ⟨i + 1, by omega, ?_⟩ ?_ ?_
               · rw [hst, if_pos h]
               · simp only [go_sem, Prod.eta, Option.isSome_none, Option.isSome_some, Int.toNat_zero, Nat.reduceAdd, Nat.reduceMul, Nat.reduceSub, Nat.reduceEqDiff, Nat.reduceLT, Nat.reduceLeDiff, Nat.reduceShiftRight, Nat.reduceMod, Nat.reduceBEq, reduceCtorEq, reduceIte, reduceDIte, Int.reduceNeg]
                 rfl
               · show l.length - (i + 1) < l.length - i
                 omega)
      · rw [he, List.drop_of_length_le (by omega)]
        rfl)
def fltC (a b : Flt) : Int := orV [cmpS a.1 b.1, cmpV a.2.1 b.2.1, cmpS a.2.2.1 b.2.2.1, cmpV a.2.2.2 b.2.2.2]
def con59 : Con := { ps := [.d true (.pair .str (.pair (.int .i64) (.pair .str (.int .i64)))), .d true (.pair .str (.pair (.int .i64) (.pair .str (.int .i64))))], rs := [.d false (.int .i64)], pre := fun _ => True, out := fun x => (fltC x.1 x.2.1, ()), nw := id }
theorem c59 : CtrOk Tryz.prog 59 con59.ctr :=
  con_sound (G := ⟨[(71, con71.ctr), (72, con72.ctr), (73, con73.ctr)], [], []⟩) tab_ok (EnvOk.cons c71 has71 (EnvOk.cons c72 has72 (EnvOk.cons c73 has73 EnvOk.nil))) rfl Tryz.func59 rfl con59 31 (by kernel_rfl) (by decide) (by decide) rfl (by decide) rfl (by
    rintro ⟨⟨a1, (a2 : Int), a3, (a4 : Int)⟩, ⟨b1, (b2 : Int), b3, (b4 : Int)⟩, _⟩ hpre hwf X hT hG hk hK
    (simp only [go_sem, Prod.eta, Option.isSome_none, Option.isSome_some, Int.toNat_zero, Nat.reduceAdd, Nat.reduceMul, Nat.reduceSub, Nat.reduceEqDiff, Nat.reduceLT, Nat.reduceLeDiff, Nat.reduceShiftRight, Nat.reduceMod, Nat.reduceBEq, reduceCtorEq, reduceIte, reduceDIte, Int.reduceNeg, Bool.not_eq_true', Bool.not_eq_false', Bool.or_eq_true, Bool.or_eq_false_iff, Bool.and_eq_true, Bool.and_eq_false_iff, decide_eq_true_eq, decide_eq_false_iff_not, Classical.not_not, not_or, maxLen, con59, con71, con72, con73, hT, hG, hk, hK, Tryz.results59] at hwf ⊢); (try simp (disch := decide +kernel) only [drawn, true_and, and_true])
    (repeat' (with_reducible (first | refine And.intro ?_ ?_ | intro _))) <;> (try (first | with_reducible (first | done | assumption | omega | contradiction) | decide))
    rfl)
def con58 : Con := { ps := [.d true (.pair (.pair .str (.pair (.int .i64) (.pair .str (.int .i64)))) (.int .i64)), .d true (.pair (.pair .str (.pair (.int .i64) (.pair .str (.int .i64)))) (.int .i64))], rs := [.d false (.int .i64)], pre := fun _ => True, out := fun x => (fltC x.1.1 x.2.1.1, ()), nw := id }
theorem c58 : CtrOk Tryz.prog 58 con58.ctr :=
  con_sound (G := ⟨[(59, con59.ctr)], [], []⟩) tab_ok (EnvOk.cons c59 has59 EnvOk.nil) rfl Tryz.func58 rfl con58 31 (by kernel_rfl) (by decide) (by decide) rfl (by decide) rfl (by
    rintro ⟨⟨a, (x : Int)⟩, ⟨b, (y : Int)⟩, _⟩ hpre hwf X hT hG hk hK
    (simp only [go_sem, Prod.eta, Option.isSome_none, Option.isSome_some, Int.toNat_zero, Nat.reduceAdd, Nat.reduceMul, Nat.reduceSub, Nat.reduceEqDiff, Nat.reduceLT, Nat.reduceLeDiff, Nat.reduceShiftRight, Nat.reduceMod, Nat.reduceBEq, reduceCtorEq, reduceIte, reduceDIte, Int.reduceNeg, Bool.not_eq_true', Bool.not_eq_false', Bool.or_eq_true, Bool.or_eq_false_iff, Bool.and_eq_true, Bool.and_eq_false_iff, decide_eq_true_eq, decide_eq_false_iff_not, Classical.not_not, not_or, maxLen, con58, con59, hT, hG, hk, hK, Tryz.results58] at hwf ⊢); (try simp (disch := decide +kernel) only [drawn, true_and, and_true]))
def overV (a b : Dep) : Bool := decide ((if b.opens > a.opens then b.opens else a.opens) < if b.closes < a.closes then b.closes else a.closes)
def con47 : Con := { ps := [.d true (.pair (.pair .str (.pair (.int .i64) (.pair .str (.int .i64)))) (.pair .str (.pair (.int .i64) (.pair (.int .i64) (.pair (.int .i64) (.pair (.int .i64) (.int .i64))))))), .d true (.pair (.pair .str (.pair (.int .i64) (.pair .str (.int .i64)))) (.pair .str (.pair (.int .i64) (.pair (.int .i64) (.pair (.int .i64) (.pair (.int .i64) (.int .i64)))))))], rs := [.d false .bool], pre := fun _ => True, out := fun x => (overV x.1 x.2.1, ()), nw := id }
theorem c47 : CtrOk Tryz.prog 47 con47.ctr :=
  con_sound (G := ⟨[], [], []⟩) tab_ok EnvOk.nil rfl Tryz.func47 rfl con47 31 (by kernel_rfl) (by decide) (by decide) rfl (by decide) rfl (by
    rintro ⟨(a : Dep), (b : Dep), _⟩ hpre hwf X hT hG hk hK
    obtain ⟨a0, a1, (a2 : Int), (a3 : Int), (a4 : Int), (a5 : Int), (a6 : Int)⟩ := a
    obtain ⟨b0, b1, (b2 : Int), (b3 : Int), (b4 : Int), (b5 : Int), (b6 : Int)⟩ := b
    (simp only [go_sem, Prod.eta, Option.isSome_none, Option.isSome_some, Int.toNat_zero, Nat.reduceAdd, Nat.reduceMul, Nat.reduceSub, Nat.reduceEqDiff, Nat.reduceLT, Nat.reduceLeDiff, Nat.reduceShiftRight, Nat.reduceMod, Nat.reduceBEq, reduceCtorEq, reduceIte, reduceDIte, Int.reduceNeg, Bool.not_eq_true', Bool.not_eq_false', Bool.or_eq_true, Bool.or_eq_false_iff, Bool.and_eq_true, Bool.and_eq_false_iff, decide_eq_true_eq, decide_eq_false_iff_not, Classical.not_not, not_or, maxLen, con47, hT, hG, hk, hK, Tryz.results47] at hwf ⊢); (try simp (disch := decide +kernel) only [drawn, true_and, and_true])
    (repeat' (with_reducible (first | refine And.intro ?_ ?_ | intro _))) <;> (try (first | with_reducible (first | done | assumption | omega | contradiction) | decide))
    rfl)
def isOpenV (d : Dep) (t : Int) : Bool := decide (d.state = 0) && decide (d.opens ≤ t) && decide (t < d.closes)
def con53 : Con := { ps := [.d true (.pair (.pair .str (.pair (.int .i64) (.pair .str (.int .i64)))) (.pair .str (.pair (.int .i64) (.pair (.int .i64) (.pair (.int .i64) (.pair (.int .i64) (.int .i64))))))), .d false (.int .i64)], rs := [.d false .bool], pre := fun _ => True, out := fun x => (isOpenV x.1 x.2.1, ()), nw := id }
theorem c53 : CtrOk Tryz.prog 53 con53.ctr :=
  con_sound (G := ⟨[], [], []⟩) tab_ok EnvOk.nil rfl Tryz.func53 rfl con53 23 (by kernel_rfl) (by decide) (by decide) rfl (by decide) rfl (by
    rintro ⟨(a : Dep), (t : Int), _⟩ hpre hwf X hT hG hk hK
    obtain ⟨a0, a1, (a2 : Int), (a3 : Int), (a4 : Int), (a5 : Int), (a6 : Int)⟩ := a
    (simp only [go_sem, Prod.eta, Option.isSome_none, Option.isSome_some, Int.toNat_zero, Nat.reduceAdd, Nat.reduceMul, Nat.reduceSub, Nat.reduceEqDiff, Nat.reduceLT, Nat.reduceLeDiff, Nat.reduceShiftRight, Nat.reduceMod, Nat.reduceBEq, reduceCtorEq, reduceIte, reduceDIte, Int.reduceNeg, Bool.not_eq_true', Bool.not_eq_false', Bool.or_eq_true, Bool.or_eq_false_iff, Bool.and_eq_true, Bool.and_eq_false_iff, decide_eq_true_eq, decide_eq_false_iff_not, Classical.not_not, not_or, maxLen, con53, hT, hG, hk, hK, Tryz.results53] at hwf ⊢); (try simp (disch := decide +kernel) only [drawn, true_and, and_true])
    (repeat' (with_reducible (first | refine And.intro ?_ ?_ | intro _))) <;> (try (first | with_reducible (first | done | assumption | omega | contradiction) | decide))
    rfl)
def con42 : Con := { ps := [.d true (.pair (.pair .str (.pair (.int .i64) (.pair .str (.int .i64)))) (.pair .str (.pair (.int .i64) (.pair (.int .i64) (.pair (.int .i64) (.pair (.int .i64) (.int .i64))))))), .d false (.int .i64)], rs := [.d false .bool], pre := fun _ => True, out := fun x => (isOpenV x.1 x.2.1, ()), nw := id }
theorem c42 : CtrOk Tryz.prog 42 con42.ctr :=
  con_sound (G := ⟨[], [], []⟩) tab_ok EnvOk.nil rfl Tryz.func42 rfl con42 23 (by kernel_rfl) (by decide) (by decide) rfl (by decide) rfl (by
    rintro ⟨(a : Dep), (t : Int), _⟩ hpre hwf X hT hG hk hK
    obtain ⟨a0, a1, (a2 : Int), (a3 : Int), (a4 : Int), (a5 : Int), (a6 : Int)⟩ := a
    (simp only [go_sem, Prod.eta, Option.isSome_none, Option.isSome_some, Int.toNat_zero, Nat.reduceAdd, Nat.reduceMul, Nat.reduceSub, Nat.reduceEqDiff, Nat.reduceLT, Nat.reduceLeDiff, Nat.reduceShiftRight, Nat.reduceMod, Nat.reduceBEq, reduceCtorEq, reduceIte, reduceDIte, Int.reduceNeg, Bool.not_eq_true', Bool.not_eq_false', Bool.or_eq_true, Bool.or_eq_false_iff, Bool.and_eq_true, Bool.and_eq_false_iff, decide_eq_true_eq, decide_eq_false_iff_not, Classical.not_not, not_or, maxLen, con42, hT, hG, hk, hK, Tryz.results42] at hwf ⊢); (try simp (disch := decide +kernel) only [drawn, true_and, and_true])
    (repeat' (with_reducible (first | refine And.intro ?_ ?_ | intro _))) <;> (try (first | with_reducible (first | done | assumption | omega | contradiction) | decide))
    rfl)
def con55 : Con := { ps := [.d true (.pair (.pair .str (.pair (.int .i64) (.pair .str (.int .i64)))) (.pair .str (.pair (.int .i64) (.pair (.int .i64) (.pair (.int .i64) (.pair (.int .i64) (.int .i64)))))))], rs := [.d false .bool], pre := fun _ => True, out := fun x => (!decide (Dep.state x.1 = 0), ()), nw := id }
theorem c55 : CtrOk Tryz.prog 55 con55.ctr :=
  con_sound (G := ⟨[], [], []⟩) tab_ok EnvOk.nil rfl Tryz.func55 rfl con55 7 (by kernel_rfl) (by decide) (by decide) rfl (by decide) rfl (by
    rintro ⟨(a : Dep), _⟩ hpre hwf X hT hG hk hK
    obtain ⟨a0, a1, (a2 : Int), (a3 : Int), (a4 : Int), (a5 : Int), (a6 : Int)⟩ := a
    (simp only [go_sem, Prod.eta, Option.isSome_none, Option.isSome_some, Int.toNat_zero, Nat.reduceAdd, Nat.reduceMul, Nat.reduceSub, Nat.reduceEqDiff, Nat.reduceLT, Nat.reduceLeDiff, Nat.reduceShiftRight, Nat.reduceMod, Nat.reduceBEq, reduceCtorEq, reduceIte, reduceDIte, Int.reduceNeg, Bool.not_eq_true', Bool.not_eq_false', Bool.or_eq_true, Bool.or_eq_false_iff, Bool.and_eq_true, Bool.and_eq_false_iff, decide_eq_true_eq, decide_eq_false_iff_not, Classical.not_not, not_or, maxLen, con55, hT, hG, hk, hK, Tryz.results55] at hwf ⊢); (try simp (disch := decide +kernel) only [drawn, true_and, and_true])
    (repeat' (with_reducible (first | refine And.intro ?_ ?_ | intro _))) <;> (try (first | with_reducible (first | done | assumption | omega | contradiction) | decide))
    exact decide_not)
def inV (n a b : Int) : Bool := decide (a ≤ n) && decide (n ≤ b)
def con77 : Con := { ps := [.d false (.int .i64), .d false (.int .i64), .d false (.int .i64)], rs := [.d false .bool], pre := fun _ => True, out := fun x => (inV x.1 x.2.1 x.2.2.1, ()), nw := id }
theorem c77 : CtrOk Tryz.prog 77 con77.ctr :=
  con_sound (G := ⟨[], [], []⟩) tab_ok EnvOk.nil rfl Tryz.func77 rfl con77 71 (by kernel_rfl) (by decide) (by decide) rfl (by decide) rfl (by
    rintro ⟨(n : Int), (a : Int), (b : Int), _⟩ hpre hwf X hT hG hk hK
    (simp only [go_sem, Prod.eta, Option.isSome_none, Option.isSome_some, Int.toNat_zero, Nat.reduceAdd, Nat.reduceMul, Nat.reduceSub, Nat.reduceEqDiff, Nat.reduceLT, Nat.reduceLeDiff, Nat.reduceShiftRight, Nat.reduceMod, Nat.reduceBEq, reduceCtorEq, reduceIte, reduceDIte, Int.reduceNeg, Bool.not_eq_true', Bool.not_eq_false', Bool.or_eq_true, Bool.or_eq_false_iff, Bool.and_eq_true, Bool.and_eq_false_iff, decide_eq_true_eq, decide_eq_false_iff_not, Classical.not_not, not_or, maxLen, con77, hT, hG, hk, hK, Tryz.results77] at hwf ⊢); (try simp (disch := decide +kernel) only [drawn, true_and, and_true])
    (repeat' (with_reducible (first | refine And.intro ?_ ?_ | intro _))) <;> (try (first | with_reducible (first | done | assumption | omega | contradiction) | decide))
    rfl)
def letterV (n : Int) : Bool := decide (65 ≤ n) && decide (n ≤ 90)
def con116 : Con := { ps := [.d false (.int .u8)], rs := [.d false .bool], pre := fun _ => True, out := fun x => (letterV x.1, ()), nw := id }
theorem c116 : CtrOk Tryz.prog 116 con116.ctr :=
  con_sound (G := ⟨[], [], []⟩) tab_ok EnvOk.nil rfl Tryz.func116 rfl con116 5 (by kernel_rfl) (by decide) (by decide) rfl (by decide) rfl (by
    rintro ⟨(n : Int), _⟩ hpre hwf X hT hG hk hK
    (simp only [go_sem, Prod.eta, Option.isSome_none, Option.isSome_some, Int.toNat_zero, Nat.reduceAdd, Nat.reduceMul, Nat.reduceSub, Nat.reduceEqDiff, Nat.reduceLT, Nat.reduceLeDiff, Nat.reduceShiftRight, Nat.reduceMod, Nat.reduceBEq, reduceCtorEq, reduceIte, reduceDIte, Int.reduceNeg, Bool.not_eq_true', Bool.not_eq_false', Bool.or_eq_true, Bool.or_eq_false_iff, Bool.and_eq_true, Bool.and_eq_false_iff, decide_eq_true_eq, decide_eq_false_iff_not, Classical.not_not, not_or, maxLen, con116, hT, hG, hk, hK, Tryz.results116] at hwf ⊢); (try simp (disch := decide +kernel) only [drawn, true_and, and_true])
    (repeat' (with_reducible (first | refine And.intro ?_ ?_ | intro _))) <;> (try (first | with_reducible (first | done | assumption | omega | contradiction) | decide))
    rfl)
def digitV (n : Int) : Bool := decide (48 ≤ n) && decide (n ≤ 57)
def con117 : Con := { ps := [.d false (.int .u8)], rs := [.d false .bool], pre := fun _ => True, out := fun x => (digitV x.1, ()), nw := id }
theorem c117 : CtrOk Tryz.prog 117 con117.ctr :=
  con_sound (G := ⟨[], [], []⟩) tab_ok EnvOk.nil rfl Tryz.func117 rfl con117 5 (by kernel_rfl) (by decide) (by decide) rfl (by decide) rfl (by
    rintro ⟨(n : Int), _⟩ hpre hwf X hT hG hk hK
    (simp only [go_sem, Prod.eta, Option.isSome_none, Option.isSome_some, Int.toNat_zero, Nat.reduceAdd, Nat.reduceMul, Nat.reduceSub, Nat.reduceEqDiff, Nat.reduceLT, Nat.reduceLeDiff, Nat.reduceShiftRight, Nat.reduceMod, Nat.reduceBEq, reduceCtorEq, reduceIte, reduceDIte, Int.reduceNeg, Bool.not_eq_true', Bool.not_eq_false', Bool.or_eq_true, Bool.or_eq_false_iff, Bool.and_eq_true, Bool.and_eq_false_iff, decide_eq_true_eq, decide_eq_false_iff_not, Classical.not_not, not_or, maxLen, con117, hT, hG, hk, hK, Tryz.results117] at hwf ⊢); (try simp (disch := decide +kernel) only [drawn, true_and, and_true])
    (repeat' (with_reducible (first | refine And.intro ?_ ?_ | intro _))) <;> (try (first | with_reducible (first | done | assumption | omega | contradiction) | decide))
    rfl)
end Go.Proofs.YtdmgmdppejopcaaGreat
