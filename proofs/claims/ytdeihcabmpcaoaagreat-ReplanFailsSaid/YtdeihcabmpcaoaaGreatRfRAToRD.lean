/- The contracts of the functions that read numbers. -/
import Derived.Test.YtdeihcabmpcaoaaGreatRfTab
set_option linter.unusedSimpArgs false
set_option linter.unusedVariables false
set_option maxRecDepth 100000
set_option maxHeartbeats 4000000
namespace Go.Proofs.YtdeihcabmpcaoaaGreat
open Go.Ev

theorem has5 : FnHas Tryz.prog 5 := ⟨⟨_, Tryz.func5, by kernel_rfl, by kernel_rfl⟩⟩
theorem has6 : FnHas Tryz.prog 6 := ⟨⟨_, Tryz.func6, by kernel_rfl, by kernel_rfl⟩⟩
theorem has7 : FnHas Tryz.prog 7 := ⟨⟨_, Tryz.func7, by kernel_rfl, by kernel_rfl⟩⟩
theorem has8 : FnHas Tryz.prog 8 := ⟨⟨_, Tryz.func8, by kernel_rfl, by kernel_rfl⟩⟩
theorem has9 : FnHas Tryz.prog 9 := ⟨⟨_, Tryz.func9, by kernel_rfl, by kernel_rfl⟩⟩
theorem has10 : FnHas Tryz.prog 10 := ⟨⟨_, Tryz.func10, by kernel_rfl, by kernel_rfl⟩⟩
theorem has11 : FnHas Tryz.prog 11 := ⟨⟨_, Tryz.func11, by kernel_rfl, by kernel_rfl⟩⟩
theorem has12 : FnHas Tryz.prog 12 := ⟨⟨_, Tryz.func12, by kernel_rfl, by kernel_rfl⟩⟩
theorem has13 : FnHas Tryz.prog 13 := ⟨⟨_, Tryz.func13, by kernel_rfl, by kernel_rfl⟩⟩
theorem has14 : FnHas Tryz.prog 14 := ⟨⟨_, Tryz.func14, by kernel_rfl, by kernel_rfl⟩⟩
theorem has15 : FnHas Tryz.prog 15 := ⟨⟨_, Tryz.func15, by kernel_rfl, by kernel_rfl⟩⟩
theorem has16 : FnHas Tryz.prog 16 := ⟨⟨_, Tryz.func16, by kernel_rfl, by kernel_rfl⟩⟩
theorem has17 : FnHas Tryz.prog 17 := ⟨⟨_, Tryz.func17, by kernel_rfl, by kernel_rfl⟩⟩
theorem has20 : FnHas Tryz.prog 20 := ⟨⟨_, Tryz.func20, by kernel_rfl, by kernel_rfl⟩⟩
theorem has21 : FnHas Tryz.prog 21 := ⟨⟨_, Tryz.func21, by kernel_rfl, by kernel_rfl⟩⟩
theorem has22 : FnHas Tryz.prog 22 := ⟨⟨_, Tryz.func22, by kernel_rfl, by kernel_rfl⟩⟩
theorem has23 : FnHas Tryz.prog 23 := ⟨⟨_, Tryz.func23, by kernel_rfl, by kernel_rfl⟩⟩
theorem has24 : FnHas Tryz.prog 24 := ⟨⟨_, Tryz.func24, by kernel_rfl, by kernel_rfl⟩⟩
theorem has25 : FnHas Tryz.prog 25 := ⟨⟨_, Tryz.func25, by kernel_rfl, by kernel_rfl⟩⟩
theorem has26 : FnHas Tryz.prog 26 := ⟨⟨_, Tryz.func26, by kernel_rfl, by kernel_rfl⟩⟩
theorem has27 : FnHas Tryz.prog 27 := ⟨⟨_, Tryz.func27, by kernel_rfl, by kernel_rfl⟩⟩
theorem has28 : FnHas Tryz.prog 28 := ⟨⟨_, Tryz.func28, by kernel_rfl, by kernel_rfl⟩⟩
theorem has29 : FnHas Tryz.prog 29 := ⟨⟨_, Tryz.func29, by kernel_rfl, by kernel_rfl⟩⟩
theorem has30 : FnHas Tryz.prog 30 := ⟨⟨_, Tryz.func30, by kernel_rfl, by kernel_rfl⟩⟩
theorem has31 : FnHas Tryz.prog 31 := ⟨⟨_, Tryz.func31, by kernel_rfl, by kernel_rfl⟩⟩
theorem has32 : FnHas Tryz.prog 32 := ⟨⟨_, Tryz.func32, by kernel_rfl, by kernel_rfl⟩⟩
theorem has33 : FnHas Tryz.prog 33 := ⟨⟨_, Tryz.func33, by kernel_rfl, by kernel_rfl⟩⟩
theorem has34 : FnHas Tryz.prog 34 := ⟨⟨_, Tryz.func34, by kernel_rfl, by kernel_rfl⟩⟩
theorem has35 : FnHas Tryz.prog 35 := ⟨⟨_, Tryz.func35, by kernel_rfl, by kernel_rfl⟩⟩
theorem has36 : FnHas Tryz.prog 36 := ⟨⟨_, Tryz.func36, by kernel_rfl, by kernel_rfl⟩⟩
theorem has37 : FnHas Tryz.prog 37 := ⟨⟨_, Tryz.func37, by kernel_rfl, by kernel_rfl⟩⟩
theorem has38 : FnHas Tryz.prog 38 := ⟨⟨_, Tryz.func38, by kernel_rfl, by kernel_rfl⟩⟩
theorem has39 : FnHas Tryz.prog 39 := ⟨⟨_, Tryz.func39, by kernel_rfl, by kernel_rfl⟩⟩
theorem has40 : FnHas Tryz.prog 40 := ⟨⟨_, Tryz.func40, by kernel_rfl, by kernel_rfl⟩⟩
theorem has41 : FnHas Tryz.prog 41 := ⟨⟨_, Tryz.func41, by kernel_rfl, by kernel_rfl⟩⟩
theorem has42 : FnHas Tryz.prog 42 := ⟨⟨_, Tryz.func42, by kernel_rfl, by kernel_rfl⟩⟩
theorem has43 : FnHas Tryz.prog 43 := ⟨⟨_, Tryz.func43, by kernel_rfl, by kernel_rfl⟩⟩
theorem has44 : FnHas Tryz.prog 44 := ⟨⟨_, Tryz.func44, by kernel_rfl, by kernel_rfl⟩⟩
theorem has48 : FnHas Tryz.prog 48 := ⟨⟨_, Tryz.func48, by kernel_rfl, by kernel_rfl⟩⟩
theorem has50 : FnHas Tryz.prog 50 := ⟨⟨_, Tryz.func50, by kernel_rfl, by kernel_rfl⟩⟩
theorem has51 : FnHas Tryz.prog 51 := ⟨⟨_, Tryz.func51, by kernel_rfl, by kernel_rfl⟩⟩
theorem has52 : FnHas Tryz.prog 52 := ⟨⟨_, Tryz.func52, by kernel_rfl, by kernel_rfl⟩⟩
theorem has53 : FnHas Tryz.prog 53 := ⟨⟨_, Tryz.func53, by kernel_rfl, by kernel_rfl⟩⟩
theorem has54 : FnHas Tryz.prog 54 := ⟨⟨_, Tryz.func54, by kernel_rfl, by kernel_rfl⟩⟩
theorem has55 : FnHas Tryz.prog 55 := ⟨⟨_, Tryz.func55, by kernel_rfl, by kernel_rfl⟩⟩
theorem has56 : FnHas Tryz.prog 56 := ⟨⟨_, Tryz.func56, by kernel_rfl, by kernel_rfl⟩⟩
theorem has57 : FnHas Tryz.prog 57 := ⟨⟨_, Tryz.func57, by kernel_rfl, by kernel_rfl⟩⟩
theorem has58 : FnHas Tryz.prog 58 := ⟨⟨_, Tryz.func58, by kernel_rfl, by kernel_rfl⟩⟩
theorem has59 : FnHas Tryz.prog 59 := ⟨⟨_, Tryz.func59, by kernel_rfl, by kernel_rfl⟩⟩
theorem has60 : FnHas Tryz.prog 60 := ⟨⟨_, Tryz.func60, by kernel_rfl, by kernel_rfl⟩⟩
theorem has61 : FnHas Tryz.prog 61 := ⟨⟨_, Tryz.func61, by kernel_rfl, by kernel_rfl⟩⟩
theorem has62 : FnHas Tryz.prog 62 := ⟨⟨_, Tryz.func62, by kernel_rfl, by kernel_rfl⟩⟩
theorem has63 : FnHas Tryz.prog 63 := ⟨⟨_, Tryz.func63, by kernel_rfl, by kernel_rfl⟩⟩
theorem has66 : FnHas Tryz.prog 66 := ⟨⟨_, Tryz.func66, by kernel_rfl, by kernel_rfl⟩⟩
theorem has67 : FnHas Tryz.prog 67 := ⟨⟨_, Tryz.func67, by kernel_rfl, by kernel_rfl⟩⟩
theorem has68 : FnHas Tryz.prog 68 := ⟨⟨_, Tryz.func68, by kernel_rfl, by kernel_rfl⟩⟩
theorem has70 : FnHas Tryz.prog 70 := ⟨⟨_, Tryz.func70, by kernel_rfl, by kernel_rfl⟩⟩
theorem has72 : FnHas Tryz.prog 72 := ⟨⟨_, Tryz.func72, by kernel_rfl, by kernel_rfl⟩⟩
theorem has73 : FnHas Tryz.prog 73 := ⟨⟨_, Tryz.func73, by kernel_rfl, by kernel_rfl⟩⟩
theorem has74 : FnHas Tryz.prog 74 := ⟨⟨_, Tryz.func74, by kernel_rfl, by kernel_rfl⟩⟩
theorem has75 : FnHas Tryz.prog 75 := ⟨⟨_, Tryz.func75, by kernel_rfl, by kernel_rfl⟩⟩
theorem has86 : FnHas Tryz.prog 86 := ⟨⟨_, Tryz.func86, by kernel_rfl, by kernel_rfl⟩⟩
theorem has87 : FnHas Tryz.prog 87 := ⟨⟨_, Tryz.func87, by kernel_rfl, by kernel_rfl⟩⟩
theorem has88 : FnHas Tryz.prog 88 := ⟨⟨_, Tryz.func88, by kernel_rfl, by kernel_rfl⟩⟩
theorem has89 : FnHas Tryz.prog 89 := ⟨⟨_, Tryz.func89, by kernel_rfl, by kernel_rfl⟩⟩
theorem has90 : FnHas Tryz.prog 90 := ⟨⟨_, Tryz.func90, by kernel_rfl, by kernel_rfl⟩⟩
theorem has101 : FnHas Tryz.prog 101 := ⟨⟨_, Tryz.func101, by kernel_rfl, by kernel_rfl⟩⟩
theorem has102 : FnHas Tryz.prog 102 := ⟨⟨_, Tryz.func102, by kernel_rfl, by kernel_rfl⟩⟩
theorem has108 : FnHas Tryz.prog 108 := ⟨⟨_, Tryz.func108, by kernel_rfl, by kernel_rfl⟩⟩
theorem has109 : FnHas Tryz.prog 109 := ⟨⟨_, Tryz.func109, by kernel_rfl, by kernel_rfl⟩⟩
theorem has116 : FnHas Tryz.prog 116 := ⟨⟨_, Tryz.func116, by kernel_rfl, by kernel_rfl⟩⟩
theorem has117 : FnHas Tryz.prog 117 := ⟨⟨_, Tryz.func117, by kernel_rfl, by kernel_rfl⟩⟩
theorem has118 : FnHas Tryz.prog 118 := ⟨⟨_, Tryz.func118, by kernel_rfl, by kernel_rfl⟩⟩
/-- Mod. -/
def goMod (x n : Int) : Int := if n < 1 then 0 else if x.tmod n < 0 then x.tmod n + n else x.tmod n
theorem tmod_bd (x n : Int) (h : 1 ≤ n) : -n < x.tmod n ∧ x.tmod n < n := by
 have h1 := Int.tmod_lt_of_pos x (show 0 < n by omega)
 have h2 := Int.lt_tmod_of_pos x (show 0 < n by omega)
 omega
theorem goMod_bd (x n : Int) (h : 1 ≤ n) : 0 ≤ goMod x n ∧ goMod x n < n := by
 have := tmod_bd x n h
 unfold goMod
 rw [if_neg (by omega)]
 split <;> omega
def con9 : Con := { ps := [.d false (.int .i64), .d false (.int .i64)], rs := [.d false (.int .i64)], pre := fun _ => True, out := fun x => (goMod x.1 x.2.1, ()), nw := id }
theorem c9 : CtrOk Tryz.prog 9 con9.ctr :=
 con_sound (G := ⟨[], [], [], [], []⟩) tab_ok EnvOk.nil rfl Tryz.func9 rfl con9 2131 (by kernel_rfl) (by decide) (by decide) rfl (by decide) rfl (by
  rintro ⟨(x : Int), (n : Int), _⟩ hpre hwf X hT hG hk hK
  (simp -implicitDefEqProofs (maxSteps := 4000000) only [go_sem, con9, hT, hG, hk, hK, Tryz.results9] at hwf ⊢); (try simp (disch := decide +kernel) only [drawn, true_and, and_true])
  unfold goMod
  by_cases hn : n < 1
  · simp [hn]
  · have hb := tmod_bd x n (by omega)
    have hn0 : n ≠ 0 := by omega
    simp only [hn, if_false, not_false_eq_true, true_implies, false_implies, true_and]
    refine ⟨⟨hn0, by omega, by omega⟩, fun h => ⟨⟨by omega, by omega⟩, ?_⟩, fun h => ?_⟩
    · rw [if_pos h]
    · rw [if_neg h])
abbrev Src := List Int × Int
def Src.raw (s : Src) : Int := if s.2 ≥ s.1.length then 0 else s.1.getD s.2.toNat 0
def Src.step (s : Src) : Src := if s.2 ≥ s.1.length then s else (s.1, s.2 + 1)
theorem Src.step_pos (s : Src) (h : 0 ≤ s.2) : 0 ≤ s.step.2 := by unfold Src.step; split; exact h; exact Int.le_trans h (by simp only; omega)
def con31 : Con := { ps := [.p 57 ySR], rs := [.d false (.int .i64)], pre := fun x => 0 ≤ x.1.2, out := fun x => (Src.raw x.1, ()), nw := fun x => (Src.step x.1, ()) }
theorem c31 : CtrOk Tryz.prog 31 con31.ctr :=
 con_sound (G := ⟨[], [], [], [], []⟩) tab_ok EnvOk.nil rfl Tryz.func31 rfl con31 4101 (by kernel_rfl) (by decide) (by decide) rfl (by decide) rfl (by
  rintro ⟨⟨(l : List Int), (a : Int)⟩, _⟩ hpre hwf X hT hG hk hK
  (simp -implicitDefEqProofs (maxSteps := 4000000) only [go_sem, con31, hT, hG, hk, hK, Tryz.results31] at hwf ⊢); (try simp (disch := decide +kernel) only [drawn, true_and, and_true])
  intro hl
  have hpre : 0 ≤ a := hpre
  have hl' := hl
  simp only [maxLen] at hl'
  unfold Src.step Src.raw
  refine ⟨fun h => ?_, fun h => ⟨⟨by omega, by omega⟩, ⟨by omega, by omega⟩, ⟨by omega, by omega⟩, fun _ _ => ?_⟩⟩
  · simp [show (a : Int) ≥ (l.length : Int) from h]
  · simp [show ¬ (a : Int) ≥ (l.length : Int) from h])
def con10 : Con := { ps := [.p 57 ySR, .d false (.int .i64)], rs := [.d false (.int .i64)], pre := fun x => 0 ≤ x.1.2, out := fun x => (goMod (Src.raw x.1) x.2.1, ()), nw := fun x => (Src.step x.1, x.2) }
theorem c10 : CtrOk Tryz.prog 10 con10.ctr :=
 con_sound (G := ⟨[(31, con31.ctr), (9, con9.ctr)], [], [], [], []⟩) tab_ok (EnvOk.cons c31 has31 (EnvOk.cons c9 has9 EnvOk.nil)) rfl Tryz.func10 rfl con10 19 (by kernel_rfl) (by decide) (by decide) rfl (by decide) rfl (by
  rintro ⟨⟨(l : List Int), (a : Int)⟩, (n : Int), _⟩ hpre hwf X hT hG hk hK
  (simp -implicitDefEqProofs (maxSteps := 4000000) only [go_sem, con10, con31, con9, hT, hG, hk, hK, Tryz.results10] at hwf ⊢); (try simp (disch := decide +kernel) only [drawn, true_and, and_true])
  exact hpre)
def con5 : Con := { ps := [.d false (.sl (.int .i64))], rs := [.p 57 ySR], pre := fun x => True, out := fun x => ((x.1.take 2000, 0), ()), nw := id }
theorem c5 : CtrOk Tryz.prog 5 con5.ctr :=
 con_sound (G := ⟨[], [], [], [], []⟩) tab_ok EnvOk.nil rfl Tryz.func5 rfl con5 37 (by kernel_rfl) (by decide) (by decide) rfl (by decide) rfl (by
  rintro ⟨(l : List Int), _⟩ hpre hwf X hT hG hk hK
  (simp -implicitDefEqProofs (maxSteps := 4000000) only [go_sem, con5, hT, hG, hk, hK, Tryz.results5] at hwf ⊢); (try simp (disch := decide +kernel) only [drawn, true_and, and_true])
  refine fun _ => ⟨fun h => ⟨⟨by omega, by omega, by omega⟩, rfl⟩, fun h => ?_⟩
  rw [List.take_of_length_le (by omega)])
end Go.Proofs.YtdeihcabmpcaoaaGreat

/- The contracts of the functions that the statements about the makeup reach: comparisons, what is valid, what is open. -/
set_option linter.unusedSimpArgs false
set_option linter.unusedVariables false
set_option maxRecDepth 100000
set_option maxHeartbeats 4000000
namespace Go.Proofs.YtdeihcabmpcaoaaGreat
open Go.Ev

abbrev Flt := ByteArray × Int × ByteArray × Int
abbrev Dep := Flt × ByteArray × Int × Int × Int × Int × Int
abbrev All := Flt × Int
def Dep.opens (d : Dep) : Int := d.2.2.1
def Dep.closes (d : Dep) : Int := d.2.2.2.1
def Dep.state (d : Dep) : Int := d.2.2.2.2.2.2

def con87 : Con := { ps := [.d false (.int .i64)], rs := [.d false .bool], pre := fun _ => True, out := fun x => (false, ()), nw := id }
theorem c87 : CtrOk Tryz.prog 87 con87.ctr :=
 con_sound (G := ⟨[], [], [], [], []⟩) tab_ok EnvOk.nil rfl Tryz.func87 rfl con87 5 (by kernel_rfl) (by decide) (by decide) rfl (by decide) rfl (by
  rintro ⟨(p : Int), _⟩ hpre hwf X hT hG hk hK
  (simp -implicitDefEqProofs (maxSteps := 4000000) only [go_sem, con87, hT, hG, hk, hK, Tryz.results87] at hwf ⊢); (try simp (disch := decide +kernel) only [drawn, true_and, and_true]))
def con86 : Con := { ps := [.d false .str], rs := [.d false .bool], pre := fun _ => True, out := fun x => (false, ()), nw := id }
theorem c86 : CtrOk Tryz.prog 86 con86.ctr :=
 con_sound (G := ⟨[], [], [], [], []⟩) tab_ok EnvOk.nil rfl Tryz.func86 rfl con86 5 (by kernel_rfl) (by decide) (by decide) rfl (by decide) rfl (by
  rintro ⟨(p : ByteArray), _⟩ hpre hwf X hT hG hk hK
  (simp -implicitDefEqProofs (maxSteps := 4000000) only [go_sem, con86, hT, hG, hk, hK, Tryz.results86] at hwf ⊢); (try simp (disch := decide +kernel) only [drawn, true_and, and_true]))
def cmpV (a b : Int) : Int := if a < b then -1 else if a > b then 1 else 0
def con68 : Con := { ps := [.d false (.int .i64), .d false (.int .i64)], rs := [.d false (.int .i64)], pre := fun _ => True, out := fun x => (cmpV x.1 x.2.1, ()), nw := id }
theorem c68 : CtrOk Tryz.prog 68 con68.ctr :=
 con_sound (G := ⟨[(87, con87.ctr)], [], [], [], []⟩) tab_ok (EnvOk.cons c87 has87 EnvOk.nil) rfl Tryz.func68 rfl con68 604275 (by kernel_rfl) (by decide) (by decide) rfl (by decide) rfl (by
  rintro ⟨(a : Int), (b : Int), _⟩ hpre hwf X hT hG hk hK
  (simp -implicitDefEqProofs (maxSteps := 4000000) only [go_sem, con68, con87, hT, hG, hk, hK, Tryz.results68] at hwf ⊢); (try simp (disch := decide +kernel) only [drawn, true_and, and_true])
  unfold cmpV
  refine ⟨fun h => h.elim, fun h => h.elim, fun h => by rw [if_pos h], fun h => ⟨fun k => by rw [if_neg h, if_pos k], fun k => by rw [if_neg h, if_neg k]⟩⟩)
def cmpS (a b : ByteArray) : Int := if strLt a b = true then -1 else if (!(strLt a b || decide (a = b))) = true then 1 else 0
def con67 : Con := { ps := [.d false .str, .d false .str], rs := [.d false (.int .i64)], pre := fun _ => True, out := fun x => (cmpS x.1 x.2.1, ()), nw := id }
theorem c67 : CtrOk Tryz.prog 67 con67.ctr :=
 con_sound (G := ⟨[(86, con86.ctr)], [], [], [], []⟩) tab_ok (EnvOk.cons c86 has86 EnvOk.nil) rfl Tryz.func67 rfl con67 604275 (by kernel_rfl) (by decide) (by decide) rfl (by decide) rfl (by
  rintro ⟨(a : ByteArray), (b : ByteArray), _⟩ hpre hwf X hT hG hk hK
  (simp -implicitDefEqProofs (maxSteps := 4000000) only [go_sem, con67, con86, hT, hG, hk, hK, Tryz.results67] at hwf ⊢); (try simp (disch := decide +kernel) only [drawn, true_and, and_true])
  unfold cmpS
  generalize strLt a b = q
  generalize decide (a = b) = r
  cases q <;> cases r <;> simp)
def orV : List Int → Int
 | [] => 0
 | x :: l => if x = 0 then orV l else x
def con66 : Con := { ps := [.d false (.sl (.int .i64))], rs := [.d false (.int .i64)], pre := fun _ => True, out := fun x => (orV x.1, ()), nw := id }
theorem c66 : CtrOk Tryz.prog 66 con66.ctr :=
 con_sound (G := ⟨[], [], [], [], []⟩) tab_ok EnvOk.nil rfl Tryz.func66 rfl con66 17389 (by kernel_rfl) (by decide) (by decide) rfl (by decide) rfl (by
  rintro ⟨(l : List Int), _⟩ hpre hwf X hT hG hk hK
  (simp -implicitDefEqProofs (maxSteps := 4000000) only [go_sem, Bool.not_eq_true', Bool.not_eq_false', Bool.or_eq_true, Bool.or_eq_false_iff, Bool.and_eq_true, Bool.and_eq_false_iff, decide_eq_true_eq, decide_eq_false_iff_not, Classical.not_not, not_or, maxLen, con66, hT, hG, hk, hK, Tryz.results66] at hwf ⊢); (try simp (disch := decide +kernel) only [drawn, true_and, and_true])
  intro hl
  refine evk_loop ⟨{ i : Nat // i ≤ l.length ∧ orV l = orV (l.drop i) }, 1000, fun i => [(3, .one (.int .i64 0)), (6, .one (.sl (.int .i64) l false)), (7, .one (.int .i64 l.length)), (8, .one (.int .i64 i.1))], fun _ => [], fun i => l.length - i.1⟩ ⟨0, by simp, by simp⟩ ?_ ?_
  · simp only [go_sem]
    rfl
  · rintro ⟨i, (hi : i ≤ l.length), (he : orV l = orV (l.drop i))⟩
    (simp -implicitDefEqProofs (maxSteps := 4000000) only [go_sem, Bool.not_eq_true', Bool.not_eq_false', Bool.or_eq_true, Bool.or_eq_false_iff, Bool.and_eq_true, Bool.and_eq_false_iff, decide_eq_true_eq, decide_eq_false_iff_not, Classical.not_not, not_or, maxLen, con66, hT, hG, hk, hK, Tryz.results66]); (try simp (disch := decide +kernel) only [drawn, true_and, and_true])
    refine ⟨fun hlt => ?_, fun hge => ?_⟩
    · have hi' : i < l.length := by omega
      have ek : l.getD (i : Int).toNat 0 = l[i] := by simp [hi']
      rw [ek]
      have hst : orV l = if l[i] = 0 then orV (l.drop (i + 1)) else l[i] := by
       rw [he, List.drop_eq_getElem_cons hi', orV]
      (repeat' (with_reducible (first | refine And.intro ?_ ?_ | intro _))) <;> (try (first | with_reducible (first | done | assumption | omega | contradiction) | decide))
      all_goals rename_i h
      · first
         | rw [hst, if_neg h]
         | (refine fin_lp ⟨i + 1, by omega, ?_⟩ ?_ ?_
            · rw [hst, if_pos h]
            · simp only [go_sem]
              rfl
            · show l.length - (i + 1) < l.length - i
              omega)
    · rw [he, List.drop_of_length_le (by omega)]
      rfl)
def fltC (a b : Flt) : Int := orV [cmpS a.1 b.1, cmpV a.2.1 b.2.1, cmpS a.2.2.1 b.2.2.1, cmpV a.2.2.2 b.2.2.2]
def con41 : Con := { ps := [.d true yFL, .d true yFL], rs := [.d false (.int .i64)], pre := fun _ => True, out := fun x => (fltC x.1 x.2.1, ()), nw := id }
theorem c41 : CtrOk Tryz.prog 41 con41.ctr :=
 con_sound (G := ⟨[(66, con66.ctr), (67, con67.ctr), (68, con68.ctr)], [], [], [], []⟩) tab_ok (EnvOk.cons c66 has66 (EnvOk.cons c67 has67 (EnvOk.cons c68 has68 EnvOk.nil))) rfl Tryz.func41 rfl con41 31 (by kernel_rfl) (by decide) (by decide) rfl (by decide) rfl (by
  rintro ⟨⟨a1, (a2 : Int), a3, (a4 : Int)⟩, ⟨b1, (b2 : Int), b3, (b4 : Int)⟩, _⟩ hpre hwf X hT hG hk hK
  (simp -implicitDefEqProofs (maxSteps := 4000000) only [go_sem, Bool.not_eq_true', Bool.not_eq_false', Bool.or_eq_true, Bool.or_eq_false_iff, Bool.and_eq_true, Bool.and_eq_false_iff, decide_eq_true_eq, decide_eq_false_iff_not, Classical.not_not, not_or, maxLen, con41, con66, con67, con68, hT, hG, hk, hK, Tryz.results41] at hwf ⊢); (try simp (disch := decide +kernel) only [drawn, true_and, and_true])
  (repeat' (with_reducible (first | refine And.intro ?_ ?_ | intro _))) <;> (try (first | with_reducible (first | done | assumption | omega | contradiction) | decide))
  rfl)
def con57 : Con := { ps := [.d true (.pair yFL (.int .i64)), .d true (.pair yFL (.int .i64))], rs := [.d false (.int .i64)], pre := fun _ => True, out := fun x => (fltC x.1.1 x.2.1.1, ()), nw := id }
theorem c57 : CtrOk Tryz.prog 57 con57.ctr :=
 con_sound (G := ⟨[(41, con41.ctr)], [], [], [], []⟩) tab_ok (EnvOk.cons c41 has41 EnvOk.nil) rfl Tryz.func57 rfl con57 31 (by kernel_rfl) (by decide) (by decide) rfl (by decide) rfl (by
  rintro ⟨⟨a, (x : Int)⟩, ⟨b, (y : Int)⟩, _⟩ hpre hwf X hT hG hk hK
  (simp -implicitDefEqProofs (maxSteps := 4000000) only [go_sem, Bool.not_eq_true', Bool.not_eq_false', Bool.or_eq_true, Bool.or_eq_false_iff, Bool.and_eq_true, Bool.and_eq_false_iff, decide_eq_true_eq, decide_eq_false_iff_not, Classical.not_not, not_or, maxLen, con57, con41, hT, hG, hk, hK, Tryz.results57] at hwf ⊢); (try simp (disch := decide +kernel) only [drawn, true_and, and_true]))
def overV (a b : Dep) : Bool := decide ((if b.opens > a.opens then b.opens else a.opens) < if b.closes < a.closes then b.closes else a.closes)
def isOpenV (d : Dep) (t : Int) : Bool := decide (d.state = 0) && decide (d.opens ≤ t) && decide (t < d.closes)
def con53 : Con := { ps := [.d true yDP, .d false (.int .i64)], rs := [.d false .bool], pre := fun _ => True, out := fun x => (isOpenV x.1 x.2.1, ()), nw := id }
theorem c53 : CtrOk Tryz.prog 53 con53.ctr :=
 con_sound (G := ⟨[], [], [], [], []⟩) tab_ok EnvOk.nil rfl Tryz.func53 rfl con53 23 (by kernel_rfl) (by decide) (by decide) rfl (by decide) rfl (by
  rintro ⟨(a : Dep), (t : Int), _⟩ hpre hwf X hT hG hk hK
  obtain ⟨a0, a1, (a2 : Int), (a3 : Int), (a4 : Int), (a5 : Int), (a6 : Int)⟩ := a
  (simp -implicitDefEqProofs (maxSteps := 4000000) only [go_sem, Bool.not_eq_true', Bool.not_eq_false', Bool.or_eq_true, Bool.or_eq_false_iff, Bool.and_eq_true, Bool.and_eq_false_iff, decide_eq_true_eq, decide_eq_false_iff_not, Classical.not_not, not_or, maxLen, con53, hT, hG, hk, hK, Tryz.results53] at hwf ⊢); (try simp (disch := decide +kernel) only [drawn, true_and, and_true])
  (repeat' (with_reducible (first | refine And.intro ?_ ?_ | intro _))) <;> (try (first | with_reducible (first | done | assumption | omega | contradiction) | decide))
  rfl)
def con17 : Con := { ps := [.d true yDP, .d false (.int .i64)], rs := [.d false .bool], pre := fun _ => True, out := fun x => (isOpenV x.1 x.2.1, ()), nw := id }
theorem c17 : CtrOk Tryz.prog 17 con17.ctr :=
 con_sound (G := ⟨[], [], [], [], []⟩) tab_ok EnvOk.nil rfl Tryz.func17 rfl con17 23 (by kernel_rfl) (by decide) (by decide) rfl (by decide) rfl (by
  rintro ⟨(a : Dep), (t : Int), _⟩ hpre hwf X hT hG hk hK
  obtain ⟨a0, a1, (a2 : Int), (a3 : Int), (a4 : Int), (a5 : Int), (a6 : Int)⟩ := a
  (simp -implicitDefEqProofs (maxSteps := 4000000) only [go_sem, Bool.not_eq_true', Bool.not_eq_false', Bool.or_eq_true, Bool.or_eq_false_iff, Bool.and_eq_true, Bool.and_eq_false_iff, decide_eq_true_eq, decide_eq_false_iff_not, Classical.not_not, not_or, maxLen, con17, hT, hG, hk, hK, Tryz.results17] at hwf ⊢); (try simp (disch := decide +kernel) only [drawn, true_and, and_true])
  (repeat' (with_reducible (first | refine And.intro ?_ ?_ | intro _))) <;> (try (first | with_reducible (first | done | assumption | omega | contradiction) | decide))
  rfl)
def con55 : Con := { ps := [.d true yDP], rs := [.d false .bool], pre := fun _ => True, out := fun x => (!decide (Dep.state x.1 = 0), ()), nw := id }
theorem c55 : CtrOk Tryz.prog 55 con55.ctr :=
 con_sound (G := ⟨[], [], [], [], []⟩) tab_ok EnvOk.nil rfl Tryz.func55 rfl con55 7 (by kernel_rfl) (by decide) (by decide) rfl (by decide) rfl (by
  rintro ⟨(a : Dep), _⟩ hpre hwf X hT hG hk hK
  obtain ⟨a0, a1, (a2 : Int), (a3 : Int), (a4 : Int), (a5 : Int), (a6 : Int)⟩ := a
  (simp -implicitDefEqProofs (maxSteps := 4000000) only [go_sem, Bool.not_eq_true', Bool.not_eq_false', Bool.or_eq_true, Bool.or_eq_false_iff, Bool.and_eq_true, Bool.and_eq_false_iff, decide_eq_true_eq, decide_eq_false_iff_not, Classical.not_not, not_or, maxLen, con55, hT, hG, hk, hK, Tryz.results55] at hwf ⊢); (try simp (disch := decide +kernel) only [drawn, true_and, and_true])
  (repeat' (with_reducible (first | refine And.intro ?_ ?_ | intro _))) <;> (try (first | with_reducible (first | done | assumption | omega | contradiction) | decide))
  exact decide_not)
def inV (n a b : Int) : Bool := decide (a ≤ n) && decide (n ≤ b)
def con90 : Con := { ps := [.d false (.int .i64), .d false (.int .i64), .d false (.int .i64)], rs := [.d false .bool], pre := fun _ => True, out := fun x => (inV x.1 x.2.1 x.2.2.1, ()), nw := id }
theorem c90 : CtrOk Tryz.prog 90 con90.ctr :=
 con_sound (G := ⟨[], [], [], [], []⟩) tab_ok EnvOk.nil rfl Tryz.func90 rfl con90 71 (by kernel_rfl) (by decide) (by decide) rfl (by decide) rfl (by
  rintro ⟨(n : Int), (a : Int), (b : Int), _⟩ hpre hwf X hT hG hk hK
  (simp -implicitDefEqProofs (maxSteps := 4000000) only [go_sem, Bool.not_eq_true', Bool.not_eq_false', Bool.or_eq_true, Bool.or_eq_false_iff, Bool.and_eq_true, Bool.and_eq_false_iff, decide_eq_true_eq, decide_eq_false_iff_not, Classical.not_not, not_or, maxLen, con90, hT, hG, hk, hK, Tryz.results90] at hwf ⊢); (try simp (disch := decide +kernel) only [drawn, true_and, and_true])
  (repeat' (with_reducible (first | refine And.intro ?_ ?_ | intro _))) <;> (try (first | with_reducible (first | done | assumption | omega | contradiction) | decide))
  rfl)
def letterV (n : Int) : Bool := decide (65 ≤ n) && decide (n ≤ 90)
def con116 : Con := { ps := [.d false (.int .u8)], rs := [.d false .bool], pre := fun _ => True, out := fun x => (letterV x.1, ()), nw := id }
theorem c116 : CtrOk Tryz.prog 116 con116.ctr :=
 con_sound (G := ⟨[], [], [], [], []⟩) tab_ok EnvOk.nil rfl Tryz.func116 rfl con116 5 (by kernel_rfl) (by decide) (by decide) rfl (by decide) rfl (by
  rintro ⟨(n : Int), _⟩ hpre hwf X hT hG hk hK
  (simp -implicitDefEqProofs (maxSteps := 4000000) only [go_sem, Bool.not_eq_true', Bool.not_eq_false', Bool.or_eq_true, Bool.or_eq_false_iff, Bool.and_eq_true, Bool.and_eq_false_iff, decide_eq_true_eq, decide_eq_false_iff_not, Classical.not_not, not_or, maxLen, con116, hT, hG, hk, hK, Tryz.results116] at hwf ⊢); (try simp (disch := decide +kernel) only [drawn, true_and, and_true])
  (repeat' (with_reducible (first | refine And.intro ?_ ?_ | intro _))) <;> (try (first | with_reducible (first | done | assumption | omega | contradiction) | decide))
  rfl)
def digitV (n : Int) : Bool := decide (48 ≤ n) && decide (n ≤ 57)
def con117 : Con := { ps := [.d false (.int .u8)], rs := [.d false .bool], pre := fun _ => True, out := fun x => (digitV x.1, ()), nw := id }
theorem c117 : CtrOk Tryz.prog 117 con117.ctr :=
 con_sound (G := ⟨[], [], [], [], []⟩) tab_ok EnvOk.nil rfl Tryz.func117 rfl con117 5 (by kernel_rfl) (by decide) (by decide) rfl (by decide) rfl (by
  rintro ⟨(n : Int), _⟩ hpre hwf X hT hG hk hK
  (simp -implicitDefEqProofs (maxSteps := 4000000) only [go_sem, Bool.not_eq_true', Bool.not_eq_false', Bool.or_eq_true, Bool.or_eq_false_iff, Bool.and_eq_true, Bool.and_eq_false_iff, decide_eq_true_eq, decide_eq_false_iff_not, Classical.not_not, not_or, maxLen, con117, hT, hG, hk, hK, Tryz.results117] at hwf ⊢); (try simp (disch := decide +kernel) only [drawn, true_and, and_true])
  (repeat' (with_reducible (first | refine And.intro ?_ ?_ | intro _))) <;> (try (first | with_reducible (first | done | assumption | omega | contradiction) | decide))
  rfl)
end Go.Proofs.YtdeihcabmpcaoaaGreat

/- The contracts of the functions that the statements about the makeup reach: what is valid. -/
set_option linter.unusedSimpArgs false
set_option linter.unusedVariables false
set_option maxRecDepth 100000
set_option maxHeartbeats 4000000
namespace Go.Proofs.YtdeihcabmpcaoaaGreat
open Go.Ev

/-- All bytes from a place on. -/
def allFrom (p : Int → Bool) (s : ByteArray) : Nat → Nat → Bool
 | _, 0 => true
 | i, n + 1 => p (byteAt s i) && allFrom p s (i + 1) n
def con118 : Con := { ps := [.d false .str, .cl 116 []], rs := [.d false .bool], pre := fun _ => True, out := fun x => (allFrom letterV x.1 0 (ByteArray.size x.1), ()), nw := id }
theorem c118 : CtrOk Tryz.prog 118 con118.ctr :=
 con_sound (G := ⟨[(116, con116.ctr)], [], [], [], []⟩) tab_ok (EnvOk.cons c116 has116 EnvOk.nil) rfl Tryz.func118 rfl con118 66483 (by kernel_rfl) (by decide) (by decide) rfl (by decide) rfl (by
  rintro ⟨(s : ByteArray), _⟩ hpre hwf X hT hG hk hK
  (simp -implicitDefEqProofs (maxSteps := 4000000) only [go_sem, Bool.not_eq_true', Bool.not_eq_false', Bool.or_eq_true, Bool.or_eq_false_iff, Bool.and_eq_true, Bool.and_eq_false_iff, decide_eq_true_eq, decide_eq_false_iff_not, Classical.not_not, not_or, maxLen, con118, con116, hT, hG, hk, hK, Tryz.results118] at hwf ⊢); (try simp (disch := decide +kernel) only [drawn, true_and, and_true])
  intro hl
  refine evk_loop ⟨{ i : Nat // i ≤ s.size ∧ allFrom letterV s 0 s.size = allFrom letterV s i (s.size - i) }, 1000, fun i => [(0, .one (.str s)), (1, .one (.fn 116 [])), (7, .one (.int .i64 s.size)), (8, .one (.int .i64 i.1))], fun _ => [], fun i => s.size - i.1⟩ ⟨0, by simp, by simp⟩ ?_ ?_
  · simp only [go_sem]
    rfl
  · rintro ⟨i, (hi : i ≤ s.size), (he : allFrom letterV s 0 s.size = allFrom letterV s i (s.size - i))⟩
    (simp -implicitDefEqProofs (maxSteps := 4000000) only [go_sem, Bool.not_eq_true', Bool.not_eq_false', Bool.or_eq_true, Bool.or_eq_false_iff, Bool.and_eq_true, Bool.and_eq_false_iff, decide_eq_true_eq, decide_eq_false_iff_not, Classical.not_not, not_or, maxLen, con118, con116, hT, hG, hk, hK, Tryz.results118]); (try simp (disch := decide +kernel) only [drawn, true_and, and_true])
    refine ⟨fun hlt => ?_, fun hge => ?_⟩
    · have hi' : i < s.size := by omega
      have hst : allFrom letterV s 0 s.size = (letterV (byteAt s i) && allFrom letterV s (i + 1) (s.size - (i + 1))) := by
       rw [he, show s.size - i = (s.size - (i + 1)) + 1 by omega, allFrom]
      (repeat' (with_reducible (first | refine And.intro ?_ ?_ | intro _))) <;> (try (first | with_reducible (first | done | assumption | omega | contradiction) | decide))
      · rename_i h
        rw [hst, h]; rfl
      · rename_i h
        refine fin_lp ⟨i + 1, by omega, ?_⟩ ?_ ?_
        · show allFrom letterV s 0 s.size = allFrom letterV s (i + 1) (s.size - (i + 1))
          rw [hst, h]; rfl
        · simp only [go_sem]
          rfl
        · show s.size - (i + 1) < s.size - i
          omega
    · rw [he, show s.size - i = 0 by omega]
      rfl)
def lettersV (s : ByteArray) (a b : Int) : Bool := decide ((s.size : Int) ≥ a) && decide ((s.size : Int) ≤ b) && allFrom letterV s 0 s.size
def con109 : Con := { ps := [.d false .str, .d false (.int .i64), .d false (.int .i64)], rs := [.d false .bool], pre := fun _ => True, out := fun x => (lettersV x.1 x.2.1 x.2.2.1, ()), nw := id }
theorem c109 : CtrOk Tryz.prog 109 con109.ctr :=
 con_sound (G := ⟨[(118, con118.ctr)], [], [], [], []⟩) tab_ok (EnvOk.cons c118 has118 EnvOk.nil) rfl Tryz.func109 rfl con109 71 (by kernel_rfl) (by decide) (by decide) rfl (by decide) rfl (by
  rintro ⟨(s : ByteArray), (a : Int), (b : Int), _⟩ hpre hwf X hT hG hk hK
  (simp -implicitDefEqProofs (maxSteps := 4000000) only [go_sem, Bool.not_eq_true', Bool.not_eq_false', Bool.or_eq_true, Bool.or_eq_false_iff, Bool.and_eq_true, Bool.and_eq_false_iff, decide_eq_true_eq, decide_eq_false_iff_not, Classical.not_not, not_or, maxLen, con109, con118, hT, hG, hk, hK, Tryz.results109] at hwf ⊢); (try simp (disch := decide +kernel) only [drawn, true_and, and_true])
  (repeat' (with_reducible (first | refine And.intro ?_ ?_ | intro _))) <;> (try (first | with_reducible (first | done | assumption | omega | contradiction) | decide))
  rfl)
def con89 : Con := { ps := [.d false .str], rs := [.d false .bool], pre := fun _ => True, out := fun x => (lettersV x.1 3 3, ()), nw := id }
theorem c89 : CtrOk Tryz.prog 89 con89.ctr :=
 con_sound (G := ⟨[(109, con109.ctr)], [], [], [], []⟩) tab_ok (EnvOk.cons c109 has109 EnvOk.nil) rfl Tryz.func89 rfl con89 5 (by kernel_rfl) (by decide) (by decide) rfl (by decide) rfl (by
  rintro ⟨(s : ByteArray), _⟩ hpre hwf X hT hG hk hK
  (simp -implicitDefEqProofs (maxSteps := 4000000) only [go_sem, Bool.not_eq_true', Bool.not_eq_false', Bool.or_eq_true, Bool.or_eq_false_iff, Bool.and_eq_true, Bool.and_eq_false_iff, decide_eq_true_eq, decide_eq_false_iff_not, Classical.not_not, not_or, maxLen, con89, con109, hT, hG, hk, hK, Tryz.results89] at hwf ⊢); (try simp (disch := decide +kernel) only [drawn, true_and, and_true]))
def carF (s : ByteArray) : Nat → Nat → Nat → Bool
 | _, 0, k => decide (0 < k)
 | i, n + 1, k => if letterV (byteAt s i) then carF s (i + 1) n (k + 1) else if digitV (byteAt s i) then carF s (i + 1) n k else false
def carrierV (s : ByteArray) : Bool := if (s.size : Int) ≠ 2 then false else carF s 0 s.size 0
def con108 : Con := { ps := [.d false .str], rs := [.d false .bool], pre := fun _ => True, out := fun x => (carrierV x.1, ()), nw := id }
theorem c108 : CtrOk Tryz.prog 108 con108.ctr :=
 con_sound (G := ⟨[(116, con116.ctr), (117, con117.ctr)], [], [], [], []⟩) tab_ok (EnvOk.cons c116 has116 (EnvOk.cons c117 has117 EnvOk.nil)) rfl Tryz.func108 rfl con108 1060509 (by kernel_rfl) (by decide) (by decide) rfl (by decide) rfl (by
  rintro ⟨(s : ByteArray), _⟩ hpre hwf X hT hG hk hK
  (simp -implicitDefEqProofs (maxSteps := 4000000) only [go_sem, Bool.not_eq_true', Bool.not_eq_false', Bool.or_eq_true, Bool.or_eq_false_iff, Bool.and_eq_true, Bool.and_eq_false_iff, decide_eq_true_eq, decide_eq_false_iff_not, Classical.not_not, not_or, maxLen, con108, con116, con117, hT, hG, hk, hK, Tryz.results108] at hwf ⊢); (try simp (disch := decide +kernel) only [drawn, true_and, and_true])
  (repeat' (with_reducible (first | refine And.intro ?_ ?_ | intro _))) <;> (try (first | with_reducible (first | done | assumption | omega | contradiction) | decide))
  · rename_i h
    unfold carrierV; rw [if_pos h]
  · rename_i h2 hl
    have e0 : carrierV s = carF s 0 s.size 0 := by unfold carrierV; rw [if_neg (by omega)]
    refine evk_loop ⟨{ q : Nat × Nat // q.1 ≤ s.size ∧ q.2 ≤ q.1 ∧ carF s 0 s.size 0 = carF s q.1 (s.size - q.1) q.2 }, 1000, fun q => [(0, .one (.str s)), (3, .one (.int .i64 q.1.2)), (9, .one (.int .i64 s.size)), (10, .one (.int .i64 q.1.1))], fun _ => [], fun q => s.size - q.1.1⟩ ⟨(0, 0), by simp, by simp, by simp⟩ ?_ ?_
    · simp only [go_sem]
      rfl
    · rintro ⟨⟨i, k⟩, (hi : i ≤ s.size), (hki : k ≤ i), (he : carF s 0 s.size 0 = carF s i (s.size - i) k)⟩
      (simp -implicitDefEqProofs (maxSteps := 4000000) only [go_sem, Bool.not_eq_true', Bool.not_eq_false', Bool.or_eq_true, Bool.or_eq_false_iff, Bool.and_eq_true, Bool.and_eq_false_iff, decide_eq_true_eq, decide_eq_false_iff_not, Classical.not_not, not_or, maxLen, con108, con116, con117, hT, hG, hk, hK, Tryz.results108]); (try simp (disch := decide +kernel) only [drawn, true_and, and_true])
      refine ⟨fun hlt => ?_, fun hge => ?_⟩
      · have hi' : i < s.size := by omega
        have hst : carF s 0 s.size 0 = if letterV (byteAt s i) then carF s (i + 1) (s.size - (i + 1)) (k + 1) else if digitV (byteAt s i) then carF s (i + 1) (s.size - (i + 1)) k else false := by
         rw [he, show s.size - i = (s.size - (i + 1)) + 1 by omega, carF]
        (repeat' (with_reducible (first | refine And.intro ?_ ?_ | intro _))) <;> (try (first | with_reducible (first | done | assumption | omega | contradiction) | decide))
        · rename_i h
          refine fin_lp ⟨(i + 1, k + 1), by omega, by omega, by dsimp only; rw [hst, if_pos h]⟩ (by simp only [go_sem]; first | rfl | ((repeat' apply And.intro) <;> first | rfl | assumption | omega)) (by dsimp only; omega)
        · rename_i h1 h
          rw [e0, hst, if_neg (by rw [h1]; simp), if_neg (by rw [h]; simp)]
        · rename_i h1 h
          refine fin_lp ⟨(i + 1, k), by omega, by omega, by dsimp only; rw [hst, if_neg (by rw [h1]; simp), if_pos h]⟩ (by simp only [go_sem]; first | rfl | ((repeat' apply And.intro) <;> first | rfl | assumption | omega)) (by dsimp only; omega)
      · rw [e0, he, show s.size - i = 0 by omega]
        rw [carF]
        rw [decide_eq_decide]; omega)
def fltOk (f : Flt) : Bool := carrierV f.1 && decide (f.2.1 ≥ 1) && decide (f.2.1 ≤ 9999) && lettersV f.2.2.1 0 1 && decide (f.2.2.2 ≥ 0) && decide (f.2.2.2 ≤ 99)
def con88 : Con := { ps := [.d true yFL], rs := [.d false .bool], pre := fun _ => True, out := fun x => (fltOk x.1, ()), nw := id }
theorem c88 : CtrOk Tryz.prog 88 con88.ctr :=
 con_sound (G := ⟨[(108, con108.ctr), (109, con109.ctr)], [], [], [], []⟩) tab_ok (EnvOk.cons c108 has108 (EnvOk.cons c109 has109 EnvOk.nil)) rfl Tryz.func88 rfl con88 7 (by kernel_rfl) (by decide) (by decide) rfl (by decide) rfl (by
  rintro ⟨⟨a1, (a2 : Int), a3, (a4 : Int)⟩, _⟩ hpre hwf X hT hG hk hK
  (simp -implicitDefEqProofs (maxSteps := 4000000) only [go_sem, Bool.not_eq_true', Bool.not_eq_false', Bool.or_eq_true, Bool.or_eq_false_iff, Bool.and_eq_true, Bool.and_eq_false_iff, decide_eq_true_eq, decide_eq_false_iff_not, Classical.not_not, not_or, maxLen, con88, con108, con109, hT, hG, hk, hK, Tryz.results88] at hwf ⊢); (try simp (disch := decide +kernel) only [drawn, true_and, and_true])
  (repeat' (with_reducible (first | refine And.intro ?_ ?_ | intro _))) <;> (try (first | with_reducible (first | done | assumption | omega | contradiction) | decide))
  rfl)
def validV (d : Dep) : Bool := fltOk d.1 && lettersV d.2.1 3 3 && inV d.2.2.1 0 1048576 && inV d.2.2.2.1 0 1048576 && inV d.2.2.2.2.1 0 1048576 && decide (d.2.2.1 < d.2.2.2.1) && decide (d.2.2.2.1 ≤ d.2.2.2.2.1) && inV d.2.2.2.2.2.1 0 99 && inV d.2.2.2.2.2.2 0 2
def con70 : Con := { ps := [.d true yDP], rs := [.d false .bool], pre := fun _ => True, out := fun x => (validV x.1, ()), nw := id }
theorem c70 : CtrOk Tryz.prog 70 con70.ctr :=
 con_sound (G := ⟨[(88, con88.ctr), (89, con89.ctr), (90, con90.ctr)], [], [], [], []⟩) tab_ok (EnvOk.cons c88 has88 (EnvOk.cons c89 has89 (EnvOk.cons c90 has90 EnvOk.nil))) rfl Tryz.func70 rfl con70 4398046515207 (by kernel_rfl) (by decide) (by decide) rfl (by decide) rfl (by
  rintro ⟨(a : Dep), _⟩ hpre hwf X hT hG hk hK
  obtain ⟨a0, a1, (a2 : Int), (a3 : Int), (a4 : Int), (a5 : Int), (a6 : Int)⟩ := a
  (simp -implicitDefEqProofs (maxSteps := 4000000) only [go_sem, Bool.not_eq_true', Bool.not_eq_false', Bool.or_eq_true, Bool.or_eq_false_iff, Bool.and_eq_true, Bool.and_eq_false_iff, decide_eq_true_eq, decide_eq_false_iff_not, Classical.not_not, not_or, maxLen, con70, con88, con89, con90, hT, hG, hk, hK, Tryz.results70] at hwf ⊢); (try simp (disch := decide +kernel) only [drawn, true_and, and_true])
  have f1 : ∀ x y : Int, (x ≥ y) ↔ decide (x < y) = false := fun x y => by rw [decide_eq_false_iff_not]; omega
  have f2 : ∀ x y : Int, (x > y) ↔ decide (x ≤ y) = false := fun x y => by rw [decide_eq_false_iff_not]; omega
  unfold validV
  dsimp only
  rw [f1, f2]
  generalize decide (a2 < a3) = b1
  generalize decide (a3 ≤ a4) = b2
  generalize fltOk a0 = b3
  generalize lettersV a1 3 3 = b4
  generalize inV a2 0 1048576 = b5
  generalize inV a3 0 1048576 = b6
  generalize inV a4 0 1048576 = b7
  cases b3 <;> cases b4 <;> cases b5 <;> cases b6 <;> cases b7 <;> cases b1 <;> cases b2 <;> simp)
/-- The schedule, one departure after another. -/
def valF : Option Flt → List Dep → Int
 | _, [] => 0
 | p, d :: l => if validV d = false then 1 else match p with
   | none => valF (some d.1) l
   | some f => if fltC f d.1 = 0 then 5 else if fltC f d.1 = 1 then 9 else valF (some d.1) l
def validateV (l : List Dep) : Int := if (l.length : Int) > 24 then 2 else valF none l
def prevF (l : List Dep) (i : Nat) : Option Flt := if h : 0 < i ∧ i - 1 < l.length then some (l[i - 1]'h.2).1 else none
def con51 : Con := { ps := [.d false (.sl yDP)], rs := [.d false (.int .i64)], pre := fun _ => True, out := fun x => (validateV x.1, ()), nw := id }
theorem c51 : CtrOk Tryz.prog 51 con51.ctr :=
 con_sound (G := ⟨[(41, con41.ctr), (70, con70.ctr)], [], [], [], []⟩) tab_ok (EnvOk.cons c41 has41 (EnvOk.cons c70 has70 EnvOk.nil)) rfl Tryz.func51 rfl con51 2953449373 (by kernel_rfl) (by decide) (by decide) rfl (by decide) rfl (by
  rintro ⟨(l : List Dep), _⟩ hpre hwf X hT hG hk hK
  (simp -implicitDefEqProofs (maxSteps := 4000000) only [go_sem, Bool.not_eq_true', Bool.not_eq_false', Bool.or_eq_true, Bool.or_eq_false_iff, Bool.and_eq_true, Bool.and_eq_false_iff, decide_eq_true_eq, decide_eq_false_iff_not, Classical.not_not, not_or, maxLen, con51, con41, con70, hT, hG, hk, hK, Tryz.results51] at hwf ⊢); (try simp (disch := decide +kernel) only [drawn, true_and, and_true])
  (repeat' (with_reducible (first | refine And.intro ?_ ?_ | intro _))) <;> (try (first | with_reducible (first | done | assumption | omega | contradiction) | decide))
  · rename_i h
    unfold validateV; rw [if_pos h]
  · have e0 : validateV l = valF none l := by unfold validateV; rw [if_neg (by omega)]
    refine evk_loop ⟨{ i : Nat // i ≤ l.length ∧ valF none l = valF (prevF l i) (l.drop i) }, 1000, fun i => [(0, .one (.sl yDP l false)), (8, .one (.sl yDP l false)), (9, .one (.int .i64 l.length)), (10, .one (.int .i64 i.1))], fun _ => [], fun i => l.length - i.1⟩ ⟨0, by simp, by simp [prevF]⟩ ?_ ?_
    · simp only [go_sem]
      rfl
    · rintro ⟨i, (hi : i ≤ l.length), (he : valF none l = valF (prevF l i) (l.drop i))⟩
      (simp -implicitDefEqProofs (maxSteps := 4000000) only [go_sem, Bool.not_eq_true', Bool.not_eq_false', Bool.or_eq_true, Bool.or_eq_false_iff, Bool.and_eq_true, Bool.and_eq_false_iff, decide_eq_true_eq, decide_eq_false_iff_not, Classical.not_not, not_or, maxLen, con51, con41, con70, hT, hG, hk, hK, Tryz.results51]); (try simp (disch := decide +kernel) only [drawn, true_and, and_true])
      refine ⟨fun hlt => ?_, fun hge => ?_⟩
      · have hi' : i < l.length := by omega
        have ek : ∀ z, l.getD (i : Int).toNat z = l[i] := fun z => by simp [hi']
        simp only [ek]
        have hp : prevF l (i + 1) = some l[i].1 := by
         unfold prevF
         rw [dif_pos ⟨by omega, by omega⟩]
         rfl
        have hst : valF none l = if validV l[i] = false then 1 else match prevF l i with
         | none => valF (prevF l (i + 1)) (l.drop (i + 1))
         | some f => if fltC f l[i].1 = 0 then 5 else if fltC f l[i].1 = 1 then 9 else valF (prevF l (i + 1)) (l.drop (i + 1)) := by
         rw [he, List.drop_eq_getElem_cons hi', hp]
         generalize prevF l i = q
         cases q <;> rfl
        have hp2 : ∀ z, 0 < i → prevF l i = some (l.getD ((i : Int) - 1).toNat z).1 := fun z h => by
         unfold prevF
         rw [dif_pos ⟨h, by omega⟩]
         have e2 : ((i : Int) - 1).toNat = i - 1 := by omega
         rw [e2]
         simp [show i - 1 < l.length by omega]
        (repeat' (with_reducible (first | refine And.intro ?_ ?_ | intro _))) <;> (try (first | with_reducible (first | done | assumption | omega | contradiction) | decide))
        · rename_i h
          rw [e0, hst, if_pos h]
        · have h1 : validV l[i] = true := by assumption
          have hp0 : prevF l i = none := by unfold prevF; rw [dif_neg (by omega)]
          refine fin_lp ⟨i + 1, by omega, by rw [hst, if_neg (by rw [h1]; simp), hp0]⟩ (by simp only [go_sem]; first | rfl | ((repeat' apply And.intro) <;> first | rfl | assumption | omega)) (by dsimp only; omega)
        · rename_i h
          have h1 : validV l[i] = true := by assumption
          rw [e0, hst, if_neg (by rw [h1]; simp), hp2 _ (by omega)]
          dsimp only
          rw [if_pos h]
        · rename_i h3 h
          have h1 : validV l[i] = true := by assumption
          rw [e0, hst, if_neg (by rw [h1]; simp), hp2 _ (by omega)]
          dsimp only
          rw [if_neg h3, if_pos h]
        · rename_i h3 h
          have h1 : validV l[i] = true := by assumption
          refine fin_lp ⟨i + 1, by omega, by rw [hst, if_neg (by rw [h1]; simp), hp2 _ (by omega)]; dsimp only; rw [if_neg h3, if_neg h]⟩ (by simp only [go_sem]; first | rfl | ((repeat' apply And.intro) <;> first | rfl | assumption | omega)) (by dsimp only; omega)
      · rw [e0, he, List.drop_of_length_le (by omega)]
        rfl)
end Go.Proofs.YtdeihcabmpcaoaaGreat

/- The contracts of the functions that the statements about the makeup reach: lists. -/
set_option linter.unusedSimpArgs false
set_option linter.unusedVariables false
set_option maxRecDepth 100000
set_option maxHeartbeats 4000000
namespace Go.Proofs.YtdeihcabmpcaoaaGreat
open Go.Ev

theorem flt_eq {a b : Flt} (h : a.1 = b.1 ∧ a.2.1 = b.2.1 ∧ a.2.2.1 = b.2.2.1 ∧ a.2.2.2 = b.2.2.2) : a = b := by
 obtain ⟨a1, a2, a3, a4⟩ := a
 obtain ⟨b1, b2, b3, b4⟩ := b
 obtain ⟨h1, h2, h3, h4⟩ := h
 dsimp only at h1 h2 h3 h4
 rw [h1, h2, h3, h4]
theorem flt_ne {a b : Flt} (h : ¬ a.1 = b.1 ∨ ¬ a.2.1 = b.2.1 ∨ ¬ a.2.2.1 = b.2.2.1 ∨ ¬ a.2.2.2 = b.2.2.2) : ¬ a = b := by
 rintro rfl
 simp at h
def idxF {α : Type} (p : α → Bool) : List α → Int → Int
 | [], _ => -1
 | x :: l, i => if p x = true then i else idxF p l (i + 1)
def findV (l : List Dep) (f : Flt) : Int := idxF (fun d => decide (d.1 = f)) l 0
def con61 : Con := { ps := [.d false (.sl (.int .i64)), .d false (.int .i64)], rs := [.d false (.int .i64)], pre := fun _ => True, out := fun x => (idxF (fun y : Int => decide (x.2.1 = y)) x.1 0, ()), nw := id }
theorem c61 : CtrOk Tryz.prog 61 con61.ctr :=
 con_sound (G := ⟨[], [], [], [], []⟩) tab_ok EnvOk.nil rfl Tryz.func61 rfl con61 66483 (by kernel_rfl) (by decide) (by decide) rfl (by decide) rfl (by
  rintro ⟨(l : List Int), (f : Int), _⟩ hpre hwf X hT hG hk hK
  (simp -implicitDefEqProofs (maxSteps := 4000000) only [go_sem, Bool.not_eq_true', Bool.not_eq_false', Bool.or_eq_true, Bool.or_eq_false_iff, Bool.and_eq_true, Bool.and_eq_false_iff, decide_eq_true_eq, decide_eq_false_iff_not, Classical.not_not, not_or, maxLen, con61, hT, hG, hk, hK, Tryz.results61] at hwf ⊢); (try simp (disch := decide +kernel) only [drawn, true_and, and_true])
  intro hl
  refine evk_loop ⟨{ i : Nat // i ≤ l.length ∧ idxF (fun y : Int => decide (f = y)) l 0 = idxF (fun y : Int => decide (f = y)) (l.drop i) i }, 1000, fun i => [(0, .one (.sl (.int .i64) l false)), (1, .one (.int .i64 f)), (7, .one (.int .i64 l.length)), (8, .one (.int .i64 i.1))], fun _ => [], fun i => l.length - i.1⟩ ⟨0, by simp, by simp⟩ ?_ ?_
  · simp only [go_sem]
    rfl
  · rintro ⟨i, (hi : i ≤ l.length), (he : idxF (fun y : Int => decide (f = y)) l 0 = idxF (fun y : Int => decide (f = y)) (l.drop i) i)⟩
    (simp -implicitDefEqProofs (maxSteps := 4000000) only [go_sem, Bool.not_eq_true', Bool.not_eq_false', Bool.or_eq_true, Bool.or_eq_false_iff, Bool.and_eq_true, Bool.and_eq_false_iff, decide_eq_true_eq, decide_eq_false_iff_not, Classical.not_not, not_or, maxLen, con61, hT, hG, hk, hK, Tryz.results61]); (try simp (disch := decide +kernel) only [drawn, true_and, and_true])
    refine ⟨fun hlt => ?_, fun hge => ?_⟩
    · have hi' : i < l.length := by omega
      have ek : ∀ z, l.getD (i : Int).toNat z = l[i] := fun z => by simp [hi']
      simp only [ek]
      have hst : idxF (fun y : Int => decide (f = y)) l 0 = if decide (f = l[i]) = true then (i : Int) else idxF (fun y : Int => decide (f = y)) (l.drop (i + 1)) ((i + 1 : Nat) : Int) := by
       rw [he, List.drop_eq_getElem_cons hi', idxF]; rfl
      (repeat' (with_reducible (first | refine And.intro ?_ ?_ | intro _))) <;> (try (first | with_reducible (first | done | assumption | omega | contradiction) | decide))
      · rename_i h
        rw [hst, if_pos (by simp [h])]
      · rename_i h
        refine fin_lp ⟨i + 1, by omega, by rw [hst, if_neg (by simp [h])]⟩ (by simp only [go_sem]; first | rfl | ((repeat' apply And.intro) <;> first | rfl | assumption | omega)) (by dsimp only; omega)
    · rw [he, List.drop_of_length_le (by omega)]
      rfl)
def con72 : Con := { ps := [.d false (.sl yDP), .cl 55 []], rs := [.d false (.int .i64)], pre := fun _ => True, out := fun x => (idxF (fun d : Dep => !decide (d.state = 0)) x.1 0, ()), nw := id }
theorem c72 : CtrOk Tryz.prog 72 con72.ctr :=
 con_sound (G := ⟨[(55, con55.ctr)], [], [], [], []⟩) tab_ok (EnvOk.cons c55 has55 EnvOk.nil) rfl Tryz.func72 rfl con72 66483 (by kernel_rfl) (by decide) (by decide) rfl (by decide) rfl (by
  rintro ⟨(l : List Dep), _⟩ hpre hwf X hT hG hk hK
  (simp -implicitDefEqProofs (maxSteps := 4000000) only [go_sem, Bool.not_eq_true', Bool.not_eq_false', Bool.or_eq_true, Bool.or_eq_false_iff, Bool.and_eq_true, Bool.and_eq_false_iff, decide_eq_true_eq, decide_eq_false_iff_not, Classical.not_not, not_or, maxLen, con72, con55, hT, hG, hk, hK, Tryz.results72] at hwf ⊢); (try simp (disch := decide +kernel) only [drawn, true_and, and_true])
  intro hl
  refine evk_loop ⟨{ i : Nat // i ≤ l.length ∧ idxF (fun d : Dep => !decide (d.state = 0)) l 0 = idxF (fun d : Dep => !decide (d.state = 0)) (l.drop i) i }, 1000, fun i => [(0, .one (.sl yDP l false)), (1, .one (.fn 55 [])), (7, .one (.int .i64 l.length)), (8, .one (.int .i64 i.1))], fun _ => [], fun i => l.length - i.1⟩ ⟨0, by simp, by simp⟩ ?_ ?_
  · simp only [go_sem]
    rfl
  · rintro ⟨i, (hi : i ≤ l.length), (he : idxF (fun d : Dep => !decide (d.state = 0)) l 0 = idxF (fun d : Dep => !decide (d.state = 0)) (l.drop i) i)⟩
    (simp -implicitDefEqProofs (maxSteps := 4000000) only [go_sem, Bool.not_eq_true', Bool.not_eq_false', Bool.or_eq_true, Bool.or_eq_false_iff, Bool.and_eq_true, Bool.and_eq_false_iff, decide_eq_true_eq, decide_eq_false_iff_not, Classical.not_not, not_or, maxLen, con72, con55, hT, hG, hk, hK, Tryz.results72]); (try simp (disch := decide +kernel) only [drawn, true_and, and_true])
    refine ⟨fun hlt => ?_, fun hge => ?_⟩
    · have hi' : i < l.length := by omega
      have ek : ∀ z, l.getD (i : Int).toNat z = l[i] := fun z => by simp [hi']
      simp only [ek]
      have hst : idxF (fun d : Dep => !decide (d.state = 0)) l 0 = if (!decide (l[i].state = 0)) = true then (i : Int) else idxF (fun d : Dep => !decide (d.state = 0)) (l.drop (i + 1)) ((i + 1 : Nat) : Int) := by
       rw [he, List.drop_eq_getElem_cons hi', idxF]; rfl
      (repeat' (with_reducible (first | refine And.intro ?_ ?_ | intro _))) <;> (try (first | with_reducible (first | done | assumption | omega | contradiction) | decide))
      · rename_i h
        rw [hst, if_pos (by simp [h])]
      · rename_i h
        refine fin_lp ⟨i + 1, by omega, by rw [hst, if_neg (by simp [h])]⟩ (by simp only [go_sem]; first | rfl | ((repeat' apply And.intro) <;> first | rfl | assumption | omega)) (by dsimp only; omega)
    · rw [he, List.drop_of_length_le (by omega)]
      rfl)
def con48 : Con := { ps := [.d false (.sl (.int .i64)), .d false (.int .i64)], rs := [.d false .bool], pre := fun _ => True, out := fun x => (decide (idxF (fun y : Int => decide (x.2.1 = y)) x.1 0 ≥ 0), ()), nw := id }
theorem c48 : CtrOk Tryz.prog 48 con48.ctr :=
 con_sound (G := ⟨[(61, con61.ctr)], [], [], [], []⟩) tab_ok (EnvOk.cons c61 has61 EnvOk.nil) rfl Tryz.func48 rfl con48 19 (by kernel_rfl) (by decide) (by decide) rfl (by decide) rfl (by
  rintro ⟨(l : List Int), (f : Int), _⟩ hpre hwf X hT hG hk hK
  (simp -implicitDefEqProofs (maxSteps := 4000000) only [go_sem, Bool.not_eq_true', Bool.not_eq_false', Bool.or_eq_true, Bool.or_eq_false_iff, Bool.and_eq_true, Bool.and_eq_false_iff, decide_eq_true_eq, decide_eq_false_iff_not, Classical.not_not, not_or, maxLen, con48, con61, hT, hG, hk, hK, Tryz.results48] at hwf ⊢); (try simp (disch := decide +kernel) only [drawn, true_and, and_true]))
def chV : List All → Flt → Int × Bool
 | [], _ => (0, false)
 | a :: l, f => if a.1 = f then (a.2, true) else chV l f
def con58 : Con := { ps := [.d false (.sl (.pair yFL (.int .i64))), .d true yFL], rs := [.d false (.int .i64), .d false .bool], pre := fun _ => True, out := fun x => ((chV x.1 x.2.1).1, (chV x.1 x.2.1).2, ()), nw := id }
theorem c58 : CtrOk Tryz.prog 58 con58.ctr :=
 con_sound (G := ⟨[], [], [], [], []⟩) tab_ok EnvOk.nil rfl Tryz.func58 rfl con58 135099 (by kernel_rfl) (by decide) (by decide) rfl (by decide) rfl (by
  rintro ⟨(l : List All), (f : Flt), _⟩ hpre hwf X hT hG hk hK
  (simp -implicitDefEqProofs (maxSteps := 4000000) only [go_sem, Bool.not_eq_true', Bool.not_eq_false', Bool.or_eq_true, Bool.or_eq_false_iff, Bool.and_eq_true, Bool.and_eq_false_iff, decide_eq_true_eq, decide_eq_false_iff_not, Classical.not_not, not_or, maxLen, con58, hT, hG, hk, hK, Tryz.results58] at hwf ⊢); (try simp (disch := decide +kernel) only [drawn, true_and, and_true])
  intro hl
  refine evk_loop ⟨{ i : Nat // i ≤ l.length ∧ chV l f = chV (l.drop i) f }, 1000, fun i => [(3, .one (.loc 64 0)), (8, .one (.sl (.pair yFL (.int .i64)) l false)), (9, .one (.int .i64 l.length)), (10, .one (.int .i64 i.1))], fun _ => [(64, .cells 44 (expl yFL f))], fun i => l.length - i.1⟩ ⟨0, by simp, by simp⟩ ?_ ?_
  · simp only [go_sem]
    rfl
  · rintro ⟨i, (hi : i ≤ l.length), (he : chV l f = chV (l.drop i) f)⟩
    (simp -implicitDefEqProofs (maxSteps := 4000000) only [go_sem, Bool.not_eq_true', Bool.not_eq_false', Bool.or_eq_true, Bool.or_eq_false_iff, Bool.and_eq_true, Bool.and_eq_false_iff, decide_eq_true_eq, decide_eq_false_iff_not, Classical.not_not, not_or, maxLen, con58, hT, hG, hk, hK, Tryz.results58]); (try simp (disch := decide +kernel) only [drawn, true_and, and_true])
    refine ⟨fun hlt => ?_, fun hge => ?_⟩
    · have hi' : i < l.length := by omega
      have ek : ∀ z, l.getD (i : Int).toNat z = l[i] := fun z => by simp [hi']
      simp only [ek]
      have hst : chV l f = if l[i].1 = f then (l[i].2, true) else chV (l.drop (i + 1)) f := by
       rw [he, List.drop_eq_getElem_cons hi', chV]
      (repeat' (with_reducible (first | refine And.intro ?_ ?_ | intro _))) <;> (try (first | with_reducible (first | done | assumption | omega | contradiction) | decide))
      any_goals (have hf : l[i].1 = f := flt_eq (by assumption)
                 rw [hst, if_pos hf])
      have hf : ¬ l[i].1 = f := flt_ne (by assumption)
      refine fin_lp ⟨i + 1, by omega, by rw [hst, if_neg hf]⟩ (by simp only [go_sem]; first | rfl | ((repeat' apply And.intro) <;> first | rfl | assumption | omega)) (by dsimp only; omega)
    · rw [he, List.drop_of_length_le (by omega)]
      exact ⟨rfl, rfl⟩)
def con16 : Con := { ps := [.d false (.sl (.pair yFL (.int .i64))), .d true yFL], rs := [.d false (.int .i64), .d false .bool], pre := fun _ => True, out := fun x => ((chV x.1 x.2.1).1, (chV x.1 x.2.1).2, ()), nw := id }
theorem c16 : CtrOk Tryz.prog 16 con16.ctr :=
 con_sound (G := ⟨[], [], [], [], []⟩) tab_ok EnvOk.nil rfl Tryz.func16 rfl con16 525435 (by kernel_rfl) (by decide) (by decide) rfl (by decide) rfl (by
  rintro ⟨(l : List All), (f : Flt), _⟩ hpre hwf X hT hG hk hK
  (simp -implicitDefEqProofs (maxSteps := 4000000) only [go_sem, Bool.not_eq_true', Bool.not_eq_false', Bool.or_eq_true, Bool.or_eq_false_iff, Bool.and_eq_true, Bool.and_eq_false_iff, decide_eq_true_eq, decide_eq_false_iff_not, Classical.not_not, not_or, maxLen, con16, hT, hG, hk, hK, Tryz.results16] at hwf ⊢); (try simp (disch := decide +kernel) only [drawn, true_and, and_true])
  refine evk_loop ⟨{ i : Nat // i ≤ l.length ∧ chV l f = chV (l.drop i) f }, 1000, fun i => [(0, .one (.sl (.pair yFL (.int .i64)) l false)), (3, .one (.loc 64 0)), (6, .one (.int .i64 i.1))], fun _ => [(64, .cells 44 (expl yFL f))], fun i => l.length - i.1⟩ ⟨0, by simp, by simp⟩ ?_ ?_
  · simp only [go_sem]
    rfl
  · rintro ⟨i, (hi : i ≤ l.length), (he : chV l f = chV (l.drop i) f)⟩
    (simp -implicitDefEqProofs (maxSteps := 4000000) only [go_sem, Bool.not_eq_true', Bool.not_eq_false', Bool.or_eq_true, Bool.or_eq_false_iff, Bool.and_eq_true, Bool.and_eq_false_iff, decide_eq_true_eq, decide_eq_false_iff_not, Classical.not_not, not_or, maxLen, con16, hT, hG, hk, hK, Tryz.results16]); (try simp (disch := decide +kernel) only [drawn, true_and, and_true])
    intro hl
    refine ⟨fun hlt => ?_, fun hge => ?_⟩
    · have hi' : i < l.length := by omega
      have ek : ∀ z, l.getD (i : Int).toNat z = l[i] := fun z => by simp [hi']
      simp only [ek]
      have hst : chV l f = if l[i].1 = f then (l[i].2, true) else chV (l.drop (i + 1)) f := by
       rw [he, List.drop_eq_getElem_cons hi', chV]
      (repeat' (with_reducible (first | refine And.intro ?_ ?_ | intro _))) <;> (try (first | with_reducible (first | done | assumption | omega | contradiction) | decide))
      any_goals (have hf : l[i].1 = f := flt_eq (by assumption)
                 rw [hst, if_pos hf])
      have hf : ¬ l[i].1 = f := flt_ne (by assumption)
      refine fin_lp ⟨i + 1, by omega, by rw [hst, if_neg hf]⟩ (by simp only [go_sem]; first | rfl | ((repeat' apply And.intro) <;> first | rfl | assumption | omega)) (by dsimp only; omega)
    · rw [he, List.drop_of_length_le (by omega)]
      exact ⟨rfl, rfl⟩)
end Go.Proofs.YtdeihcabmpcaoaaGreat
