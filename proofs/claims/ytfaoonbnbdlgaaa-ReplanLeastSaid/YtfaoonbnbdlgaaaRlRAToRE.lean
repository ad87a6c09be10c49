/- The contracts of the functions that read numbers. -/
import Derived.Test.YtfaoonbnbdlgaaaRlTab
set_option linter.unusedSimpArgs false
set_option linter.unusedVariables false
set_option maxRecDepth 100000
set_option maxHeartbeats 4000000
namespace Go.Proofs.Ytfaoonbnbdlgaaa
open Go.Ev

theorem has6 : FnHas Try.prog 6 := ⟨⟨_, Try.func6, by kernel_rfl, by kernel_rfl⟩⟩
theorem has7 : FnHas Try.prog 7 := ⟨⟨_, Try.func7, by kernel_rfl, by kernel_rfl⟩⟩
theorem has8 : FnHas Try.prog 8 := ⟨⟨_, Try.func8, by kernel_rfl, by kernel_rfl⟩⟩
theorem has9 : FnHas Try.prog 9 := ⟨⟨_, Try.func9, by kernel_rfl, by kernel_rfl⟩⟩
theorem has10 : FnHas Try.prog 10 := ⟨⟨_, Try.func10, by kernel_rfl, by kernel_rfl⟩⟩
theorem has11 : FnHas Try.prog 11 := ⟨⟨_, Try.func11, by kernel_rfl, by kernel_rfl⟩⟩
theorem has12 : FnHas Try.prog 12 := ⟨⟨_, Try.func12, by kernel_rfl, by kernel_rfl⟩⟩
theorem has13 : FnHas Try.prog 13 := ⟨⟨_, Try.func13, by kernel_rfl, by kernel_rfl⟩⟩
theorem has14 : FnHas Try.prog 14 := ⟨⟨_, Try.func14, by kernel_rfl, by kernel_rfl⟩⟩
theorem has15 : FnHas Try.prog 15 := ⟨⟨_, Try.func15, by kernel_rfl, by kernel_rfl⟩⟩
theorem has16 : FnHas Try.prog 16 := ⟨⟨_, Try.func16, by kernel_rfl, by kernel_rfl⟩⟩
theorem has17 : FnHas Try.prog 17 := ⟨⟨_, Try.func17, by kernel_rfl, by kernel_rfl⟩⟩
theorem has18 : FnHas Try.prog 18 := ⟨⟨_, Try.func18, by kernel_rfl, by kernel_rfl⟩⟩
theorem has19 : FnHas Try.prog 19 := ⟨⟨_, Try.func19, by kernel_rfl, by kernel_rfl⟩⟩
theorem has20 : FnHas Try.prog 20 := ⟨⟨_, Try.func20, by kernel_rfl, by kernel_rfl⟩⟩
theorem has21 : FnHas Try.prog 21 := ⟨⟨_, Try.func21, by kernel_rfl, by kernel_rfl⟩⟩
theorem has22 : FnHas Try.prog 22 := ⟨⟨_, Try.func22, by kernel_rfl, by kernel_rfl⟩⟩
theorem has23 : FnHas Try.prog 23 := ⟨⟨_, Try.func23, by kernel_rfl, by kernel_rfl⟩⟩
theorem has24 : FnHas Try.prog 24 := ⟨⟨_, Try.func24, by kernel_rfl, by kernel_rfl⟩⟩
theorem has25 : FnHas Try.prog 25 := ⟨⟨_, Try.func25, by kernel_rfl, by kernel_rfl⟩⟩
theorem has26 : FnHas Try.prog 26 := ⟨⟨_, Try.func26, by kernel_rfl, by kernel_rfl⟩⟩
theorem has27 : FnHas Try.prog 27 := ⟨⟨_, Try.func27, by kernel_rfl, by kernel_rfl⟩⟩
theorem has28 : FnHas Try.prog 28 := ⟨⟨_, Try.func28, by kernel_rfl, by kernel_rfl⟩⟩
theorem has29 : FnHas Try.prog 29 := ⟨⟨_, Try.func29, by kernel_rfl, by kernel_rfl⟩⟩
theorem has30 : FnHas Try.prog 30 := ⟨⟨_, Try.func30, by kernel_rfl, by kernel_rfl⟩⟩
theorem has31 : FnHas Try.prog 31 := ⟨⟨_, Try.func31, by kernel_rfl, by kernel_rfl⟩⟩
theorem has32 : FnHas Try.prog 32 := ⟨⟨_, Try.func32, by kernel_rfl, by kernel_rfl⟩⟩
theorem has33 : FnHas Try.prog 33 := ⟨⟨_, Try.func33, by kernel_rfl, by kernel_rfl⟩⟩
theorem has34 : FnHas Try.prog 34 := ⟨⟨_, Try.func34, by kernel_rfl, by kernel_rfl⟩⟩
theorem has35 : FnHas Try.prog 35 := ⟨⟨_, Try.func35, by kernel_rfl, by kernel_rfl⟩⟩
theorem has36 : FnHas Try.prog 36 := ⟨⟨_, Try.func36, by kernel_rfl, by kernel_rfl⟩⟩
theorem has37 : FnHas Try.prog 37 := ⟨⟨_, Try.func37, by kernel_rfl, by kernel_rfl⟩⟩
theorem has38 : FnHas Try.prog 38 := ⟨⟨_, Try.func38, by kernel_rfl, by kernel_rfl⟩⟩
theorem has39 : FnHas Try.prog 39 := ⟨⟨_, Try.func39, by kernel_rfl, by kernel_rfl⟩⟩
theorem has40 : FnHas Try.prog 40 := ⟨⟨_, Try.func40, by kernel_rfl, by kernel_rfl⟩⟩
theorem has41 : FnHas Try.prog 41 := ⟨⟨_, Try.func41, by kernel_rfl, by kernel_rfl⟩⟩
theorem has42 : FnHas Try.prog 42 := ⟨⟨_, Try.func42, by kernel_rfl, by kernel_rfl⟩⟩
theorem has43 : FnHas Try.prog 43 := ⟨⟨_, Try.func43, by kernel_rfl, by kernel_rfl⟩⟩
theorem has44 : FnHas Try.prog 44 := ⟨⟨_, Try.func44, by kernel_rfl, by kernel_rfl⟩⟩
theorem has45 : FnHas Try.prog 45 := ⟨⟨_, Try.func45, by kernel_rfl, by kernel_rfl⟩⟩
theorem has46 : FnHas Try.prog 46 := ⟨⟨_, Try.func46, by kernel_rfl, by kernel_rfl⟩⟩
theorem has47 : FnHas Try.prog 47 := ⟨⟨_, Try.func47, by kernel_rfl, by kernel_rfl⟩⟩
theorem has48 : FnHas Try.prog 48 := ⟨⟨_, Try.func48, by kernel_rfl, by kernel_rfl⟩⟩
theorem has49 : FnHas Try.prog 49 := ⟨⟨_, Try.func49, by kernel_rfl, by kernel_rfl⟩⟩
theorem has50 : FnHas Try.prog 50 := ⟨⟨_, Try.func50, by kernel_rfl, by kernel_rfl⟩⟩
theorem has51 : FnHas Try.prog 51 := ⟨⟨_, Try.func51, by kernel_rfl, by kernel_rfl⟩⟩
theorem has52 : FnHas Try.prog 52 := ⟨⟨_, Try.func52, by kernel_rfl, by kernel_rfl⟩⟩
theorem has53 : FnHas Try.prog 53 := ⟨⟨_, Try.func53, by kernel_rfl, by kernel_rfl⟩⟩
theorem has54 : FnHas Try.prog 54 := ⟨⟨_, Try.func54, by kernel_rfl, by kernel_rfl⟩⟩
theorem has55 : FnHas Try.prog 55 := ⟨⟨_, Try.func55, by kernel_rfl, by kernel_rfl⟩⟩
theorem has56 : FnHas Try.prog 56 := ⟨⟨_, Try.func56, by kernel_rfl, by kernel_rfl⟩⟩
theorem has57 : FnHas Try.prog 57 := ⟨⟨_, Try.func57, by kernel_rfl, by kernel_rfl⟩⟩
theorem has60 : FnHas Try.prog 60 := ⟨⟨_, Try.func60, by kernel_rfl, by kernel_rfl⟩⟩
theorem has61 : FnHas Try.prog 61 := ⟨⟨_, Try.func61, by kernel_rfl, by kernel_rfl⟩⟩
theorem has62 : FnHas Try.prog 62 := ⟨⟨_, Try.func62, by kernel_rfl, by kernel_rfl⟩⟩
theorem has63 : FnHas Try.prog 63 := ⟨⟨_, Try.func63, by kernel_rfl, by kernel_rfl⟩⟩
theorem has64 : FnHas Try.prog 64 := ⟨⟨_, Try.func64, by kernel_rfl, by kernel_rfl⟩⟩
theorem has65 : FnHas Try.prog 65 := ⟨⟨_, Try.func65, by kernel_rfl, by kernel_rfl⟩⟩
theorem has66 : FnHas Try.prog 66 := ⟨⟨_, Try.func66, by kernel_rfl, by kernel_rfl⟩⟩
theorem has67 : FnHas Try.prog 67 := ⟨⟨_, Try.func67, by kernel_rfl, by kernel_rfl⟩⟩
theorem has78 : FnHas Try.prog 78 := ⟨⟨_, Try.func78, by kernel_rfl, by kernel_rfl⟩⟩
theorem has79 : FnHas Try.prog 79 := ⟨⟨_, Try.func79, by kernel_rfl, by kernel_rfl⟩⟩
theorem has80 : FnHas Try.prog 80 := ⟨⟨_, Try.func80, by kernel_rfl, by kernel_rfl⟩⟩
theorem has81 : FnHas Try.prog 81 := ⟨⟨_, Try.func81, by kernel_rfl, by kernel_rfl⟩⟩
theorem has82 : FnHas Try.prog 82 := ⟨⟨_, Try.func82, by kernel_rfl, by kernel_rfl⟩⟩
theorem has83 : FnHas Try.prog 83 := ⟨⟨_, Try.func83, by kernel_rfl, by kernel_rfl⟩⟩
theorem has84 : FnHas Try.prog 84 := ⟨⟨_, Try.func84, by kernel_rfl, by kernel_rfl⟩⟩
theorem has85 : FnHas Try.prog 85 := ⟨⟨_, Try.func85, by kernel_rfl, by kernel_rfl⟩⟩
theorem has86 : FnHas Try.prog 86 := ⟨⟨_, Try.func86, by kernel_rfl, by kernel_rfl⟩⟩
theorem has92 : FnHas Try.prog 92 := ⟨⟨_, Try.func92, by kernel_rfl, by kernel_rfl⟩⟩
theorem has93 : FnHas Try.prog 93 := ⟨⟨_, Try.func93, by kernel_rfl, by kernel_rfl⟩⟩
theorem has94 : FnHas Try.prog 94 := ⟨⟨_, Try.func94, by kernel_rfl, by kernel_rfl⟩⟩
theorem has95 : FnHas Try.prog 95 := ⟨⟨_, Try.func95, by kernel_rfl, by kernel_rfl⟩⟩
theorem has96 : FnHas Try.prog 96 := ⟨⟨_, Try.func96, by kernel_rfl, by kernel_rfl⟩⟩
theorem has99 : FnHas Try.prog 99 := ⟨⟨_, Try.func99, by kernel_rfl, by kernel_rfl⟩⟩
theorem has100 : FnHas Try.prog 100 := ⟨⟨_, Try.func100, by kernel_rfl, by kernel_rfl⟩⟩
theorem has101 : FnHas Try.prog 101 := ⟨⟨_, Try.func101, by kernel_rfl, by kernel_rfl⟩⟩
theorem has102 : FnHas Try.prog 102 := ⟨⟨_, Try.func102, by kernel_rfl, by kernel_rfl⟩⟩
/-- Mod. -/
def goMod (x n : Int) : Int := if n < 1 then 0 else if x.tmod n < 0 then x.tmod n + n else x.tmod n
theorem tmod_bd (x n : Int) (h : 1 ≤ n) : -n < x.tmod n ∧ x.tmod n < n := by
 have h1 := Int.tmod_lt_of_pos x (show 0 < n by omega)
 have h2 := Int.lt_tmod_of_pos x (show 0 < n by omega)
 omega
theorem goMod_bd (x n : Int) (h : 1 ≤ n) : 0 ≤ goMod x n ∧ goMod x n < n := by
 have := tmod_bd x n h
 unfold goMod
 rw [if_neg (by omega)]
 split <;> omega
def con24 : Con := { ps := [.d false (.int .i64), .d false (.int .i64)], rs := [.d false (.int .i64)], pre := fun _ => True, out := fun x => (goMod x.1 x.2.1, ()), nw := id }
theorem c24 : CtrOk Try.prog 24 con24.ctr :=
 con_sound (G := ⟨[], [], [], [], []⟩) tab_ok EnvOk.nil rfl Try.func24 rfl con24 2131 (by kernel_rfl) (by decide) (by decide) rfl (by decide) rfl (by
  rintro ⟨(x : Int), (n : Int), _⟩ hpre hwf X hT hG hk hK
  (simp -implicitDefEqProofs (maxSteps := 4000000) only [go_sem, con24, hT, hG, hk, hK, Try.results24] at hwf ⊢); (try simp (disch := decide +kernel) only [drawn, true_and, and_true])
  unfold goMod
  by_cases hn : n < 1
  · simp [hn]
  · have hb := tmod_bd x n (by omega)
    have hn0 : n ≠ 0 := by omega
    simp only [hn, if_false, not_false_eq_true, true_implies, false_implies, true_and]
    refine ⟨⟨hn0, by omega, by omega⟩, fun h => ⟨⟨by omega, by omega⟩, ?_⟩, fun h => ?_⟩
    · rw [if_pos h]
    · rw [if_neg h])
abbrev Src := List Int × Int
def Src.raw (s : Src) : Int := if s.2 ≥ s.1.length then 0 else s.1.getD s.2.toNat 0
def Src.step (s : Src) : Src := if s.2 ≥ s.1.length then s else (s.1, s.2 + 1)
theorem Src.step_pos (s : Src) (h : 0 ≤ s.2) : 0 ≤ s.step.2 := by unfold Src.step; split; exact h; exact Int.le_trans h (by simp only; omega)
def con25 : Con := { ps := [.p 54 ySR], rs := [.d false (.int .i64)], pre := fun x => 0 ≤ x.1.2, out := fun x => (Src.raw x.1, ()), nw := fun x => (Src.step x.1, ()) }
theorem c25 : CtrOk Try.prog 25 con25.ctr :=
 con_sound (G := ⟨[], [], [], [], []⟩) tab_ok EnvOk.nil rfl Try.func25 rfl con25 4101 (by kernel_rfl) (by decide) (by decide) rfl (by decide) rfl (by
  rintro ⟨⟨(l : List Int), (a : Int)⟩, _⟩ hpre hwf X hT hG hk hK
  (simp -implicitDefEqProofs (maxSteps := 4000000) only [go_sem, con25, hT, hG, hk, hK, Try.results25] at hwf ⊢); (try simp (disch := decide +kernel) only [drawn, true_and, and_true])
  intro hl
  have hpre : 0 ≤ a := hpre
  have hl' := hl
  simp only [maxLen] at hl'
  unfold Src.step Src.raw
  refine ⟨fun h => ?_, fun h => ⟨⟨by omega, by omega⟩, ⟨by omega, by omega⟩, ⟨by omega, by omega⟩, fun _ _ => ?_⟩⟩
  · simp [show (a : Int) ≥ (l.length : Int) from h]
  · simp [show ¬ (a : Int) ≥ (l.length : Int) from h])
def con10 : Con := { ps := [.p 54 ySR, .d false (.int .i64)], rs := [.d false (.int .i64)], pre := fun x => 0 ≤ x.1.2, out := fun x => (goMod (Src.raw x.1) x.2.1, ()), nw := fun x => (Src.step x.1, x.2) }
theorem c10 : CtrOk Try.prog 10 con10.ctr :=
 con_sound (G := ⟨[(25, con25.ctr), (24, con24.ctr)], [], [], [], []⟩) tab_ok (EnvOk.cons c25 has25 (EnvOk.cons c24 has24 EnvOk.nil)) rfl Try.func10 rfl con10 19 (by kernel_rfl) (by decide) (by decide) rfl (by decide) rfl (by
  rintro ⟨⟨(l : List Int), (a : Int)⟩, (n : Int), _⟩ hpre hwf X hT hG hk hK
  (simp -implicitDefEqProofs (maxSteps := 4000000) only [go_sem, con10, con25, con24, hT, hG, hk, hK, Try.results10] at hwf ⊢); (try simp (disch := decide +kernel) only [drawn, true_and, and_true])
  exact hpre)
def con6 : Con := { ps := [.d false (.sl (.int .i64))], rs := [.p 54 ySR], pre := fun x => True, out := fun x => ((x.1.take 2000, 0), ()), nw := id }
theorem c6 : CtrOk Try.prog 6 con6.ctr :=
 con_sound (G := ⟨[], [], [], [], []⟩) tab_ok EnvOk.nil rfl Try.func6 rfl con6 37 (by kernel_rfl) (by decide) (by decide) rfl (by decide) rfl (by
  rintro ⟨(l : List Int), _⟩ hpre hwf X hT hG hk hK
  (simp -implicitDefEqProofs (maxSteps := 4000000) only [go_sem, con6, hT, hG, hk, hK, Try.results6] at hwf ⊢); (try simp (disch := decide +kernel) only [drawn, true_and, and_true])
  refine fun _ => ⟨fun h => ⟨⟨by omega, by omega, by omega⟩, rfl⟩, fun h => ?_⟩
  rw [List.take_of_length_le (by omega)])
end Go.Proofs.Ytfaoonbnbdlgaaa

/- The contracts of the functions that the statements about the makeup reach: comparisons, what is valid, what is open. -/
set_option linter.unusedSimpArgs false
set_option linter.unusedVariables false
set_option maxRecDepth 100000
set_option maxHeartbeats 4000000
namespace Go.Proofs.Ytfaoonbnbdlgaaa
open Go.Ev

abbrev Flt := ByteArray × Int × ByteArray × Int
abbrev Dep := Flt × ByteArray × Int × Int × Int × Int × Int
abbrev All := Flt × Int
def Dep.opens (d : Dep) : Int := d.2.2.1
def Dep.closes (d : Dep) : Int := d.2.2.2.1
def Dep.state (d : Dep) : Int := d.2.2.2.2.2.2

def con79 : Con := { ps := [.d false (.int .i64)], rs := [.d false .bool], pre := fun _ => True, out := fun x => (false, ()), nw := id }
theorem c79 : CtrOk Try.prog 79 con79.ctr :=
 con_sound (G := ⟨[], [], [], [], []⟩) tab_ok EnvOk.nil rfl Try.func79 rfl con79 5 (by kernel_rfl) (by decide) (by decide) rfl (by decide) rfl (by
  rintro ⟨(p : Int), _⟩ hpre hwf X hT hG hk hK
  (simp -implicitDefEqProofs (maxSteps := 4000000) only [go_sem, con79, hT, hG, hk, hK, Try.results79] at hwf ⊢); (try simp (disch := decide +kernel) only [drawn, true_and, and_true]))
def con78 : Con := { ps := [.d false .str], rs := [.d false .bool], pre := fun _ => True, out := fun x => (false, ()), nw := id }
theorem c78 : CtrOk Try.prog 78 con78.ctr :=
 con_sound (G := ⟨[], [], [], [], []⟩) tab_ok EnvOk.nil rfl Try.func78 rfl con78 5 (by kernel_rfl) (by decide) (by decide) rfl (by decide) rfl (by
  rintro ⟨(p : ByteArray), _⟩ hpre hwf X hT hG hk hK
  (simp -implicitDefEqProofs (maxSteps := 4000000) only [go_sem, con78, hT, hG, hk, hK, Try.results78] at hwf ⊢); (try simp (disch := decide +kernel) only [drawn, true_and, and_true]))
def cmpV (a b : Int) : Int := if a < b then -1 else if a > b then 1 else 0
def con62 : Con := { ps := [.d false (.int .i64), .d false (.int .i64)], rs := [.d false (.int .i64)], pre := fun _ => True, out := fun x => (cmpV x.1 x.2.1, ()), nw := id }
theorem c62 : CtrOk Try.prog 62 con62.ctr :=
 con_sound (G := ⟨[(79, con79.ctr)], [], [], [], []⟩) tab_ok (EnvOk.cons c79 has79 EnvOk.nil) rfl Try.func62 rfl con62 604275 (by kernel_rfl) (by decide) (by decide) rfl (by decide) rfl (by
  rintro ⟨(a : Int), (b : Int), _⟩ hpre hwf X hT hG hk hK
  (simp -implicitDefEqProofs (maxSteps := 4000000) only [go_sem, con62, con79, hT, hG, hk, hK, Try.results62] at hwf ⊢); (try simp (disch := decide +kernel) only [drawn, true_and, and_true])
  unfold cmpV
  refine ⟨fun h => h.elim, fun h => h.elim, fun h => by rw [if_pos h], fun h => ⟨fun k => by rw [if_neg h, if_pos k], fun k => by rw [if_neg h, if_neg k]⟩⟩)
def cmpS (a b : ByteArray) : Int := if strLt a b = true then -1 else if (!(strLt a b || decide (a = b))) = true then 1 else 0
def con61 : Con := { ps := [.d false .str, .d false .str], rs := [.d false (.int .i64)], pre := fun _ => True, out := fun x => (cmpS x.1 x.2.1, ()), nw := id }
theorem c61 : CtrOk Try.prog 61 con61.ctr :=
 con_sound (G := ⟨[(78, con78.ctr)], [], [], [], []⟩) tab_ok (EnvOk.cons c78 has78 EnvOk.nil) rfl Try.func61 rfl con61 604275 (by kernel_rfl) (by decide) (by decide) rfl (by decide) rfl (by
  rintro ⟨(a : ByteArray), (b : ByteArray), _⟩ hpre hwf X hT hG hk hK
  (simp -implicitDefEqProofs (maxSteps := 4000000) only [go_sem, con61, con78, hT, hG, hk, hK, Try.results61] at hwf ⊢); (try simp (disch := decide +kernel) only [drawn, true_and, and_true])
  unfold cmpS
  generalize strLt a b = q
  generalize decide (a = b) = r
  cases q <;> cases r <;> simp)
def orV : List Int → Int
 | [] => 0
 | x :: l => if x = 0 then orV l else x
def con60 : Con := { ps := [.d false (.sl (.int .i64))], rs := [.d false (.int .i64)], pre := fun _ => True, out := fun x => (orV x.1, ()), nw := id }
theorem c60 : CtrOk Try.prog 60 con60.ctr :=
 con_sound (G := ⟨[], [], [], [], []⟩) tab_ok EnvOk.nil rfl Try.func60 rfl con60 17389 (by kernel_rfl) (by decide) (by decide) rfl (by decide) rfl (by
  rintro ⟨(l : List Int), _⟩ hpre hwf X hT hG hk hK
  (simp -implicitDefEqProofs (maxSteps := 4000000) only [go_sem, Bool.not_eq_true', Bool.not_eq_false', Bool.or_eq_true, Bool.or_eq_false_iff, Bool.and_eq_true, Bool.and_eq_false_iff, decide_eq_true_eq, decide_eq_false_iff_not, Classical.not_not, not_or, maxLen, con60, hT, hG, hk, hK, Try.results60] at hwf ⊢); (try simp (disch := decide +kernel) only [drawn, true_and, and_true])
  intro hl
  refine evk_loop ⟨{ i : Nat // i ≤ l.length ∧ orV l = orV (l.drop i) }, 1000, fun i => [(3, .one (.int .i64 0)), (6, .one (.sl (.int .i64) l false)), (7, .one (.int .i64 l.length)), (8, .one (.int .i64 i.1))], fun _ => [], fun i => l.length - i.1⟩ ⟨0, by simp, by simp⟩ ?_ ?_
  · simp only [go_sem]
    rfl
  · rintro ⟨i, (hi : i ≤ l.length), (he : orV l = orV (l.drop i))⟩
    (simp -implicitDefEqProofs (maxSteps := 4000000) only [go_sem, Bool.not_eq_true', Bool.not_eq_false', Bool.or_eq_true, Bool.or_eq_false_iff, Bool.and_eq_true, Bool.and_eq_false_iff, decide_eq_true_eq, decide_eq_false_iff_not, Classical.not_not, not_or, maxLen, con60, hT, hG, hk, hK, Try.results60]); (try simp (disch := decide +kernel) only [drawn, true_and, and_true])
    refine ⟨fun hlt => ?_, fun hge => ?_⟩
    · have hi' : i < l.length := by omega
      have ek : l.getD (i : Int).toNat 0 = l[i] := by simp [hi']
      rw [ek]
      have hst : orV l = if l[i] = 0 then orV (l.drop (i + 1)) else l[i] := by
       rw [he, List.drop_eq_getElem_cons hi', orV]
      (repeat' (with_reducible (first | refine And.intro ?_ ?_ | intro _))) <;> (try (first | with_reducible (first | done | assumption | omega | contradiction) | decide))
      all_goals rename_i h
      · first
         | rw [hst, if_neg h]
         | (refine fin_lp ⟨i + 1, by omega, ?_⟩ ?_ ?_
            · rw [hst, if_pos h]
            · simp only [go_sem]
              rfl
            · show l.length - (i + 1) < l.length - i
              omega)
    · rw [he, List.drop_of_length_le (by omega)]
      rfl)
def fltC (a b : Flt) : Int := orV [cmpS a.1 b.1, cmpV a.2.1 b.2.1, cmpS a.2.2.1 b.2.2.1, cmpV a.2.2.2 b.2.2.2]
def con35 : Con := { ps := [.d true yFL, .d true yFL], rs := [.d false (.int .i64)], pre := fun _ => True, out := fun x => (fltC x.1 x.2.1, ()), nw := id }
theorem c35 : CtrOk Try.prog 35 con35.ctr :=
 con_sound (G := ⟨[(60, con60.ctr), (61, con61.ctr), (62, con62.ctr)], [], [], [], []⟩) tab_ok (EnvOk.cons c60 has60 (EnvOk.cons c61 has61 (EnvOk.cons c62 has62 EnvOk.nil))) rfl Try.func35 rfl con35 31 (by kernel_rfl) (by decide) (by decide) rfl (by decide) rfl (by
  rintro ⟨⟨a1, (a2 : Int), a3, (a4 : Int)⟩, ⟨b1, (b2 : Int), b3, (b4 : Int)⟩, _⟩ hpre hwf X hT hG hk hK
  (simp -implicitDefEqProofs (maxSteps := 4000000) only [go_sem, Bool.not_eq_true', Bool.not_eq_false', Bool.or_eq_true, Bool.or_eq_false_iff, Bool.and_eq_true, Bool.and_eq_false_iff, decide_eq_true_eq, decide_eq_false_iff_not, Classical.not_not, not_or, maxLen, con35, con60, con61, con62, hT, hG, hk, hK, Try.results35] at hwf ⊢); (try simp (disch := decide +kernel) only [drawn, true_and, and_true])
  (repeat' (with_reducible (first | refine And.intro ?_ ?_ | intro _))) <;> (try (first | with_reducible (first | done | assumption | omega | contradiction) | decide))
  rfl)
def isOpenV (d : Dep) (t : Int) : Bool := decide (d.state = 0) && decide (d.opens ≤ t) && decide (t < d.closes)
def con54 : Con := { ps := [.d true yDP, .d false (.int .i64)], rs := [.d false .bool], pre := fun _ => True, out := fun x => (isOpenV x.1 x.2.1, ()), nw := id }
theorem c54 : CtrOk Try.prog 54 con54.ctr :=
 con_sound (G := ⟨[], [], [], [], []⟩) tab_ok EnvOk.nil rfl Try.func54 rfl con54 23 (by kernel_rfl) (by decide) (by decide) rfl (by decide) rfl (by
  rintro ⟨(a : Dep), (t : Int), _⟩ hpre hwf X hT hG hk hK
  obtain ⟨a0, a1, (a2 : Int), (a3 : Int), (a4 : Int), (a5 : Int), (a6 : Int)⟩ := a
  (simp -implicitDefEqProofs (maxSteps := 4000000) only [go_sem, Bool.not_eq_true', Bool.not_eq_false', Bool.or_eq_true, Bool.or_eq_false_iff, Bool.and_eq_true, Bool.and_eq_false_iff, decide_eq_true_eq, decide_eq_false_iff_not, Classical.not_not, not_or, maxLen, con54, hT, hG, hk, hK, Try.results54] at hwf ⊢); (try simp (disch := decide +kernel) only [drawn, true_and, and_true])
  (repeat' (with_reducible (first | refine And.intro ?_ ?_ | intro _))) <;> (try (first | with_reducible (first | done | assumption | omega | contradiction) | decide))
  rfl)
def con64 : Con := { ps := [.d true yDP, .d false (.int .i64)], rs := [.d false .bool], pre := fun _ => True, out := fun x => (isOpenV x.1 x.2.1, ()), nw := id }
theorem c64 : CtrOk Try.prog 64 con64.ctr :=
 con_sound (G := ⟨[], [], [], [], []⟩) tab_ok EnvOk.nil rfl Try.func64 rfl con64 23 (by kernel_rfl) (by decide) (by decide) rfl (by decide) rfl (by
  rintro ⟨(a : Dep), (t : Int), _⟩ hpre hwf X hT hG hk hK
  obtain ⟨a0, a1, (a2 : Int), (a3 : Int), (a4 : Int), (a5 : Int), (a6 : Int)⟩ := a
  (simp -implicitDefEqProofs (maxSteps := 4000000) only [go_sem, Bool.not_eq_true', Bool.not_eq_false', Bool.or_eq_true, Bool.or_eq_false_iff, Bool.and_eq_true, Bool.and_eq_false_iff, decide_eq_true_eq, decide_eq_false_iff_not, Classical.not_not, not_or, maxLen, con64, hT, hG, hk, hK, Try.results64] at hwf ⊢); (try simp (disch := decide +kernel) only [drawn, true_and, and_true])
  (repeat' (with_reducible (first | refine And.intro ?_ ?_ | intro _))) <;> (try (first | with_reducible (first | done | assumption | omega | contradiction) | decide))
  rfl)
def inV (n a b : Int) : Bool := decide (a ≤ n) && decide (n ≤ b)
def con84 : Con := { ps := [.d false (.int .i64), .d false (.int .i64), .d false (.int .i64)], rs := [.d false .bool], pre := fun _ => True, out := fun x => (inV x.1 x.2.1 x.2.2.1, ()), nw := id }
theorem c84 : CtrOk Try.prog 84 con84.ctr :=
 con_sound (G := ⟨[], [], [], [], []⟩) tab_ok EnvOk.nil rfl Try.func84 rfl con84 71 (by kernel_rfl) (by decide) (by decide) rfl (by decide) rfl (by
  rintro ⟨(n : Int), (a : Int), (b : Int), _⟩ hpre hwf X hT hG hk hK
  (simp -implicitDefEqProofs (maxSteps := 4000000) only [go_sem, Bool.not_eq_true', Bool.not_eq_false', Bool.or_eq_true, Bool.or_eq_false_iff, Bool.and_eq_true, Bool.and_eq_false_iff, decide_eq_true_eq, decide_eq_false_iff_not, Classical.not_not, not_or, maxLen, con84, hT, hG, hk, hK, Try.results84] at hwf ⊢); (try simp (disch := decide +kernel) only [drawn, true_and, and_true])
  (repeat' (with_reducible (first | refine And.intro ?_ ?_ | intro _))) <;> (try (first | with_reducible (first | done | assumption | omega | contradiction) | decide))
  rfl)
def letterV (n : Int) : Bool := decide (65 ≤ n) && decide (n ≤ 90)
def con100 : Con := { ps := [.d false (.int .u8)], rs := [.d false .bool], pre := fun _ => True, out := fun x => (letterV x.1, ()), nw := id }
theorem c100 : CtrOk Try.prog 100 con100.ctr :=
 con_sound (G := ⟨[], [], [], [], []⟩) tab_ok EnvOk.nil rfl Try.func100 rfl con100 5 (by kernel_rfl) (by decide) (by decide) rfl (by decide) rfl (by
  rintro ⟨(n : Int), _⟩ hpre hwf X hT hG hk hK
  (simp -implicitDefEqProofs (maxSteps := 4000000) only [go_sem, Bool.not_eq_true', Bool.not_eq_false', Bool.or_eq_true, Bool.or_eq_false_iff, Bool.and_eq_true, Bool.and_eq_false_iff, decide_eq_true_eq, decide_eq_false_iff_not, Classical.not_not, not_or, maxLen, con100, hT, hG, hk, hK, Try.results100] at hwf ⊢); (try simp (disch := decide +kernel) only [drawn, true_and, and_true])
  (repeat' (with_reducible (first | refine And.intro ?_ ?_ | intro _))) <;> (try (first | with_reducible (first | done | assumption | omega | contradiction) | decide))
  rfl)
def digitV (n : Int) : Bool := decide (48 ≤ n) && decide (n ≤ 57)
def con101 : Con := { ps := [.d false (.int .u8)], rs := [.d false .bool], pre := fun _ => True, out := fun x => (digitV x.1, ()), nw := id }
theorem c101 : CtrOk Try.prog 101 con101.ctr :=
 con_sound (G := ⟨[], [], [], [], []⟩) tab_ok EnvOk.nil rfl Try.func101 rfl con101 5 (by kernel_rfl) (by decide) (by decide) rfl (by decide) rfl (by
  rintro ⟨(n : Int), _⟩ hpre hwf X hT hG hk hK
  (simp -implicitDefEqProofs (maxSteps := 4000000) only [go_sem, Bool.not_eq_true', Bool.not_eq_false', Bool.or_eq_true, Bool.or_eq_false_iff, Bool.and_eq_true, Bool.and_eq_false_iff, decide_eq_true_eq, decide_eq_false_iff_not, Classical.not_not, not_or, maxLen, con101, hT, hG, hk, hK, Try.results101] at hwf ⊢); (try simp (disch := decide +kernel) only [drawn, true_and, and_true])
  (repeat' (with_reducible (first | refine And.intro ?_ ?_ | intro _))) <;> (try (first | with_reducible (first | done | assumption | omega | contradiction) | decide))
  rfl)
end Go.Proofs.Ytfaoonbnbdlgaaa

/- The contracts of the functions that the statements about the makeup reach: what is valid. -/
set_option linter.unusedSimpArgs false
set_option linter.unusedVariables false
set_option maxRecDepth 100000
set_option maxHeartbeats 4000000
namespace Go.Proofs.Ytfaoonbnbdlgaaa
open Go.Ev

/-- All bytes from a place on. -/
def allFrom (p : Int → Bool) (s : ByteArray) : Nat → Nat → Bool
 | _, 0 => true
 | i, n + 1 => p (byteAt s i) && allFrom p s (i + 1) n
def con102 : Con := { ps := [.d false .str, .cl 100 []], rs := [.d false .bool], pre := fun _ => True, out := fun x => (allFrom letterV x.1 0 (ByteArray.size x.1), ()), nw := id }
theorem c102 : CtrOk Try.prog 102 con102.ctr :=
 con_sound (G := ⟨[(100, con100.ctr)], [], [], [], []⟩) tab_ok (EnvOk.cons c100 has100 EnvOk.nil) rfl Try.func102 rfl con102 66483 (by kernel_rfl) (by decide) (by decide) rfl (by decide) rfl (by
  rintro ⟨(s : ByteArray), _⟩ hpre hwf X hT hG hk hK
  (simp -implicitDefEqProofs (maxSteps := 4000000) only [go_sem, Bool.not_eq_true', Bool.not_eq_false', Bool.or_eq_true, Bool.or_eq_false_iff, Bool.and_eq_true, Bool.and_eq_false_iff, decide_eq_true_eq, decide_eq_false_iff_not, Classical.not_not, not_or, maxLen, con102, con100, hT, hG, hk, hK, Try.results102] at hwf ⊢); (try simp (disch := decide +kernel) only [drawn, true_and, and_true])
  intro hl
  refine evk_loop ⟨{ i : Nat // i ≤ s.size ∧ allFrom letterV s 0 s.size = allFrom letterV s i (s.size - i) }, 1000, fun i => [(0, .one (.str s)), (1, .one (.fn 100 [])), (7, .one (.int .i64 s.size)), (8, .one (.int .i64 i.1))], fun _ => [], fun i => s.size - i.1⟩ ⟨0, by simp, by simp⟩ ?_ ?_
  · simp only [go_sem]
    rfl
  · rintro ⟨i, (hi : i ≤ s.size), (he : allFrom letterV s 0 s.size = allFrom letterV s i (s.size - i))⟩
    (simp -implicitDefEqProofs (maxSteps := 4000000) only [go_sem, Bool.not_eq_true', Bool.not_eq_false', Bool.or_eq_true, Bool.or_eq_false_iff, Bool.and_eq_true, Bool.and_eq_false_iff, decide_eq_true_eq, decide_eq_false_iff_not, Classical.not_not, not_or, maxLen, con102, con100, hT, hG, hk, hK, Try.results102]); (try simp (disch := decide +kernel) only [drawn, true_and, and_true])
    refine ⟨fun hlt => ?_, fun hge => ?_⟩
    · have hi' : i < s.size := by omega
      have hst : allFrom letterV s 0 s.size = (letterV (byteAt s i) && allFrom letterV s (i + 1) (s.size - (i + 1))) := by
       rw [he, show s.size - i = (s.size - (i + 1)) + 1 by omega, allFrom]
      (repeat' (with_reducible (first | refine And.intro ?_ ?_ | intro _))) <;> (try (first | with_reducible (first | done | assumption | omega | contradiction) | decide))
      · rename_i h
        rw [hst, h]; rfl
      · rename_i h
        refine fin_lp ⟨i + 1, by omega, ?_⟩ ?_ ?_
        · show allFrom letterV s 0 s.size = allFrom letterV s (i + 1) (s.size - (i + 1))
          rw [hst, h]; rfl
        · simp only [go_sem]
          rfl
        · show s.size - (i + 1) < s.size - i
          omega
    · rw [he, show s.size - i = 0 by omega]
      rfl)
def lettersV (s : ByteArray) (a b : Int) : Bool := decide ((s.size : Int) ≥ a) && decide ((s.size : Int) ≤ b) && allFrom letterV s 0 s.size
def con96 : Con := { ps := [.d false .str, .d false (.int .i64), .d false (.int .i64)], rs := [.d false .bool], pre := fun _ => True, out := fun x => (lettersV x.1 x.2.1 x.2.2.1, ()), nw := id }
theorem c96 : CtrOk Try.prog 96 con96.ctr :=
 con_sound (G := ⟨[(102, con102.ctr)], [], [], [], []⟩) tab_ok (EnvOk.cons c102 has102 EnvOk.nil) rfl Try.func96 rfl con96 71 (by kernel_rfl) (by decide) (by decide) rfl (by decide) rfl (by
  rintro ⟨(s : ByteArray), (a : Int), (b : Int), _⟩ hpre hwf X hT hG hk hK
  (simp -implicitDefEqProofs (maxSteps := 4000000) only [go_sem, Bool.not_eq_true', Bool.not_eq_false', Bool.or_eq_true, Bool.or_eq_false_iff, Bool.and_eq_true, Bool.and_eq_false_iff, decide_eq_true_eq, decide_eq_false_iff_not, Classical.not_not, not_or, maxLen, con96, con102, hT, hG, hk, hK, Try.results96] at hwf ⊢); (try simp (disch := decide +kernel) only [drawn, true_and, and_true])
  (repeat' (with_reducible (first | refine And.intro ?_ ?_ | intro _))) <;> (try (first | with_reducible (first | done | assumption | omega | contradiction) | decide))
  rfl)
def con83 : Con := { ps := [.d false .str], rs := [.d false .bool], pre := fun _ => True, out := fun x => (lettersV x.1 3 3, ()), nw := id }
theorem c83 : CtrOk Try.prog 83 con83.ctr :=
 con_sound (G := ⟨[(96, con96.ctr)], [], [], [], []⟩) tab_ok (EnvOk.cons c96 has96 EnvOk.nil) rfl Try.func83 rfl con83 5 (by kernel_rfl) (by decide) (by decide) rfl (by decide) rfl (by
  rintro ⟨(s : ByteArray), _⟩ hpre hwf X hT hG hk hK
  (simp -implicitDefEqProofs (maxSteps := 4000000) only [go_sem, Bool.not_eq_true', Bool.not_eq_false', Bool.or_eq_true, Bool.or_eq_false_iff, Bool.and_eq_true, Bool.and_eq_false_iff, decide_eq_true_eq, decide_eq_false_iff_not, Classical.not_not, not_or, maxLen, con83, con96, hT, hG, hk, hK, Try.results83] at hwf ⊢); (try simp (disch := decide +kernel) only [drawn, true_and, and_true]))
def carF (s : ByteArray) : Nat → Nat → Nat → Bool
 | _, 0, k => decide (0 < k)
 | i, n + 1, k => if letterV (byteAt s i) then carF s (i + 1) n (k + 1) else if digitV (byteAt s i) then carF s (i + 1) n k else false
def carrierV (s : ByteArray) : Bool := if (s.size : Int) ≠ 2 then false else carF s 0 s.size 0
def con95 : Con := { ps := [.d false .str], rs := [.d false .bool], pre := fun _ => True, out := fun x => (carrierV x.1, ()), nw := id }
theorem c95 : CtrOk Try.prog 95 con95.ctr :=
 con_sound (G := ⟨[(100, con100.ctr), (101, con101.ctr)], [], [], [], []⟩) tab_ok (EnvOk.cons c100 has100 (EnvOk.cons c101 has101 EnvOk.nil)) rfl Try.func95 rfl con95 1060509 (by kernel_rfl) (by decide) (by decide) rfl (by decide) rfl (by
  rintro ⟨(s : ByteArray), _⟩ hpre hwf X hT hG hk hK
  (simp -implicitDefEqProofs (maxSteps := 4000000) only [go_sem, Bool.not_eq_true', Bool.not_eq_false', Bool.or_eq_true, Bool.or_eq_false_iff, Bool.and_eq_true, Bool.and_eq_false_iff, decide_eq_true_eq, decide_eq_false_iff_not, Classical.not_not, not_or, maxLen, con95, con100, con101, hT, hG, hk, hK, Try.results95] at hwf ⊢); (try simp (disch := decide +kernel) only [drawn, true_and, and_true])
  (repeat' (with_reducible (first | refine And.intro ?_ ?_ | intro _))) <;> (try (first | with_reducible (first | done | assumption | omega | contradiction) | decide))
  · rename_i h
    unfold carrierV; rw [if_pos h]
  · rename_i h2 hl
    have e0 : carrierV s = carF s 0 s.size 0 := by unfold carrierV; rw [if_neg (by omega)]
    refine evk_loop ⟨{ q : Nat × Nat // q.1 ≤ s.size ∧ q.2 ≤ q.1 ∧ carF s 0 s.size 0 = carF s q.1 (s.size - q.1) q.2 }, 1000, fun q => [(0, .one (.str s)), (3, .one (.int .i64 q.1.2)), (9, .one (.int .i64 s.size)), (10, .one (.int .i64 q.1.1))], fun _ => [], fun q => s.size - q.1.1⟩ ⟨(0, 0), by simp, by simp, by simp⟩ ?_ ?_
    · simp only [go_sem]
      rfl
    · rintro ⟨⟨i, k⟩, (hi : i ≤ s.size), (hki : k ≤ i), (he : carF s 0 s.size 0 = carF s i (s.size - i) k)⟩
      (simp -implicitDefEqProofs (maxSteps := 4000000) only [go_sem, Bool.not_eq_true', Bool.not_eq_false', Bool.or_eq_true, Bool.or_eq_false_iff, Bool.and_eq_true, Bool.and_eq_false_iff, decide_eq_true_eq, decide_eq_false_iff_not, Classical.not_not, not_or, maxLen, con95, con100, con101, hT, hG, hk, hK, Try.results95]); (try simp (disch := decide +kernel) only [drawn, true_and, and_true])
      refine ⟨fun hlt => ?_, fun hge => ?_⟩
      · have hi' : i < s.size := by omega
        have hst : carF s 0 s.size 0 = if letterV (byteAt s i) then carF s (i + 1) (s.size - (i + 1)) (k + 1) else if digitV (byteAt s i) then carF s (i + 1) (s.size - (i + 1)) k else false := by
         rw [he, show s.size - i = (s.size - (i + 1)) + 1 by omega, carF]
        (repeat' (with_reducible (first | refine And.intro ?_ ?_ | intro _))) <;> (try (first | with_reducible (first | done | assumption | omega | contradiction) | decide))
        · rename_i h
          refine fin_lp ⟨(i + 1, k + 1), by omega, by omega, by dsimp only; rw [hst, if_pos h]⟩ (by simp only [go_sem]; first | rfl | ((repeat' apply And.intro) <;> first | rfl | assumption | omega)) (by dsimp only; omega)
        · rename_i h1 h
          rw [e0, hst, if_neg (by rw [h1]; simp), if_neg (by rw [h]; simp)]
        · rename_i h1 h
          refine fin_lp ⟨(i + 1, k), by omega, by omega, by dsimp only; rw [hst, if_neg (by rw [h1]; simp), if_pos h]⟩ (by simp only [go_sem]; first | rfl | ((repeat' apply And.intro) <;> first | rfl | assumption | omega)) (by dsimp only; omega)
      · rw [e0, he, show s.size - i = 0 by omega]
        rw [carF]
        rw [decide_eq_decide]; omega)
def fltOk (f : Flt) : Bool := carrierV f.1 && decide (f.2.1 ≥ 1) && decide (f.2.1 ≤ 9999) && lettersV f.2.2.1 0 1 && decide (f.2.2.2 ≥ 0) && decide (f.2.2.2 ≤ 99)
def con82 : Con := { ps := [.d true yFL], rs := [.d false .bool], pre := fun _ => True, out := fun x => (fltOk x.1, ()), nw := id }
theorem c82 : CtrOk Try.prog 82 con82.ctr :=
 con_sound (G := ⟨[(95, con95.ctr), (96, con96.ctr)], [], [], [], []⟩) tab_ok (EnvOk.cons c95 has95 (EnvOk.cons c96 has96 EnvOk.nil)) rfl Try.func82 rfl con82 7 (by kernel_rfl) (by decide) (by decide) rfl (by decide) rfl (by
  rintro ⟨⟨a1, (a2 : Int), a3, (a4 : Int)⟩, _⟩ hpre hwf X hT hG hk hK
  (simp -implicitDefEqProofs (maxSteps := 4000000) only [go_sem, Bool.not_eq_true', Bool.not_eq_false', Bool.or_eq_true, Bool.or_eq_false_iff, Bool.and_eq_true, Bool.and_eq_false_iff, decide_eq_true_eq, decide_eq_false_iff_not, Classical.not_not, not_or, maxLen, con82, con95, con96, hT, hG, hk, hK, Try.results82] at hwf ⊢); (try simp (disch := decide +kernel) only [drawn, true_and, and_true])
  (repeat' (with_reducible (first | refine And.intro ?_ ?_ | intro _))) <;> (try (first | with_reducible (first | done | assumption | omega | contradiction) | decide))
  rfl)
def validV (d : Dep) : Bool := fltOk d.1 && lettersV d.2.1 3 3 && inV d.2.2.1 0 1048576 && inV d.2.2.2.1 0 1048576 && inV d.2.2.2.2.1 0 1048576 && decide (d.2.2.1 < d.2.2.2.1) && decide (d.2.2.2.1 ≤ d.2.2.2.2.1) && inV d.2.2.2.2.2.1 0 99 && inV d.2.2.2.2.2.2 0 2
def con66 : Con := { ps := [.d true yDP], rs := [.d false .bool], pre := fun _ => True, out := fun x => (validV x.1, ()), nw := id }
theorem c66 : CtrOk Try.prog 66 con66.ctr :=
 con_sound (G := ⟨[(82, con82.ctr), (83, con83.ctr), (84, con84.ctr)], [], [], [], []⟩) tab_ok (EnvOk.cons c82 has82 (EnvOk.cons c83 has83 (EnvOk.cons c84 has84 EnvOk.nil))) rfl Try.func66 rfl con66 4398046515207 (by kernel_rfl) (by decide) (by decide) rfl (by decide) rfl (by
  rintro ⟨(a : Dep), _⟩ hpre hwf X hT hG hk hK
  obtain ⟨a0, a1, (a2 : Int), (a3 : Int), (a4 : Int), (a5 : Int), (a6 : Int)⟩ := a
  (simp -implicitDefEqProofs (maxSteps := 4000000) only [go_sem, Bool.not_eq_true', Bool.not_eq_false', Bool.or_eq_true, Bool.or_eq_false_iff, Bool.and_eq_true, Bool.and_eq_false_iff, decide_eq_true_eq, decide_eq_false_iff_not, Classical.not_not, not_or, maxLen, con66, con82, con83, con84, hT, hG, hk, hK, Try.results66] at hwf ⊢); (try simp (disch := decide +kernel) only [drawn, true_and, and_true])
  have f1 : ∀ x y : Int, (x ≥ y) ↔ decide (x < y) = false := fun x y => by rw [decide_eq_false_iff_not]; omega
  have f2 : ∀ x y : Int, (x > y) ↔ decide (x ≤ y) = false := fun x y => by rw [decide_eq_false_iff_not]; omega
  unfold validV
  dsimp only
  rw [f1, f2]
  generalize decide (a2 < a3) = b1
  generalize decide (a3 ≤ a4) = b2
  generalize fltOk a0 = b3
  generalize lettersV a1 3 3 = b4
  generalize inV a2 0 1048576 = b5
  generalize inV a3 0 1048576 = b6
  generalize inV a4 0 1048576 = b7
  cases b3 <;> cases b4 <;> cases b5 <;> cases b6 <;> cases b7 <;> cases b1 <;> cases b2 <;> simp)
/-- The schedule, one departure after another. -/
def valF : Option Flt → List Dep → Int
 | _, [] => 0
 | p, d :: l => if validV d = false then 1 else match p with
   | none => valF (some d.1) l
   | some f => if fltC f d.1 = 0 then 5 else if fltC f d.1 = 1 then 9 else valF (some d.1) l
def validateV (l : List Dep) : Int := if (l.length : Int) > 24 then 2 else valF none l
def prevF (l : List Dep) (i : Nat) : Option Flt := if h : 0 < i ∧ i - 1 < l.length then some (l[i - 1]'h.2).1 else none
def con51 : Con := { ps := [.d false (.sl yDP)], rs := [.d false (.int .i64)], pre := fun _ => True, out := fun x => (validateV x.1, ()), nw := id }
theorem c51 : CtrOk Try.prog 51 con51.ctr :=
 con_sound (G := ⟨[(35, con35.ctr), (66, con66.ctr)], [], [], [], []⟩) tab_ok (EnvOk.cons c35 has35 (EnvOk.cons c66 has66 EnvOk.nil)) rfl Try.func51 rfl con51 2953449373 (by kernel_rfl) (by decide) (by decide) rfl (by decide) rfl (by
  rintro ⟨(l : List Dep), _⟩ hpre hwf X hT hG hk hK
  (simp -implicitDefEqProofs (maxSteps := 4000000) only [go_sem, Bool.not_eq_true', Bool.not_eq_false', Bool.or_eq_true, Bool.or_eq_false_iff, Bool.and_eq_true, Bool.and_eq_false_iff, decide_eq_true_eq, decide_eq_false_iff_not, Classical.not_not, not_or, maxLen, con51, con35, con66, hT, hG, hk, hK, Try.results51] at hwf ⊢); (try simp (disch := decide +kernel) only [drawn, true_and, and_true])
  (repeat' (with_reducible (first | refine And.intro ?_ ?_ | intro _))) <;> (try (first | with_reducible (first | done | assumption | omega | contradiction) | decide))
  · rename_i h
    unfold validateV; rw [if_pos h]
  · have e0 : validateV l = valF none l := by unfold validateV; rw [if_neg (by omega)]
    refine evk_loop ⟨{ i : Nat // i ≤ l.length ∧ valF none l = valF (prevF l i) (l.drop i) }, 1000, fun i => [(0, .one (.sl yDP l false)), (8, .one (.sl yDP l false)), (9, .one (.int .i64 l.length)), (10, .one (.int .i64 i.1))], fun _ => [], fun i => l.length - i.1⟩ ⟨0, by simp, by simp [prevF]⟩ ?_ ?_
    · simp only [go_sem]
      rfl
    · rintro ⟨i, (hi : i ≤ l.length), (he : valF none l = valF (prevF l i) (l.drop i))⟩
      (simp -implicitDefEqProofs (maxSteps := 4000000) only [go_sem, Bool.not_eq_true', Bool.not_eq_false', Bool.or_eq_true, Bool.or_eq_false_iff, Bool.and_eq_true, Bool.and_eq_false_iff, decide_eq_true_eq, decide_eq_false_iff_not, Classical.not_not, not_or, maxLen, con51, con35, con66, hT, hG, hk, hK, Try.results51]); (try simp (disch := decide +kernel) only [drawn, true_and, and_true])
      refine ⟨fun hlt => ?_, fun hge => ?_⟩
      · have hi' : i < l.length := by omega
        have ek : ∀ z, l.getD (i : Int).toNat z = l[i] := fun z => by simp [hi']
        simp only [ek]
        have hp : prevF l (i + 1) = some l[i].1 := by
         unfold prevF
         rw [dif_pos ⟨by omega, by omega⟩]
         rfl
        have hst : valF none l = if validV l[i] = false then 1 else match prevF l i with
         | none => valF (prevF l (i + 1)) (l.drop (i + 1))
         | some f => if fltC f l[i].1 = 0 then 5 else if fltC f l[i].1 = 1 then 9 else valF (prevF l (i + 1)) (l.drop (i + 1)) := by
         rw [he, List.drop_eq_getElem_cons hi', hp]
         generalize prevF l i = q
         cases q <;> rfl
        have hp2 : ∀ z, 0 < i → prevF l i = some (l.getD ((i : Int) - 1).toNat z).1 := fun z h => by
         unfold prevF
         rw [dif_pos ⟨h, by omega⟩]
         have e2 : ((i : Int) - 1).toNat = i - 1 := by omega
         rw [e2]
         simp [show i - 1 < l.length by omega]
        (repeat' (with_reducible (first | refine And.intro ?_ ?_ | intro _))) <;> (try (first | with_reducible (first | done | assumption | omega | contradiction) | decide))
        · rename_i h
          rw [e0, hst, if_pos h]
        · have h1 : validV l[i] = true := by assumption
          have hp0 : prevF l i = none := by unfold prevF; rw [dif_neg (by omega)]
          refine fin_lp ⟨i + 1, by omega, by rw [hst, if_neg (by rw [h1]; simp), hp0]⟩ (by simp only [go_sem]; first | rfl | ((repeat' apply And.intro) <;> first | rfl | assumption | omega)) (by dsimp only; omega)
        · rename_i h
          have h1 : validV l[i] = true := by assumption
          rw [e0, hst, if_neg (by rw [h1]; simp), hp2 _ (by omega)]
          dsimp only
          rw [if_pos h]
        · rename_i h3 h
          have h1 : validV l[i] = true := by assumption
          rw [e0, hst, if_neg (by rw [h1]; simp), hp2 _ (by omega)]
          dsimp only
          rw [if_neg h3, if_pos h]
        · rename_i h3 h
          have h1 : validV l[i] = true := by assumption
          refine fin_lp ⟨i + 1, by omega, by rw [hst, if_neg (by rw [h1]; simp), hp2 _ (by omega)]; dsimp only; rw [if_neg h3, if_neg h]⟩ (by simp only [go_sem]; first | rfl | ((repeat' apply And.intro) <;> first | rfl | assumption | omega)) (by dsimp only; omega)
      · rw [e0, he, List.drop_of_length_le (by omega)]
        rfl)
end Go.Proofs.Ytfaoonbnbdlgaaa

/- The contracts of the functions that the statements about the makeup reach: lists. -/
set_option linter.unusedSimpArgs false
set_option linter.unusedVariables false
set_option maxRecDepth 100000
set_option maxHeartbeats 4000000
namespace Go.Proofs.Ytfaoonbnbdlgaaa
open Go.Ev

theorem flt_eq {a b : Flt} (h : a.1 = b.1 ∧ a.2.1 = b.2.1 ∧ a.2.2.1 = b.2.2.1 ∧ a.2.2.2 = b.2.2.2) : a = b := by
 obtain ⟨a1, a2, a3, a4⟩ := a
 obtain ⟨b1, b2, b3, b4⟩ := b
 obtain ⟨h1, h2, h3, h4⟩ := h
 dsimp only at h1 h2 h3 h4
 rw [h1, h2, h3, h4]
theorem flt_ne {a b : Flt} (h : ¬ a.1 = b.1 ∨ ¬ a.2.1 = b.2.1 ∨ ¬ a.2.2.1 = b.2.2.1 ∨ ¬ a.2.2.2 = b.2.2.2) : ¬ a = b := by
 rintro rfl
 simp at h
def idxF {α : Type} (p : α → Bool) : List α → Int → Int
 | [], _ => -1
 | x :: l, i => if p x = true then i else idxF p l (i + 1)
def con55 : Con := { ps := [.d false (.sl (.int .i64)), .d false (.int .i64)], rs := [.d false (.int .i64)], pre := fun _ => True, out := fun x => (idxF (fun y : Int => decide (x.2.1 = y)) x.1 0, ()), nw := id }
theorem c55 : CtrOk Try.prog 55 con55.ctr :=
 con_sound (G := ⟨[], [], [], [], []⟩) tab_ok EnvOk.nil rfl Try.func55 rfl con55 66483 (by kernel_rfl) (by decide) (by decide) rfl (by decide) rfl (by
  rintro ⟨(l : List Int), (f : Int), _⟩ hpre hwf X hT hG hk hK
  (simp -implicitDefEqProofs (maxSteps := 4000000) only [go_sem, Bool.not_eq_true', Bool.not_eq_false', Bool.or_eq_true, Bool.or_eq_false_iff, Bool.and_eq_true, Bool.and_eq_false_iff, decide_eq_true_eq, decide_eq_false_iff_not, Classical.not_not, not_or, maxLen, con55, hT, hG, hk, hK, Try.results55] at hwf ⊢); (try simp (disch := decide +kernel) only [drawn, true_and, and_true])
  intro hl
  refine evk_loop ⟨{ i : Nat // i ≤ l.length ∧ idxF (fun y : Int => decide (f = y)) l 0 = idxF (fun y : Int => decide (f = y)) (l.drop i) i }, 1000, fun i => [(0, .one (.sl (.int .i64) l false)), (1, .one (.int .i64 f)), (7, .one (.int .i64 l.length)), (8, .one (.int .i64 i.1))], fun _ => [], fun i => l.length - i.1⟩ ⟨0, by simp, by simp⟩ ?_ ?_
  · simp only [go_sem]
    rfl
  · rintro ⟨i, (hi : i ≤ l.length), (he : idxF (fun y : Int => decide (f = y)) l 0 = idxF (fun y : Int => decide (f = y)) (l.drop i) i)⟩
    (simp -implicitDefEqProofs (maxSteps := 4000000) only [go_sem, Bool.not_eq_true', Bool.not_eq_false', Bool.or_eq_true, Bool.or_eq_false_iff, Bool.and_eq_true, Bool.and_eq_false_iff, decide_eq_true_eq, decide_eq_false_iff_not, Classical.not_not, not_or, maxLen, con55, hT, hG, hk, hK, Try.results55]); (try simp (disch := decide +kernel) only [drawn, true_and, and_true])
    refine ⟨fun hlt => ?_, fun hge => ?_⟩
    · have hi' : i < l.length := by omega
      have ek : ∀ z, l.getD (i : Int).toNat z = l[i] := fun z => by simp [hi']
      simp only [ek]
      have hst : idxF (fun y : Int => decide (f = y)) l 0 = if decide (f = l[i]) = true then (i : Int) else idxF (fun y : Int => decide (f = y)) (l.drop (i + 1)) ((i + 1 : Nat) : Int) := by
       rw [he, List.drop_eq_getElem_cons hi', idxF]; rfl
      (repeat' (with_reducible (first | refine And.intro ?_ ?_ | intro _))) <;> (try (first | with_reducible (first | done | assumption | omega | contradiction) | decide))
      · rename_i h
        rw [hst, if_pos (by simp [h])]
      · rename_i h
        refine fin_lp ⟨i + 1, by omega, by rw [hst, if_neg (by simp [h])]⟩ (by simp only [go_sem]; first | rfl | ((repeat' apply And.intro) <;> first | rfl | assumption | omega)) (by dsimp only; omega)
    · rw [he, List.drop_of_length_le (by omega)]
      rfl)
def con46 : Con := { ps := [.d false (.sl (.int .i64)), .d false (.int .i64)], rs := [.d false .bool], pre := fun _ => True, out := fun x => (decide (idxF (fun y : Int => decide (x.2.1 = y)) x.1 0 ≥ 0), ()), nw := id }
theorem c46 : CtrOk Try.prog 46 con46.ctr :=
 con_sound (G := ⟨[(55, con55.ctr)], [], [], [], []⟩) tab_ok (EnvOk.cons c55 has55 EnvOk.nil) rfl Try.func46 rfl con46 19 (by kernel_rfl) (by decide) (by decide) rfl (by decide) rfl (by
  rintro ⟨(l : List Int), (f : Int), _⟩ hpre hwf X hT hG hk hK
  (simp -implicitDefEqProofs (maxSteps := 4000000) only [go_sem, Bool.not_eq_true', Bool.not_eq_false', Bool.or_eq_true, Bool.or_eq_false_iff, Bool.and_eq_true, Bool.and_eq_false_iff, decide_eq_true_eq, decide_eq_false_iff_not, Classical.not_not, not_or, maxLen, con46, con55, hT, hG, hk, hK, Try.results46] at hwf ⊢); (try simp (disch := decide +kernel) only [drawn, true_and, and_true]))
def chV : List All → Flt → Int × Bool
 | [], _ => (0, false)
 | a :: l, f => if a.1 = f then (a.2, true) else chV l f
def con45 : Con := { ps := [.d false (.sl (.pair yFL (.int .i64))), .d true yFL], rs := [.d false (.int .i64), .d false .bool], pre := fun _ => True, out := fun x => ((chV x.1 x.2.1).1, (chV x.1 x.2.1).2, ()), nw := id }
theorem c45 : CtrOk Try.prog 45 con45.ctr :=
 con_sound (G := ⟨[], [], [], [], []⟩) tab_ok EnvOk.nil rfl Try.func45 rfl con45 135099 (by kernel_rfl) (by decide) (by decide) rfl (by decide) rfl (by
  rintro ⟨(l : List All), (f : Flt), _⟩ hpre hwf X hT hG hk hK
  (simp -implicitDefEqProofs (maxSteps := 4000000) only [go_sem, Bool.not_eq_true', Bool.not_eq_false', Bool.or_eq_true, Bool.or_eq_false_iff, Bool.and_eq_true, Bool.and_eq_false_iff, decide_eq_true_eq, decide_eq_false_iff_not, Classical.not_not, not_or, maxLen, con45, hT, hG, hk, hK, Try.results45] at hwf ⊢); (try simp (disch := decide +kernel) only [drawn, true_and, and_true])
  intro hl
  refine evk_loop ⟨{ i : Nat // i ≤ l.length ∧ chV l f = chV (l.drop i) f }, 1000, fun i => [(3, .one (.loc 64 0)), (8, .one (.sl (.pair yFL (.int .i64)) l false)), (9, .one (.int .i64 l.length)), (10, .one (.int .i64 i.1))], fun _ => [(64, .cells 40 (expl yFL f))], fun i => l.length - i.1⟩ ⟨0, by simp, by simp⟩ ?_ ?_
  · simp only [go_sem]
    rfl
  · rintro ⟨i, (hi : i ≤ l.length), (he : chV l f = chV (l.drop i) f)⟩
    (simp -implicitDefEqProofs (maxSteps := 4000000) only [go_sem, Bool.not_eq_true', Bool.not_eq_false', Bool.or_eq_true, Bool.or_eq_false_iff, Bool.and_eq_true, Bool.and_eq_false_iff, decide_eq_true_eq, decide_eq_false_iff_not, Classical.not_not, not_or, maxLen, con45, hT, hG, hk, hK, Try.results45]); (try simp (disch := decide +kernel) only [drawn, true_and, and_true])
    refine ⟨fun hlt => ?_, fun hge => ?_⟩
    · have hi' : i < l.length := by omega
      have ek : ∀ z, l.getD (i : Int).toNat z = l[i] := fun z => by simp [hi']
      simp only [ek]
      have hst : chV l f = if l[i].1 = f then (l[i].2, true) else chV (l.drop (i + 1)) f := by
       rw [he, List.drop_eq_getElem_cons hi', chV]
      (repeat' (with_reducible (first | refine And.intro ?_ ?_ | intro _))) <;> (try (first | with_reducible (first | done | assumption | omega | contradiction) | decide))
      any_goals (have hf : l[i].1 = f := flt_eq (by assumption)
                 rw [hst, if_pos hf])
      have hf : ¬ l[i].1 = f := flt_ne (by assumption)
      refine fin_lp ⟨i + 1, by omega, by rw [hst, if_neg hf]⟩ (by simp only [go_sem]; first | rfl | ((repeat' apply And.intro) <;> first | rfl | assumption | omega)) (by dsimp only; omega)
    · rw [he, List.drop_of_length_le (by omega)]
      exact ⟨rfl, rfl⟩)
def con19 : Con := { ps := [.d false (.sl (.pair yFL (.int .i64))), .d true yFL], rs := [.d false (.int .i64), .d false .bool], pre := fun _ => True, out := fun x => ((chV x.1 x.2.1).1, (chV x.1 x.2.1).2, ()), nw := id }
theorem c19 : CtrOk Try.prog 19 con19.ctr :=
 con_sound (G := ⟨[], [], [], [], []⟩) tab_ok EnvOk.nil rfl Try.func19 rfl con19 525435 (by kernel_rfl) (by decide) (by decide) rfl (by decide) rfl (by
  rintro ⟨(l : List All), (f : Flt), _⟩ hpre hwf X hT hG hk hK
  (simp -implicitDefEqProofs (maxSteps := 4000000) only [go_sem, Bool.not_eq_true', Bool.not_eq_false', Bool.or_eq_true, Bool.or_eq_false_iff, Bool.and_eq_true, Bool.and_eq_false_iff, decide_eq_true_eq, decide_eq_false_iff_not, Classical.not_not, not_or, maxLen, con19, hT, hG, hk, hK, Try.results19] at hwf ⊢); (try simp (disch := decide +kernel) only [drawn, true_and, and_true])
  refine evk_loop ⟨{ i : Nat // i ≤ l.length ∧ chV l f = chV (l.drop i) f }, 1000, fun i => [(0, .one (.sl (.pair yFL (.int .i64)) l false)), (3, .one (.loc 64 0)), (6, .one (.int .i64 i.1))], fun _ => [(64, .cells 40 (expl yFL f))], fun i => l.length - i.1⟩ ⟨0, by simp, by simp⟩ ?_ ?_
  · simp only [go_sem]
    rfl
  · rintro ⟨i, (hi : i ≤ l.length), (he : chV l f = chV (l.drop i) f)⟩
    (simp -implicitDefEqProofs (maxSteps := 4000000) only [go_sem, Bool.not_eq_true', Bool.not_eq_false', Bool.or_eq_true, Bool.or_eq_false_iff, Bool.and_eq_true, Bool.and_eq_false_iff, decide_eq_true_eq, decide_eq_false_iff_not, Classical.not_not, not_or, maxLen, con19, hT, hG, hk, hK, Try.results19]); (try simp (disch := decide +kernel) only [drawn, true_and, and_true])
    intro hl
    refine ⟨fun hlt => ?_, fun hge => ?_⟩
    · have hi' : i < l.length := by omega
      have ek : ∀ z, l.getD (i : Int).toNat z = l[i] := fun z => by simp [hi']
      simp only [ek]
      have hst : chV l f = if l[i].1 = f then (l[i].2, true) else chV (l.drop (i + 1)) f := by
       rw [he, List.drop_eq_getElem_cons hi', chV]
      (repeat' (with_reducible (first | refine And.intro ?_ ?_ | intro _))) <;> (try (first | with_reducible (first | done | assumption | omega | contradiction) | decide))
      any_goals (have hf : l[i].1 = f := flt_eq (by assumption)
                 rw [hst, if_pos hf])
      have hf : ¬ l[i].1 = f := flt_ne (by assumption)
      refine fin_lp ⟨i + 1, by omega, by rw [hst, if_neg hf]⟩ (by simp only [go_sem]; first | rfl | ((repeat' apply And.intro) <;> first | rfl | assumption | omega)) (by dsimp only; omega)
    · rw [he, List.drop_of_length_le (by omega)]
      exact ⟨rfl, rfl⟩)
end Go.Proofs.Ytfaoonbnbdlgaaa

/- The contracts of the functions that the statements about the makeup reach: rows. -/
set_option linter.unusedSimpArgs false
set_option linter.unusedVariables false
set_option maxRecDepth 100000
set_option maxHeartbeats 4000000
namespace Go.Proofs.Ytfaoonbnbdlgaaa
open Go.Ev

/-- The flights that are open at a time. -/
def openV (l : List Dep) (t : Int) : List Flt := (l.filter (fun d => isOpenV d t)).map (·.1)
theorem openV_snoc (l : List Dep) (t : Int) (d : Dep) : openV (l ++ [d]) t = if isOpenV d t = true then openV l t ++ [d.1] else openV l t := by
 unfold openV
 rw [List.filter_append]
 by_cases h : isOpenV d t = true
 · rw [if_pos h]; simp [h]
 · rw [if_neg h]; simp [h]
theorem openV_len (l : List Dep) (t : Int) : (openV l t).length ≤ l.length := by
 unfold openV
 rw [List.length_map]
 exact List.length_filter_le _ _
def con47 : Con := { ps := [.d false (.sl yDP), .d false (.int .i64)], rs := [.o 40 yFL], pre := fun (x : List Dep × Int × Unit) => x.1.length ≤ 1048576, out := fun x => (openV x.1 x.2.1, ()), nw := id }
theorem c47 : CtrOk Try.prog 47 con47.ctr :=
 con_sound (G := ⟨[(64, con64.ctr)], [], [], [], []⟩) tab_ok (EnvOk.cons c64 has64 EnvOk.nil) rfl Try.func47 rfl con47 263283 (by kernel_rfl) (by decide) (by decide) rfl (by decide) rfl (by
  rintro ⟨(l : List Dep), (t : Int), _⟩ hpre hwf X hT hG hk hK
  have hl : l.length ≤ 1048576 := hpre
  (simp -implicitDefEqProofs (maxSteps := 4000000) only [go_sem, Bool.not_eq_true', Bool.not_eq_false', Bool.or_eq_true, Bool.or_eq_false_iff, Bool.and_eq_true, Bool.and_eq_false_iff, decide_eq_true_eq, decide_eq_false_iff_not, Classical.not_not, not_or, maxLen, con47, con64, hT, hG, hk, hK, Try.results47] at hwf ⊢); (try simp (disch := decide +kernel) only [drawn, true_and, and_true])
  refine evk_loop ⟨{ i : Nat // i ≤ l.length }, 1000, fun i => [(0, .one (.sl yDP l false)), (1, .one (.int .i64 t)), (5, .one (.row 64)), (6, .one (.int .i64 i.1))], fun i => [(64, .row 40 yFL (openV (l.take i.1) t))], fun i => l.length - i.1⟩ ⟨0, by simp⟩ ?_ ?_
  · simp only [go_sem]
    exact ⟨rfl, rfl⟩
  · rintro ⟨i, (hi : i ≤ l.length)⟩
    (simp -implicitDefEqProofs (maxSteps := 4000000) only [go_sem, Bool.not_eq_true', Bool.not_eq_false', Bool.or_eq_true, Bool.or_eq_false_iff, Bool.and_eq_true, Bool.and_eq_false_iff, decide_eq_true_eq, decide_eq_false_iff_not, Classical.not_not, not_or, maxLen, con47, con64, hT, hG, hk, hK, Try.results47]); (try simp (disch := decide +kernel) only [drawn, true_and, and_true])
    refine fun _ => ⟨fun hlt => ?_, fun hge => ?_⟩
    · have hi' : i < l.length := by omega
      have ek : ∀ z, l.getD (i : Int).toNat z = l[i] := fun z => by simp [hi']
      simp only [ek]
      have hst : openV (l.take (i + 1)) t = if isOpenV l[i] t = true then openV (l.take i) t ++ [l[i].1] else openV (l.take i) t := by
       rw [List.take_succ_eq_append_getElem hi', openV_snoc]
      have hlen := openV_len (l.take i) t
      rw [List.length_take] at hlen
      (repeat' (with_reducible (first | refine And.intro ?_ ?_ | intro _))) <;> (try (first | with_reducible (first | done | assumption | omega | contradiction) | decide))
      · have h : isOpenV l[i] t = true := by assumption
        refine fin_lp ⟨i + 1, by omega⟩ ?_ ?_
        · simp only [go_sem]
          rw [hst, if_pos h]
          exact ⟨rfl, rfl⟩
        · dsimp only; omega
      · have h : isOpenV l[i] t = false := by assumption
        refine fin_lp ⟨i + 1, by omega⟩ ?_ ?_
        · simp only [go_sem]
          rw [hst, if_neg (by rw [h]; simp)]
          exact ⟨rfl, rfl⟩
        · dsimp only; omega
    · rw [List.take_of_length_le (by omega)])
def planV (l : List Dep) : List Dep := l.filter (fun d => decide (d.state = 0))
theorem planV_snoc (l : List Dep) (d : Dep) : planV (l ++ [d]) = if d.state = 0 then planV l ++ [d] else planV l := by
 unfold planV
 rw [List.filter_append]
 by_cases h : d.state = 0
 · rw [if_pos h]; simp [h]
 · rw [if_neg h]; simp [h]
theorem planV_len (l : List Dep) : (planV l).length ≤ l.length := List.length_filter_le _ _
def con49 : Con := { ps := [.d false (.sl yDP)], rs := [.o 42 yDP], pre := fun (x : List Dep × Unit) => x.1.length ≤ 1048576, out := fun x => (planV x.1, ()), nw := id }
theorem c49 : CtrOk Try.prog 49 con49.ctr :=
 con_sound (G := ⟨[], [], [], [], []⟩) tab_ok EnvOk.nil rfl Try.func49 rfl con49 65821 (by kernel_rfl) (by decide) (by decide) rfl (by decide) rfl (by
  rintro ⟨(l : List Dep), _⟩ hpre hwf X hT hG hk hK
  have hl : l.length ≤ 1048576 := hpre
  (simp -implicitDefEqProofs (maxSteps := 4000000) only [go_sem, Bool.not_eq_true', Bool.not_eq_false', Bool.or_eq_true, Bool.or_eq_false_iff, Bool.and_eq_true, Bool.and_eq_false_iff, decide_eq_true_eq, decide_eq_false_iff_not, Classical.not_not, not_or, maxLen, con49, hT, hG, hk, hK, Try.results49] at hwf ⊢); (try simp (disch := decide +kernel) only [drawn, true_and, and_true])
  refine evk_loop ⟨{ i : Nat // i ≤ l.length }, 1000, fun i => [(0, .one (.sl yDP l false)), (3, .one (.row 64)), (4, .one (.int .i64 i.1))], fun i => [(64, .row 42 yDP (planV (l.take i.1)))], fun i => l.length - i.1⟩ ⟨0, by simp⟩ ?_ ?_
  · simp only [go_sem]
    exact ⟨rfl, rfl⟩
  · rintro ⟨i, (hi : i ≤ l.length)⟩
    (simp -implicitDefEqProofs (maxSteps := 4000000) only [go_sem, Bool.not_eq_true', Bool.not_eq_false', Bool.or_eq_true, Bool.or_eq_false_iff, Bool.and_eq_true, Bool.and_eq_false_iff, decide_eq_true_eq, decide_eq_false_iff_not, Classical.not_not, not_or, maxLen, con49, hT, hG, hk, hK, Try.results49]); (try simp (disch := decide +kernel) only [drawn, true_and, and_true])
    refine fun _ => ⟨fun hlt => ?_, fun hge => ?_⟩
    · have hi' : i < l.length := by omega
      have ek : ∀ z, l.getD (i : Int).toNat z = l[i] := fun z => by simp [hi']
      simp only [ek]
      have hst : planV (l.take (i + 1)) = if l[i].state = 0 then planV (l.take i) ++ [l[i]] else planV (l.take i) := by
       rw [List.take_succ_eq_append_getElem hi', planV_snoc]
      have hlen := planV_len (l.take i)
      rw [List.length_take] at hlen
      (repeat' (with_reducible (first | refine And.intro ?_ ?_ | intro _))) <;> (try (first | with_reducible (first | done | assumption | omega | contradiction) | decide))
      · have h : l[i].state = 0 := by assumption
        refine fin_lp ⟨i + 1, by omega⟩ ?_ ?_
        · simp only [go_sem]
          rw [hst, if_pos h]
          exact ⟨rfl, rfl⟩
        · dsimp only; omega
      · have h : ¬ l[i].state = 0 := by assumption
        refine fin_lp ⟨i + 1, by omega⟩ ?_ ?_
        · simp only [go_sem]
          rw [hst, if_neg h]
          exact ⟨rfl, rfl⟩
        · dsimp only; omega
    · rw [List.take_of_length_le (by omega)])
theorem idxF_spec {α : Type} (p : α → Bool) : ∀ (l : List α) (k : Int), 0 ≤ k → (idxF p l k = -1 ∧ ∀ x ∈ l, p x = false) ∨ ∃ (i : Nat) (h : i < l.length), idxF p l k = k + i ∧ p l[i] = true ∧ ∀ x ∈ l.take i, p x = false
 | [], k, _ => .inl ⟨rfl, by simp⟩
 | x :: l, k, hk => by
   unfold idxF
   by_cases h : p x = true
   · rw [if_pos h]
     exact .inr ⟨0, by simp, by simp, by simpa using h, by simp⟩
   · rw [if_neg h]
     have hx : p x = false := by simpa using h
     rcases idxF_spec p l (k + 1) (by omega) with ⟨h1, h2⟩ | ⟨i, hi, h1, h2, h3⟩
     · exact .inl ⟨h1, fun y hy => by rcases List.mem_cons.1 hy with rfl | hy; exact hx; exact h2 y hy⟩
     · refine .inr ⟨i + 1, by simpa using hi, by rw [h1]; omega, by simpa using h2, fun y hy => ?_⟩
       rw [List.take_succ_cons] at hy
       rcases List.mem_cons.1 hy with rfl | hy
       · exact hx
       · exact h3 y hy
end Go.Proofs.Ytfaoonbnbdlgaaa
