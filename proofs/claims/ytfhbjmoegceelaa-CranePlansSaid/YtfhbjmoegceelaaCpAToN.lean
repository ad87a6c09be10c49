/- The contracts of the functions that read numbers. -/
import Derived.Test.YtfhbjmoegceelaaCpTab
set_option linter.unusedSimpArgs false
set_option linter.unusedVariables false
set_option maxRecDepth 100000
set_option maxHeartbeats 4000000
namespace Go.Proofs.Ytfhbjmoegceelaa
open Go.Ev

theorem has4 : FnHas Try.prog 4 := ⟨⟨_, Try.func4, by kernel_rfl, by kernel_rfl⟩⟩
theorem has5 : FnHas Try.prog 5 := ⟨⟨_, Try.func5, by kernel_rfl, by kernel_rfl⟩⟩
theorem has6 : FnHas Try.prog 6 := ⟨⟨_, Try.func6, by kernel_rfl, by kernel_rfl⟩⟩
theorem has7 : FnHas Try.prog 7 := ⟨⟨_, Try.func7, by kernel_rfl, by kernel_rfl⟩⟩
theorem has8 : FnHas Try.prog 8 := ⟨⟨_, Try.func8, by kernel_rfl, by kernel_rfl⟩⟩
theorem has9 : FnHas Try.prog 9 := ⟨⟨_, Try.func9, by kernel_rfl, by kernel_rfl⟩⟩
theorem has10 : FnHas Try.prog 10 := ⟨⟨_, Try.func10, by kernel_rfl, by kernel_rfl⟩⟩
theorem has11 : FnHas Try.prog 11 := ⟨⟨_, Try.func11, by kernel_rfl, by kernel_rfl⟩⟩
theorem has12 : FnHas Try.prog 12 := ⟨⟨_, Try.func12, by kernel_rfl, by kernel_rfl⟩⟩
theorem has13 : FnHas Try.prog 13 := ⟨⟨_, Try.func13, by kernel_rfl, by kernel_rfl⟩⟩
theorem has14 : FnHas Try.prog 14 := ⟨⟨_, Try.func14, by kernel_rfl, by kernel_rfl⟩⟩
theorem has15 : FnHas Try.prog 15 := ⟨⟨_, Try.func15, by kernel_rfl, by kernel_rfl⟩⟩
theorem has16 : FnHas Try.prog 16 := ⟨⟨_, Try.func16, by kernel_rfl, by kernel_rfl⟩⟩
theorem has17 : FnHas Try.prog 17 := ⟨⟨_, Try.func17, by kernel_rfl, by kernel_rfl⟩⟩
theorem has18 : FnHas Try.prog 18 := ⟨⟨_, Try.func18, by kernel_rfl, by kernel_rfl⟩⟩
theorem has19 : FnHas Try.prog 19 := ⟨⟨_, Try.func19, by kernel_rfl, by kernel_rfl⟩⟩
theorem has20 : FnHas Try.prog 20 := ⟨⟨_, Try.func20, by kernel_rfl, by kernel_rfl⟩⟩
theorem has21 : FnHas Try.prog 21 := ⟨⟨_, Try.func21, by kernel_rfl, by kernel_rfl⟩⟩
theorem has22 : FnHas Try.prog 22 := ⟨⟨_, Try.func22, by kernel_rfl, by kernel_rfl⟩⟩
theorem has23 : FnHas Try.prog 23 := ⟨⟨_, Try.func23, by kernel_rfl, by kernel_rfl⟩⟩
theorem has24 : FnHas Try.prog 24 := ⟨⟨_, Try.func24, by kernel_rfl, by kernel_rfl⟩⟩
theorem has25 : FnHas Try.prog 25 := ⟨⟨_, Try.func25, by kernel_rfl, by kernel_rfl⟩⟩
theorem has26 : FnHas Try.prog 26 := ⟨⟨_, Try.func26, by kernel_rfl, by kernel_rfl⟩⟩
theorem has27 : FnHas Try.prog 27 := ⟨⟨_, Try.func27, by kernel_rfl, by kernel_rfl⟩⟩
theorem has28 : FnHas Try.prog 28 := ⟨⟨_, Try.func28, by kernel_rfl, by kernel_rfl⟩⟩
theorem has29 : FnHas Try.prog 29 := ⟨⟨_, Try.func29, by kernel_rfl, by kernel_rfl⟩⟩
theorem has30 : FnHas Try.prog 30 := ⟨⟨_, Try.func30, by kernel_rfl, by kernel_rfl⟩⟩
theorem has31 : FnHas Try.prog 31 := ⟨⟨_, Try.func31, by kernel_rfl, by kernel_rfl⟩⟩
theorem has32 : FnHas Try.prog 32 := ⟨⟨_, Try.func32, by kernel_rfl, by kernel_rfl⟩⟩
theorem has33 : FnHas Try.prog 33 := ⟨⟨_, Try.func33, by kernel_rfl, by kernel_rfl⟩⟩
theorem has34 : FnHas Try.prog 34 := ⟨⟨_, Try.func34, by kernel_rfl, by kernel_rfl⟩⟩
theorem has36 : FnHas Try.prog 36 := ⟨⟨_, Try.func36, by kernel_rfl, by kernel_rfl⟩⟩
theorem has37 : FnHas Try.prog 37 := ⟨⟨_, Try.func37, by kernel_rfl, by kernel_rfl⟩⟩
theorem has38 : FnHas Try.prog 38 := ⟨⟨_, Try.func38, by kernel_rfl, by kernel_rfl⟩⟩
theorem has41 : FnHas Try.prog 41 := ⟨⟨_, Try.func41, by kernel_rfl, by kernel_rfl⟩⟩
theorem has42 : FnHas Try.prog 42 := ⟨⟨_, Try.func42, by kernel_rfl, by kernel_rfl⟩⟩
theorem has54 : FnHas Try.prog 54 := ⟨⟨_, Try.func54, by kernel_rfl, by kernel_rfl⟩⟩
theorem has60 : FnHas Try.prog 60 := ⟨⟨_, Try.func60, by kernel_rfl, by kernel_rfl⟩⟩


/-- Mod. -/
def goMod (x n : Int) : Int := if n < 1 then 0 else if x.tmod n < 0 then x.tmod n + n else x.tmod n
theorem tmod_bd (x n : Int) (h : 1 ≤ n) : -n < x.tmod n ∧ x.tmod n < n := by
 have h1 := Int.tmod_lt_of_pos x (show 0 < n by omega)
 have h2 := Int.lt_tmod_of_pos x (show 0 < n by omega)
 omega
theorem goMod_bd (x n : Int) (h : 1 ≤ n) : 0 ≤ goMod x n ∧ goMod x n < n := by
 have := tmod_bd x n h
 unfold goMod
 rw [if_neg (by omega)]
 split <;> omega
def con29 : Con := { ps := [.d false (.int .i64), .d false (.int .i64)], rs := [.d false (.int .i64)], pre := fun _ => True, out := fun x => (goMod x.1 x.2.1, ()), nw := id }
theorem c29 : CtrOk Try.prog 29 con29.ctr :=
 con_sound (G := ⟨[], [], [], [], []⟩) tab_ok EnvOk.nil rfl Try.func29 rfl con29 2131 (by kernel_rfl) (by decide) (by decide) rfl (by decide) rfl (by
  rintro ⟨(x : Int), (n : Int), _⟩ hpre hwf X hT hG hk hK
  (simp -implicitDefEqProofs (maxSteps := 4000000) only [go_sem, con29, hT, hG, hk, hK, Try.results29] at hwf ⊢); (try simp (disch := decide +kernel) only [drawn, true_and, and_true])
  unfold goMod
  by_cases hn : n < 1
  · simp [hn]
  · have hb := tmod_bd x n (by omega)
    have hn0 : n ≠ 0 := by omega
    simp only [hn, if_false, not_false_eq_true, true_implies, false_implies, true_and]
    refine ⟨⟨hn0, by omega, by omega⟩, fun h => ⟨⟨by omega, by omega⟩, ?_⟩, fun h => ?_⟩
    · rw [if_pos h]
    · rw [if_neg h])

abbrev Src := List Int × Int
def Src.raw (s : Src) : Int := if s.2 ≥ s.1.length then 0 else s.1.getD s.2.toNat 0
def Src.step (s : Src) : Src := if s.2 ≥ s.1.length then s else (s.1, s.2 + 1)
theorem Src.step_pos (s : Src) (h : 0 ≤ s.2) : 0 ≤ s.step.2 := by unfold Src.step; split; exact h; exact Int.le_trans h (by simp only; omega)
def con30 : Con := { ps := [.p 48 ySR], rs := [.d false (.int .i64)], pre := fun x => 0 ≤ x.1.2, out := fun x => (Src.raw x.1, ()), nw := fun x => (Src.step x.1, ()) }
theorem c30 : CtrOk Try.prog 30 con30.ctr :=
 con_sound (G := ⟨[], [], [], [], []⟩) tab_ok EnvOk.nil rfl Try.func30 rfl con30 4101 (by kernel_rfl) (by decide) (by decide) rfl (by decide) rfl (by
  rintro ⟨⟨(l : List Int), (a : Int)⟩, _⟩ hpre hwf X hT hG hk hK
  (simp -implicitDefEqProofs (maxSteps := 4000000) only [go_sem, con30, hT, hG, hk, hK, Try.results30] at hwf ⊢); (try simp (disch := decide +kernel) only [drawn, true_and, and_true])
  intro hl
  have hpre : 0 ≤ a := hpre
  have hl' := hl
  simp only [maxLen] at hl'
  unfold Src.step Src.raw
  refine ⟨fun h => ?_, fun h => ⟨⟨by omega, by omega⟩, ⟨by omega, by omega⟩, ⟨by omega, by omega⟩, fun _ _ => ?_⟩⟩
  · simp [show (a : Int) ≥ (l.length : Int) from h]
  · simp [show ¬ (a : Int) ≥ (l.length : Int) from h])

def con19 : Con := { ps := [.p 48 ySR, .d false (.int .i64)], rs := [.d false (.int .i64)], pre := fun x => 0 ≤ x.1.2, out := fun x => (goMod (Src.raw x.1) x.2.1, ()), nw := fun x => (Src.step x.1, x.2) }
theorem c19 : CtrOk Try.prog 19 con19.ctr :=
 con_sound (G := ⟨[(30, con30.ctr), (29, con29.ctr)], [], [], [], []⟩) tab_ok (EnvOk.cons c30 has30 (EnvOk.cons c29 has29 EnvOk.nil)) rfl Try.func19 rfl con19 19 (by kernel_rfl) (by decide) (by decide) rfl (by decide) rfl (by
  rintro ⟨⟨(l : List Int), (a : Int)⟩, (n : Int), _⟩ hpre hwf X hT hG hk hK
  (simp -implicitDefEqProofs (maxSteps := 4000000) only [go_sem, con19, con30, con29, hT, hG, hk, hK, Try.results19] at hwf ⊢); (try simp (disch := decide +kernel) only [drawn, true_and, and_true])
  exact hpre)

def con18 : Con := { ps := [.d false (.sl (.int .i64))], rs := [.p 48 ySR], pre := fun x => True, out := fun x => ((x.1.take 2000, 0), ()), nw := id }
theorem c18 : CtrOk Try.prog 18 con18.ctr :=
 con_sound (G := ⟨[], [], [], [], []⟩) tab_ok EnvOk.nil rfl Try.func18 rfl con18 37 (by kernel_rfl) (by decide) (by decide) rfl (by decide) rfl (by
  rintro ⟨(l : List Int), _⟩ hpre hwf X hT hG hk hK
  (simp -implicitDefEqProofs (maxSteps := 4000000) only [go_sem, con18, hT, hG, hk, hK, Try.results18] at hwf ⊢); (try simp (disch := decide +kernel) only [drawn, true_and, and_true])
  refine fun _ => ⟨fun h => ⟨⟨by omega, by omega, by omega⟩, rfl⟩, fun h => ?_⟩
  rw [List.take_of_length_le (by omega)])

def con20 : Con := { ps := [.p 48 ySR, .d false (.int .i64), .d false (.int .i64)], rs := [.d false (.int .i64)], pre := fun x => 0 ≤ x.1.2 ∧ -1000000 ≤ x.2.1 ∧ x.2.1 ≤ x.2.2.1 ∧ x.2.2.1 ≤ 1000000, out := fun x => (x.2.1 + goMod (Src.raw x.1) (x.2.2.1 - x.2.1 + 1), ()), nw := fun x => (Src.step x.1, x.2) }
theorem c20 : CtrOk Try.prog 20 con20.ctr :=
 con_sound (G := ⟨[(19, con19.ctr)], [], [], [], []⟩) tab_ok (EnvOk.cons c19 has19 EnvOk.nil) rfl Try.func20 rfl con20 71 (by kernel_rfl) (by decide) (by decide) rfl (by decide) rfl (by
  rintro ⟨⟨(l : List Int), (a : Int)⟩, (lo : Int), (hi : Int), _⟩ hpre hwf X hT hG hk hK
  (simp -implicitDefEqProofs (maxSteps := 4000000) only [go_sem, con20, con19, hT, hG, hk, hK, Try.results20] at hwf ⊢); (try simp (disch := decide +kernel) only [drawn, true_and, and_true])
  obtain ⟨h1, h2, h3, h4⟩ : 0 ≤ a ∧ -1000000 ≤ lo ∧ lo ≤ hi ∧ hi ≤ 1000000 := hpre
  have := goMod_bd (Src.raw (l, a)) (hi - lo + 1) (by omega)
  refine ⟨⟨by omega, by omega⟩, ⟨by omega, by omega⟩, h1, fun _ => ⟨by omega, by omega⟩⟩)
end Go.Proofs.Ytfhbjmoegceelaa

/- The contracts of the functions that the statements about the crane reach: costs, checks, comparisons. -/
set_option linter.unusedSimpArgs false
set_option linter.unusedVariables false
set_option maxRecDepth 100000
set_option maxHeartbeats 4000000
namespace Go.Proofs.Ytfhbjmoegceelaa
open Go.Ev

abbrev Jobs := List (Int × Int)
def costV (p : Int) : Int := if p < 0 ∨ p > 99 then -1 else 2 * p + 2
def con16 : Con := { ps := [.d false (.int .i64)], rs := [.d false (.int .i64)], pre := fun _ => True, out := fun x => (costV x.1, ()), nw := id }
theorem c16 : CtrOk Try.prog 16 con16.ctr :=
 con_sound (G := ⟨[], [], [], [], []⟩) tab_ok EnvOk.nil rfl Try.func16 rfl con16 261 (by kernel_rfl) (by decide) (by decide) rfl (by decide) rfl (by
  rintro ⟨(p : Int), _⟩ hpre hwf X hT hG hk hK
  (simp -implicitDefEqProofs (maxSteps := 4000000) only [go_sem, con16, hT, hG, hk, hK, Try.results16] at hwf ⊢); (try simp (disch := decide +kernel) only [drawn, true_and, and_true])
  unfold costV
  refine ⟨fun h => by simpa using h, fun h => ?_, fun h => ?_⟩
  · rw [if_pos (by simpa using h)]
  · simp only [Bool.or_eq_false_iff, decide_eq_false_iff_not] at h
    refine ⟨by omega, by omega, ?_⟩
    rw [if_neg (by omega)])
theorem costV_bd (p : Int) : -1 ≤ costV p ∧ costV p ≤ 200 := by
 unfold costV
 split <;> omega
def con38 : Con := { ps := [.d false (.int .i64)], rs := [.d false .bool], pre := fun _ => True, out := fun x => (false, ()), nw := id }
theorem c38 : CtrOk Try.prog 38 con38.ctr :=
 con_sound (G := ⟨[], [], [], [], []⟩) tab_ok EnvOk.nil rfl Try.func38 rfl con38 5 (by kernel_rfl) (by decide) (by decide) rfl (by decide) rfl (by
  rintro ⟨(p : Int), _⟩ hpre hwf X hT hG hk hK
  (simp -implicitDefEqProofs (maxSteps := 4000000) only [go_sem, con38, hT, hG, hk, hK, Try.results38] at hwf ⊢); (try simp (disch := decide +kernel) only [drawn, true_and, and_true]))
def cmpV (a b : Int) : Int := if a < b then -1 else if a > b then 1 else 0
def con33 : Con := { ps := [.d false (.int .i64), .d false (.int .i64)], rs := [.d false (.int .i64)], pre := fun _ => True, out := fun x => (cmpV x.1 x.2.1, ()), nw := id }
theorem c33 : CtrOk Try.prog 33 con33.ctr :=
 con_sound (G := ⟨[(38, con38.ctr)], [], [], [], []⟩) tab_ok (EnvOk.cons c38 has38 EnvOk.nil) rfl Try.func33 rfl con33 604275 (by kernel_rfl) (by decide) (by decide) rfl (by decide) rfl (by
  rintro ⟨(a : Int), (b : Int), _⟩ hpre hwf X hT hG hk hK
  (simp -implicitDefEqProofs (maxSteps := 4000000) only [go_sem, con33, con38, hT, hG, hk, hK, Try.results33] at hwf ⊢); (try simp (disch := decide +kernel) only [drawn, true_and, and_true])
  unfold cmpV
  refine ⟨fun h => h.elim, fun h => h.elim, fun h => by rw [if_pos h], fun h => ⟨fun k => by rw [if_neg h, if_pos k], fun k => by rw [if_neg h, if_neg k]⟩⟩)
def dueOf (js : Jobs) (i : Int) : Int := (js.getD i.toNat (0, 0)).2
def con32 : Con := { ps := [.d false (.int .i64), .d false (.int .i64), .p 22 (.sl (.pair (.int .i64) (.int .i64)))], rs := [.d false (.int .i64)], pre := fun x => 0 ≤ x.1 ∧ x.1 < x.2.2.1.length ∧ 0 ≤ x.2.1 ∧ x.2.1 < x.2.2.1.length, out := fun x => (cmpV (dueOf x.2.2.1 x.1) (dueOf x.2.2.1 x.2.1), ()), nw := id }
theorem c32 : CtrOk Try.prog 32 con32.ctr :=
 con_sound (G := ⟨[(33, con33.ctr)], [], [], [], []⟩) tab_ok (EnvOk.cons c33 has33 EnvOk.nil) rfl Try.func32 rfl con32 39 (by kernel_rfl) (by decide) (by decide) rfl (by decide) rfl (by
  rintro ⟨(a : Int), (b : Int), (js : Jobs), _⟩ hpre hwf X hT hG hk hK
  (simp -implicitDefEqProofs (maxSteps := 4000000) only [go_sem, con32, con33, hT, hG, hk, hK, Try.results32] at hwf ⊢); (try simp (disch := decide +kernel) only [drawn, true_and, and_true])
  obtain ⟨h1, h2, h3, h4⟩ : 0 ≤ a ∧ a < js.length ∧ 0 ≤ b ∧ b < js.length := hpre
  exact ⟨⟨h1, h2⟩, fun _ _ => ⟨⟨h3, h4⟩, fun _ _ _ => rfl⟩⟩)
def okJob (j : Int × Int) : Bool := decide (0 ≤ costV j.1) && decide (0 ≤ j.2) && decide (j.2 ≤ 1048576)
def checkedV (now : Int) (js : Jobs) : Int := if js.length > 200 then 2 else if now < 0 ∨ now > 1048576 then 1 else if js.all okJob then 0 else 1
def con21 : Con := { ps := [.d false (.int .i64), .d false (.sl (.pair (.int .i64) (.int .i64)))], rs := [.d false (.int .i64)], pre := fun _ => True, out := fun x => (checkedV x.1 x.2.1, ()), nw := id }
theorem c21 : CtrOk Try.prog 21 con21.ctr :=
 con_sound (G := ⟨[(16, con16.ctr)], [], [], [], []⟩) tab_ok (EnvOk.cons c16 has16 EnvOk.nil) rfl Try.func21 rfl con21 34360754771 (by kernel_rfl) (by decide) (by decide) rfl (by decide) rfl (by
  rintro ⟨(now : Int), (js : Jobs), _⟩ hpre hwf X hT hG hk hK
  (simp -implicitDefEqProofs (maxSteps := 4000000) only [go_sem, con21, con16, hT, hG, hk, hK, Try.results21] at hwf ⊢); (try simp (disch := decide +kernel) only [drawn, true_and, and_true])
  intro hl
  refine ⟨fun h => by unfold checkedV; rw [if_pos (by omega)], fun h => ⟨fun k => by simpa using k, fun k => ?_, fun k _ => ?_⟩⟩
  · unfold checkedV; rw [if_neg (by omega), if_pos (by simpa using k)]
  · have e : checkedV now js = if js.all okJob then 0 else 1 := by
     simp only [Bool.or_eq_false_iff, decide_eq_false_iff_not] at k
     unfold checkedV; rw [if_neg (by omega), if_neg (by omega)]
    refine evk_loop ⟨{ i : Nat // i ≤ js.length ∧ (js.take i).all okJob = true }, 1000, fun i => [(16, .one (.sl (.pair (.int .i64) (.int .i64)) js false)), (17, .one (.int .i64 js.length)), (18, .one (.int .i64 i.1))], fun _ => [], fun i => js.length - i.1⟩ ⟨0, by simp⟩ ?_ ?_
    · simp only [go_sem]
      rfl
    · rintro ⟨i, hi, hx⟩
      (simp -implicitDefEqProofs (maxSteps := 4000000) only [go_sem, con21, con16, hT, hG, hk, hK, Try.results21]); (try simp (disch := decide +kernel) only [drawn, true_and, and_true])
      rw [e]
      refine ⟨fun hlt => ⟨⟨by omega, hlt⟩, fun _ _ _ => ?_⟩, fun hge => ?_⟩
      · have hi' : i < js.length := by omega
        have ej : js.getD (i : Int).toNat (0, 0) = js[i] := by simp [hi']
        rw [ej]
        have hm : js[i] ∈ js := List.getElem_mem hi'
        have ha : (decide (costV js[i].1 < 0) || decide (js[i].2 < 0) || decide (js[i].2 > 1048576)) = !okJob js[i] := by
         have q : ∀ (a b c : Prop) [Decidable a] [Decidable b] [Decidable c] (a' b' c' : Prop) [Decidable a'] [Decidable b'] [Decidable c'], (a' ↔ ¬a) → (b' ↔ ¬b) → (c' ↔ ¬c) → (decide a || decide b || decide c) = !(decide a' && decide b' && decide c') := by
          intro a b c _ _ _ a' b' c' _ _ _ h1 h2 h3
          simp only [h1, h2, h3, decide_not]
          cases decide a <;> cases decide b <;> cases decide c <;> rfl
         exact q _ _ _ _ _ _ (by omega) (by omega) (by omega)
        rw [ha]
        refine ⟨fun h => by simpa using h, fun h => by rw [h]; rfl, fun h => ?_, fun h => ⟨by omega, fin_lp ⟨i + 1, by omega, ?_⟩ ?_ ?_⟩⟩
        · rw [if_neg]
          intro hall
          rw [List.all_eq_true.1 hall _ hm] at h
          cases h
        · rw [List.take_succ_eq_append_getElem hi', List.all_append, hx]
          simpa using h
        · simp only [go_sem]
          rfl
        · show js.length - (i + 1) < js.length - i
          omega
      · rw [List.take_of_length_le (by omega)] at hx
        rw [if_pos hx])

/-- The finish times. -/
def finV (js : Jobs) : Int → List Int → List Int
 | _, [] => []
 | t, k :: ks => (t + costV (js.getD k.toNat (0, 0)).1) :: finV js (t + costV (js.getD k.toNat (0, 0)).1) ks
def con27 : Con := { ps := [.d false (.int .i64), .d false (.sl (.pair (.int .i64) (.int .i64))), .d false (.sl (.int .i64))], rs := [.o 3 (.int .i64)], pre := fun x => 0 ≤ x.1 ∧ x.1 ≤ 1048576 ∧ x.2.2.1.length ≤ 1048576 ∧ ∀ k ∈ x.2.2.1, 0 ≤ k ∧ k < x.2.1.length, out := fun x => (finV x.2.1 x.1 x.2.2.1, ()), nw := id }
theorem c27 : CtrOk Try.prog 27 con27.ctr :=
 con_sound (G := ⟨[(16, con16.ctr)], [], [], [], []⟩) tab_ok (EnvOk.cons c16 has16 EnvOk.nil) rfl Try.func27 rfl con27 17351 (by kernel_rfl) (by decide) (by decide) rfl (by decide) rfl (by
  rintro ⟨(now : Int), (js : Jobs), (ks : List Int), _⟩ hpre hwf X hT hG hk hK
  (simp -implicitDefEqProofs (maxSteps := 4000000) only [go_sem, con27, con16, hT, hG, hk, hK, Try.results27] at hwf ⊢); (try simp (disch := decide +kernel) only [drawn, true_and, and_true])
  obtain ⟨h1, h2, h3, h4⟩ : 0 ≤ now ∧ now ≤ 1048576 ∧ ks.length ≤ 1048576 ∧ ∀ k ∈ ks, 0 ≤ k ∧ k < js.length := hpre
  refine evk_loop ⟨{ q : Nat × List Int × Int // q.1 ≤ ks.length ∧ finV js now ks = q.2.1 ++ finV js q.2.2 (ks.drop q.1) ∧ q.2.1.length = q.1 ∧ -(q.1 : Int) ≤ q.2.2 ∧ q.2.2 ≤ 1048576 + 200 * q.1 }, 1000,
   fun q => [(1, .one (.sl (.pair (.int .i64) (.int .i64)) js false)), (2, .one (.sl (.int .i64) ks false)), (7, .one (.row 64)), (8, .one (.int .i64 q.1.1)), (9, .one (.int .i64 q.1.2.2))],
   fun q => [(64, .row 3 (.int .i64) q.1.2.1)], fun q => ks.length - q.1.1⟩ ⟨(0, [], now), by simp, by simp, rfl, by simp; omega, by simp; omega⟩ ?_ ?_
  · simp only [go_sem]
    rfl
  · rintro ⟨⟨i, out, t⟩, hi, he, hl, hb1, hb2⟩
    (simp -implicitDefEqProofs (maxSteps := 4000000) only [go_sem, con27, con16, hT, hG, hk, hK, Try.results27]); (try simp (disch := decide +kernel) only [drawn, true_and, and_true])
    intro _
    have hi0 : i ≤ ks.length := hi
    have hb1' : -(i : Int) ≤ t := hb1
    have hb2' : t ≤ 1048576 + 200 * (i : Int) := hb2
    have hl' : out.length = i := hl
    have he' : finV js now ks = out ++ finV js t (ks.drop i) := he
    refine ⟨fun hlt => ?_, fun hge => ?_⟩
    · have hi' : i < ks.length := by omega
      have ek : ks.getD (i : Int).toNat 0 = ks[i] := by simp [hi']
      rw [ek]
      have hk4 := h4 _ (List.getElem_mem hi')
      generalize hc : costV (List.getD js (Int.toNat ks[i]) (0, 0)).1 = c
      have hcb : -1 ≤ c ∧ c ≤ 200 := by rw [← hc]; exact costV_bd _
      refine ⟨⟨by omega, hlt⟩, fun _ _ => ⟨hk4, fun _ _ _ => ⟨⟨by omega, by omega⟩, by omega, ⟨by omega, by omega⟩, fin_lp ⟨(i + 1, out ++ [t + c], t + c), by omega, ?_, ?_, ?_, ?_⟩ ?_ ?_⟩⟩⟩
      · show finV js now ks = (out ++ [t + c]) ++ finV js (t + c) (ks.drop (i + 1))
        rw [he', List.drop_eq_getElem_cons hi', finV, hc]
        simp
      · show (out ++ [t + c]).length = i + 1
        rw [List.length_append, hl']; rfl
      · show -((i + 1 : Nat) : Int) ≤ t + c
        omega
      · show t + c ≤ 1048576 + 200 * ((i + 1 : Nat) : Int)
        omega
      · simp only [go_sem]
        rfl
      · show ks.length - (i + 1) < ks.length - i
        omega
    · rw [he', List.drop_of_length_le (by omega), finV, List.append_nil])
theorem finV_len (js : Jobs) : ∀ (ks : List Int) (t : Int), (finV js t ks).length = ks.length
 | [], _ => rfl
 | k :: ks, t => by rw [finV, List.length_cons, List.length_cons, finV_len js ks]
def firstLate (js : Jobs) : Int → List Int → List Int → Int
 | i, t :: ts, k :: ks => if t > dueOf js k then i else firstLate js (i + 1) ts ks
 | _, _, _ => -1
def con23 : Con := { ps := [.d false (.int .i64), .d false (.sl (.pair (.int .i64) (.int .i64))), .d false (.sl (.int .i64))], rs := [.d false (.int .i64)], pre := fun x => 0 ≤ x.1 ∧ x.1 ≤ 1048576 ∧ x.2.2.1.length ≤ 1048576 ∧ ∀ k ∈ x.2.2.1, 0 ≤ k ∧ k < x.2.1.length, out := fun x => (firstLate x.2.1 0 (finV x.2.1 x.1 x.2.2.1) x.2.2.1, ()), nw := id }
theorem c23 : CtrOk Try.prog 23 con23.ctr :=
 con_sound (G := ⟨[(27, con27.ctr)], [], [], [], []⟩) tab_ok (EnvOk.cons c27 has27 EnvOk.nil) rfl Try.func23 rfl con23 268497351 (by kernel_rfl) (by decide) (by decide) rfl (by decide) rfl (by
  rintro ⟨(now : Int), (js : Jobs), (ks : List Int), _⟩ hpre hwf X hT hG hk hK
  (simp -implicitDefEqProofs (maxSteps := 4000000) only [go_sem, con23, con27, hT, hG, hk, hK, Try.results23] at hwf ⊢); (try simp (disch := decide +kernel) only [drawn, true_and, and_true])
  have h := hpre
  obtain ⟨h1, h2, h3, h4⟩ : 0 ≤ now ∧ now ≤ 1048576 ∧ ks.length ≤ 1048576 ∧ ∀ k ∈ ks, 0 ≤ k ∧ k < js.length := hpre
  refine ⟨⟨h1, h2, h3, h4⟩, fun _ hl => ?_⟩
  have hfl := finV_len js ks now
  generalize hfe : finV js now ks = fs at hfl hl
  refine evk_loop ⟨{ i : Nat // i ≤ fs.length ∧ firstLate js 0 fs ks = firstLate js i (fs.drop i) (ks.drop i) }, 1000,
   fun q => [(1, .one (.sl (.pair (.int .i64) (.int .i64)) js false)), (2, .one (.sl (.int .i64) ks false)), (12, .one (.row 64)), (13, .one (.int .i64 fs.length)), (14, .one (.int .i64 q.1))],
   fun q => [(64, .row 3 (.int .i64) fs)], fun q => fs.length - q.1⟩ ⟨0, by simp, by simp⟩ ?_ ?_
  · simp only [go_sem]
    rfl
  · rintro ⟨i, hi, he⟩
    (simp -implicitDefEqProofs (maxSteps := 4000000) only [go_sem, con23, con27, hT, hG, hk, hK, Try.results23]); (try simp (disch := decide +kernel) only [drawn, true_and, and_true])
    have hi0 : i ≤ fs.length := hi
    refine ⟨fun hlt => ?_, fun hge => ?_⟩
    · have hi' : i < fs.length := by omega
      have hi2 : i < ks.length := by omega
      have ek : ks.getD (i : Int).toNat 0 = ks[i] := by simp [hi2]
      have ef : fs.getD (i : Int).toNat 0 = fs[i] := by simp [hi']
      have hst : firstLate js 0 fs ks = if fs[i] > dueOf js ks[i] then (i : Int) else firstLate js ((i + 1 : Nat) : Int) (fs.drop (i + 1)) (ks.drop (i + 1)) := by
       rw [he, List.drop_eq_getElem_cons hi', List.drop_eq_getElem_cons hi2, firstLate]; rfl
      rw [ek, ef]
      have hk4 := h4 _ (List.getElem_mem hi2)
      refine ⟨⟨by omega, hlt⟩, fun _ => ⟨⟨by omega, hlt⟩, fun _ => ⟨⟨by omega, by omega⟩, fun _ _ => ⟨hk4, fun _ _ => ⟨fun hc => ?_, fun hc => ⟨by omega, fin_lp ⟨i + 1, by omega, ?_⟩ ?_ ?_⟩⟩⟩⟩⟩⟩
      · rw [hfe, hst]
        exact (if_pos hc).symm
      · rw [hst]
        exact if_neg hc
      · simp only [go_sem]
        rfl
      · show fs.length - (i + 1) < fs.length - i
        omega
    · rw [hfe, he, List.drop_of_length_le (by omega)]
      rfl)
end Go.Proofs.Ytfhbjmoegceelaa

/- Stable order by a key: the plain laws. -/
set_option maxHeartbeats 1000000
namespace Go.Cp

abbrev SrtK (key : Int → Int) (l : List Int) : Prop := l.Pairwise (fun a b => key a ≤ key b)
/-- The numbers with a key. -/
def fk (key : Int → Int) (d : Int) (l : List Int) : List Int := l.filter (fun x => decide (key x = d))
theorem fk_app (key : Int → Int) (d : Int) (a b : List Int) : fk key d (a ++ b) = fk key d a ++ fk key d b := List.filter_append ..
theorem fk_mem {key : Int → Int} {d x : Int} {l : List Int} : x ∈ fk key d l ↔ x ∈ l ∧ key x = d := by simp [fk]
theorem fk_cons (key : Int → Int) (d x : Int) (l : List Int) : fk key d (x :: l) = if key x = d then x :: fk key d l else fk key d l := by
 unfold fk
 rw [List.filter_cons]
 by_cases h : key x = d
 · rw [if_pos (decide_eq_true h), if_pos h]
 · rw [if_neg (by simp [h]), if_neg h]
theorem fk_none {key : Int → Int} {d : Int} {l : List Int} (h : ∀ x ∈ l, key x ≠ d) : fk key d l = [] := by
 refine List.filter_eq_nil_iff.2 fun x hx => ?_
 simpa using h x hx

theorem stab_unique {key : Int → Int} : ∀ {a b : List Int}, SrtK key a → SrtK key b → (∀ d, fk key d a = fk key d b) → a = b
 | [], [], _, _, _ => rfl
 | [], y :: b, _, _, h => by
   have := h (key y)
   rw [fk_cons, if_pos rfl] at this
   cases this
 | x :: a, [], _, _, h => by
   have := h (key x)
   rw [fk_cons, if_pos rfl] at this
   cases this
 | x :: a, y :: b, ha, hb, h => by
   obtain ⟨ha1, ha2⟩ := List.pairwise_cons.1 ha
   obtain ⟨hb1, hb2⟩ := List.pairwise_cons.1 hb
   have h1 : key x ≤ key y := by
    have : y ∈ fk key (key y) (x :: a) := by rw [h]; exact fk_mem.2 ⟨List.mem_cons_self, rfl⟩
    rcases List.mem_cons.1 (fk_mem.1 this).1 with e | e
    · rw [e]; exact Int.le_refl _
    · exact ha1 y e
   have h2 : key y ≤ key x := by
    have : x ∈ fk key (key x) (y :: b) := by rw [← h]; exact fk_mem.2 ⟨List.mem_cons_self, rfl⟩
    rcases List.mem_cons.1 (fk_mem.1 this).1 with e | e
    · rw [e]; exact Int.le_refl _
    · exact hb1 x e
   have he : key x = key y := by omega
   have h3 := h (key x)
   rw [fk_cons, if_pos rfl, fk_cons, if_pos he.symm] at h3
   have hxy : x = y := (List.cons.inj h3).1
   subst hxy
   congr 1
   refine stab_unique ha2 hb2 fun d => ?_
   have h4 := h d
   rw [fk_cons, fk_cons] at h4
   by_cases hd : key x = d
   · rw [if_pos hd, if_pos hd] at h4; exact (List.cons.inj h4).2
   · rw [if_neg hd, if_neg hd] at h4; exact h4

/-- Insertion behind all that are not greater. -/
def insV (lt : Int → Int → Bool) (x : Int) : List Int → List Int
 | [] => [x]
 | y :: l => if lt x y then x :: y :: l else y :: insV lt x l
def isort (lt : Int → Int → Bool) (l : List Int) : List Int := l.foldl (fun acc x => insV lt x acc) []
theorem insV_perm (lt : Int → Int → Bool) (x : Int) : ∀ l : List Int, (insV lt x l).Perm (x :: l)
 | [] => List.Perm.refl _
 | y :: l => by
   unfold insV
   split
   · exact List.Perm.refl _
   · exact ((insV_perm lt x l).cons y).trans (List.Perm.swap x y l)
theorem foldl_perm (lt : Int → Int → Bool) : ∀ (l acc : List Int), (l.foldl (fun acc x => insV lt x acc) acc).Perm (acc ++ l)
 | [], acc => by simp
 | x :: l, acc => by
   refine (foldl_perm lt l _).trans ?_
   refine ((insV_perm lt x acc).append_right l).trans ?_
   exact List.perm_middle.symm
theorem isort_perm (lt : Int → Int → Bool) (l : List Int) : (isort lt l).Perm l := by
 have := foldl_perm lt l []
 rwa [List.nil_append] at this
theorem isort_len (lt : Int → Int → Bool) (l : List Int) : (isort lt l).length = l.length := (isort_perm lt l).length_eq
theorem isort_snoc (lt : Int → Int → Bool) (l : List Int) (x : Int) : isort lt (l ++ [x]) = insV lt x (isort lt l) := by simp [isort]
/-- The order by a key. -/
def ltK (key : Int → Int) (a b : Int) : Bool := decide (key a < key b)
theorem insV_srt {key : Int → Int} (x : Int) : ∀ {l : List Int}, SrtK key l → SrtK key (insV (ltK key) x l)
 | [], _ => by simp [insV, SrtK]
 | y :: l, h => by
   obtain ⟨h1, h2⟩ := List.pairwise_cons.1 h
   have ih := insV_srt x h2
   unfold insV
   split
   · rename_i hlt
     simp only [ltK, decide_eq_true_eq] at hlt
     refine List.pairwise_cons.2 ⟨fun z hz => ?_, h⟩
     rcases List.mem_cons.1 hz with rfl | hz
     · omega
     · have := h1 z hz; omega
   · rename_i hlt
     simp only [ltK, decide_eq_true_eq] at hlt
     refine List.pairwise_cons.2 ⟨fun z hz => ?_, ih⟩
     rcases List.mem_cons.1 ((insV_perm _ _ _).mem_iff.1 hz) with rfl | hz
     · omega
     · exact h1 z hz
theorem insV_fk {key : Int → Int} (d x : Int) : ∀ {l : List Int}, SrtK key l → fk key d (insV (ltK key) x l) = fk key d (l ++ [x])
 | [], _ => rfl
 | y :: l, h => by
   obtain ⟨h1, h2⟩ := List.pairwise_cons.1 h
   have ih := insV_fk d x h2
   unfold insV
   split
   · rename_i hlt
     simp only [ltK, decide_eq_true_eq] at hlt
     rw [fk_cons, fk_app]
     by_cases hx : key x = d
     · have e : fk key d (y :: l) = [] := fk_none fun z hz => by
        rcases List.mem_cons.1 hz with rfl | hz
        · omega
        · have := h1 z hz; omega
       rw [if_pos hx, e, List.nil_append, fk_cons, if_pos hx]
       rfl
     · rw [if_neg hx, fk_cons key d x [], if_neg hx]
       show _ = _ ++ []
       rw [List.append_nil]
   · rw [List.cons_append, fk_cons, fk_cons, ih]
theorem foldl_ok {key : Int → Int} : ∀ (l acc : List Int), SrtK key acc → SrtK key (l.foldl (fun acc x => insV (ltK key) x acc) acc) ∧ ∀ d, fk key d (l.foldl (fun acc x => insV (ltK key) x acc) acc) = fk key d (acc ++ l)
 | [], acc, h => ⟨h, fun d => by simp⟩
 | x :: l, acc, h => by
   obtain ⟨g1, g2⟩ := foldl_ok l (insV (ltK key) x acc) (insV_srt x h)
   refine ⟨g1, fun d => ?_⟩
   rw [List.foldl_cons, g2 d, fk_app, insV_fk d x h, fk_app, fk_app, fk_cons key d x l, fk_cons key d x []]
   split <;> simp [fk]
theorem isort_srt (key : Int → Int) (l : List Int) : SrtK key (isort (ltK key) l) := (foldl_ok l [] List.Pairwise.nil).1
theorem isort_fk (key : Int → Int) (d : Int) (l : List Int) : fk key d (isort (ltK key) l) = fk key d l := by
 have := (foldl_ok (key := key) l [] List.Pairwise.nil).2 d
 rwa [List.nil_append] at this
theorem isort_eq {key : Int → Int} {r l : List Int} (h : SrtK key r) (hf : ∀ d, fk key d r = fk key d l) : r = isort (ltK key) l :=
 stab_unique h (isort_srt key l) fun d => by rw [hf, isort_fk]
theorem isort_id {key : Int → Int} {l : List Int} (h : SrtK key l) : isort (ltK key) l = l := (isort_eq h fun _ => rfl).symm
theorem isort_merge {key : Int → Int} {U1 U2 V1 V2 : List Int} (h1 : SrtK key (U1 ++ U2)) (h2 : SrtK key (V1 ++ V2)) (h3 : ∀ x ∈ V1, ∀ y ∈ U2, key x < key y) (h4 : ∀ x ∈ U1, ∀ y ∈ V2, key x ≤ key y) :
 isort (ltK key) (U1 ++ V1) ++ isort (ltK key) (U2 ++ V2) = isort (ltK key) ((U1 ++ U2) ++ (V1 ++ V2)) := by
 obtain ⟨_, _, a1⟩ := List.pairwise_append.1 h1
 obtain ⟨_, _, a2⟩ := List.pairwise_append.1 h2
 refine isort_eq (List.pairwise_append.2 ⟨isort_srt .., isort_srt .., fun x hx y hy => ?_⟩) fun d => ?_
 · rcases List.mem_append.1 ((isort_perm _ _).mem_iff.1 hx) with hx | hx <;> rcases List.mem_append.1 ((isort_perm _ _).mem_iff.1 hy) with hy | hy
   · exact a1 x hx y hy
   · exact h4 x hx y hy
   · have := h3 x hx y hy; omega
   · exact a2 x hx y hy
 · simp only [fk_app, isort_fk]
   have : fk key d V1 ++ fk key d U2 = fk key d U2 ++ fk key d V1 := by
    by_cases hv : fk key d V1 = []
    · rw [hv]; simp
    · obtain ⟨x, hx⟩ := List.exists_mem_of_ne_nil _ hv
      obtain ⟨q1, q2⟩ := fk_mem.1 hx
      have : fk key d U2 = [] := fk_none fun y hy => by have := h3 x q1 y hy; omega
      rw [this]; simp
   simp only [List.append_assoc]
   rw [← List.append_assoc (fk key d V1), this, List.append_assoc]

/-- A part of a list. -/
def seg (l : List Int) (a b : Nat) : List Int := (l.take b).drop a
/-- A list with a part put in order. -/
def sg (key : Int → Int) (l : List Int) (a b : Nat) : List Int := l.take a ++ (isort (ltK key) (seg l a b) ++ l.drop b)
/-- A list with two neighbouring parts exchanged. -/
def rotL (l : List Int) (a m b : Nat) : List Int := l.take a ++ (seg l m b ++ (seg l a m ++ l.drop b))
/-- A list with two parts of n numbers exchanged. -/
def swapB (l : List Int) (a b n : Nat) : List Int := l.take a ++ (seg l b (b + n) ++ (seg l (a + n) b ++ (seg l a (a + n) ++ l.drop (b + n))))
theorem take_seg (l : List Int) {a b : Nat} (h : a ≤ b) : l.take a ++ seg l a b = l.take b := by
 unfold seg
 have := List.take_append_drop a (l.take b)
 rwa [List.take_take, Nat.min_eq_left h] at this
theorem seg_len (l : List Int) {a b : Nat} (h : b ≤ l.length) : (seg l a b).length = b - a := by
 unfold seg; rw [List.length_drop, List.length_take, Nat.min_eq_left h]
theorem seg_split (l : List Int) {a m b : Nat} (h1 : a ≤ m) (h2 : m ≤ b) : seg l a m ++ seg l m b = seg l a b := by
 unfold seg
 have e : l.take m = (l.take b).take m := by rw [List.take_take, Nat.min_eq_left h2]
 rw [e, List.drop_take]
 have := List.take_append_drop (m - a) ((l.take b).drop a)
 rwa [List.drop_drop, show a + (m - a) = m by omega] at this
theorem seg_mid {A X C : List Int} {a b : Nat} (h1 : A.length = a) (h2 : a + X.length = b) : seg (A ++ (X ++ C)) a b = X := by
 subst h1; subst h2
 unfold seg
 rw [← List.append_assoc, ← List.length_append, List.take_left, List.drop_left]
theorem split_row (l : List Int) {a b : Nat} (h : a ≤ b) : l = l.take a ++ (seg l a b ++ l.drop b) := by
 rw [← List.append_assoc, take_seg l h, List.take_append_drop]
theorem seg_at {l : List Int} {a b i : Nat} (hb : b ≤ l.length) (h : a + i < b) : (seg l a b)[i]? = some (l.getD (a + i) 0) := by
 unfold seg
 rw [List.getElem?_drop, List.getElem?_take, if_pos h, List.getD_eq_getElem?_getD, List.getElem?_eq_getElem (by omega)]
 rfl
theorem mem_seg {l : List Int} {a b : Nat} (hb : b ≤ l.length) {x : Int} (h : x ∈ seg l a b) : ∃ i, a ≤ i ∧ i < b ∧ l.getD i 0 = x := by
 obtain ⟨i, hi, e⟩ := List.mem_iff_getElem.1 h
 have hl := seg_len l (a := a) hb
 have := seg_at (i := i) (a := a) hb (by omega)
 rw [List.getElem?_eq_getElem hi, e] at this
 exact ⟨a + i, by omega, by omega, (Option.some.inj this).symm⟩
theorem srt_seg {key : Int → Int} {l : List Int} {a b : Nat} (hb : b ≤ l.length) : SrtK key (seg l a b) ↔ ∀ i j, a ≤ i → i < j → j < b → key (l.getD i 0) ≤ key (l.getD j 0) := by
 have hl := seg_len l (a := a) hb
 have hg : ∀ i (h : i < (seg l a b).length), (seg l a b)[i] = l.getD (a + i) 0 := fun i h => by
  have := seg_at (i := i) (a := a) hb (by omega)
  rw [List.getElem?_eq_getElem h] at this
  exact Option.some.inj this
 refine ⟨fun h i j h1 h2 h3 => ?_, fun h => ?_⟩
 · have := List.pairwise_iff_getElem.1 h (i - a) (j - a) (by omega) (by omega) (by omega)
   rw [hg, hg, show a + (i - a) = i by omega, show a + (j - a) = j by omega] at this
   exact this
 · refine List.pairwise_iff_getElem.2 fun i j hi hj hij => ?_
   rw [hg, hg]
   exact h _ _ (by omega) (by omega) (by omega)
theorem srt_le {key : Int → Int} {l : List Int} {a b : Nat} (hb : b ≤ l.length) (h : SrtK key (seg l a b)) {i j : Nat} (h1 : a ≤ i) (h2 : i ≤ j) (h3 : j < b) : key (l.getD i 0) ≤ key (l.getD j 0) := by
 by_cases e : i = j
 · rw [e]; exact Int.le_refl _
 · exact (srt_seg hb).1 h i j h1 (by omega) h3
/-- Two parts in order, merged at the cut that the search finds. -/
theorem sg_cut {key : Int → Int} {l : List Int} {a s m e b : Nat} (h1 : a ≤ s) (h2 : s ≤ m) (h3 : m ≤ e) (h4 : e ≤ b) (hb : b ≤ l.length) (hu : SrtK key (seg l a m)) (hv : SrtK key (seg l m b))
 (hlo : m < e → s < m → key (l.getD (e - 1) 0) < key (l.getD s 0)) (hhi : a < s → e < b → key (l.getD (s - 1) 0) ≤ key (l.getD e 0)) :
 isort (ltK key) (seg l a s ++ seg l m e) ++ isort (ltK key) (seg l s m ++ seg l e b) = isort (ltK key) (seg l a b) := by
 have e1 := seg_split l h1 h2
 have e2 := seg_split l h3 h4
 rw [← seg_split l (show a ≤ m by omega) (show m ≤ b by omega), ← e1, ← e2]
 refine isort_merge (by rw [e1]; exact hu) (by rw [e2]; exact hv) (fun x hx y hy => ?_) fun x hx y hy => ?_
 · obtain ⟨i, i1, i2, rfl⟩ := mem_seg (by omega) hx
   obtain ⟨j, j1, j2, rfl⟩ := mem_seg (by omega) hy
   have q1 := srt_le hb hv (show m ≤ i by omega) (show i ≤ e - 1 by omega) (by omega)
   have q2 := srt_le (by omega) hu (show a ≤ s by omega) (show s ≤ j by omega) (by omega)
   have := hlo (by omega) (by omega)
   omega
 · obtain ⟨i, i1, i2, rfl⟩ := mem_seg (by omega) hx
   obtain ⟨j, j1, j2, rfl⟩ := mem_seg (by omega) hy
   have q1 := srt_le (by omega) hu (show a ≤ i by omega) (show i ≤ s - 1 by omega) (by omega)
   have q2 := srt_le hb hv (show m ≤ e by omega) (show e ≤ j by omega) (by omega)
   have := hhi (by omega) (by omega)
   omega
end Go.Cp

/- Exchange and rotation of parts of a list: the plain laws. -/
set_option maxHeartbeats 1000000
namespace Go.Cp

theorem seg_nil (l : List Int) (a : Nat) : seg l a a = [] := by
 unfold seg; exact List.drop_of_length_le (by rw [List.length_take]; omega)
theorem drop_at {l : List Int} {b : Nat} (h : b < l.length) : l.drop b = l.getD b 0 :: l.drop (b + 1) := by
 rw [List.drop_eq_getElem_cons h, List.getD_eq_getElem?_getD, List.getElem?_eq_getElem h]; rfl
theorem take_at {l : List Int} {b : Nat} (h : b < l.length) : l.take (b + 1) = l.take b ++ [l.getD b 0] := by
 rw [List.take_succ_eq_append_getElem h, List.getD_eq_getElem?_getD, List.getElem?_eq_getElem h]; rfl
theorem seg_cons {l : List Int} {a b : Nat} (h : a < b) (hb : b ≤ l.length) : seg l a b = l.getD a 0 :: seg l (a + 1) b := by
 have h1 : a < (l.take b).length := by rw [List.length_take]; omega
 unfold seg
 rw [drop_at h1]
 congr 1
 rw [List.getD_eq_getElem?_getD, List.getD_eq_getElem?_getD, List.getElem?_take, if_pos h]
theorem seg_snoc {l : List Int} {a b : Nat} (h : a ≤ b) (hb : b < l.length) : seg l a (b + 1) = seg l a b ++ [l.getD b 0] := by
 unfold seg
 rw [take_at hb, List.drop_append_of_le_length (by rw [List.length_take]; omega)]
theorem seg_one {l : List Int} {a : Nat} (h : a < l.length) : seg l a (a + 1) = [l.getD a 0] := by
 rw [seg_snoc (Nat.le_refl a) h, seg_nil]; rfl
theorem mid_get (P : List Int) (x : Int) (R : List Int) {n : Nat} (h : P.length = n) : (P ++ x :: R).getD n 0 = x := by
 subst h; simp
theorem set_swap (P Q R : List Int) (x y : Int) {i j : Nat} (h1 : P.length = i) (h2 : i + 1 + Q.length = j) : ((P ++ x :: (Q ++ y :: R)).set i y).set j x = P ++ y :: (Q ++ x :: R) := by
 subst h1; subst h2
 rw [List.set_append_right _ _ (Nat.le_refl _), Nat.sub_self, List.set_cons_zero, List.set_append_right _ _ (by omega), show P.length + 1 + Q.length - P.length = Q.length + 1 by omega, List.set_cons_succ,
  List.set_append_right _ _ (Nat.le_refl _), Nat.sub_self, List.set_cons_zero]
/-- One more exchange of the two parts. -/
theorem swapB_form {l : List Int} {a b k : Nat} (h1 : a + k + 1 ≤ b) (h2 : b + k + 1 ≤ l.length) :
 swapB l a b k = (l.take a ++ seg l b (b + k)) ++ l.getD (a + k) 0 :: ((seg l (a + k + 1) b ++ seg l a (a + k)) ++ l.getD (b + k) 0 :: l.drop (b + k + 1)) := by
 unfold swapB
 rw [seg_cons (show a + k < b by omega) (by omega), drop_at (show b + k < l.length by omega)]
 simp only [List.append_assoc, List.cons_append]
theorem swapB_len {l : List Int} {a b k : Nat} (h1 : a + k ≤ b) (h2 : b + k ≤ l.length) : (swapB l a b k).length = l.length := by
 unfold swapB
 have e1 := seg_len l (a := b) (b := b + k) h2
 have e2 := seg_len l (a := a + k) (b := b) (by omega)
 have e3 := seg_len l (a := a) (b := a + k) (by omega)
 simp only [List.length_append, e1, e2, e3, List.length_take, List.length_drop]
 omega
theorem swapB_zero {l : List Int} {a b : Nat} (h : a ≤ b) : swapB l a b 0 = l := by
 unfold swapB
 rw [Nat.add_zero, Nat.add_zero, seg_nil, seg_nil, List.nil_append, List.nil_append, ← split_row l h]
theorem swapB_pre {l : List Int} {a b k : Nat} (h1 : a + k + 1 ≤ b) (h2 : b + k + 1 ≤ l.length) : (l.take a ++ seg l b (b + k)).length = a + k := by
 have e1 := seg_len l (a := b) (b := b + k) (by omega)
 rw [List.length_append, e1, List.length_take]; omega
theorem swapB_mid {l : List Int} {a b k : Nat} (h1 : a + k + 1 ≤ b) (h2 : b + k + 1 ≤ l.length) : a + k + 1 + (seg l (a + k + 1) b ++ seg l a (a + k)).length = b + k := by
 have e2 := seg_len l (a := a + k + 1) (b := b) (by omega)
 have e3 := seg_len l (a := a) (b := a + k) (by omega)
 rw [List.length_append, e2, e3]; omega
theorem swapB_step {l : List Int} {a b k : Nat} (h1 : a + k + 1 ≤ b) (h2 : b + k + 1 ≤ l.length) :
 ((swapB l a b k).set (a + k) (l.getD (b + k) 0)).set (b + k) (l.getD (a + k) 0) = swapB l a b (k + 1) := by
 rw [swapB_form h1 h2, set_swap _ _ _ _ _ (swapB_pre h1 h2) (swapB_mid h1 h2)]
 unfold swapB
 rw [show a + (k + 1) = a + k + 1 by omega, show b + (k + 1) = b + k + 1 by omega, seg_snoc (show b ≤ b + k by omega) (by omega), seg_snoc (show a ≤ a + k by omega) (by omega)]
 simp only [List.append_assoc, List.cons_append, List.nil_append]
theorem swapB_get1 {l : List Int} {a b k : Nat} (h1 : a + k + 1 ≤ b) (h2 : b + k + 1 ≤ l.length) : (swapB l a b k).getD (a + k) 0 = l.getD (a + k) 0 := by
 rw [swapB_form h1 h2, mid_get _ _ _ (swapB_pre h1 h2)]
theorem swapB_get2 {l : List Int} {a b k : Nat} (h1 : a + k + 1 ≤ b) (h2 : b + k + 1 ≤ l.length) : (swapB l a b k).getD (b + k) 0 = l.getD (b + k) 0 := by
 rw [swapB_form h1 h2]
 have e : ∀ (P Q R : List Int) (x y : Int), P ++ x :: (Q ++ y :: R) = (P ++ x :: Q) ++ y :: R := fun P Q R x y => by simp
 rw [e, mid_get]
 have g1 := swapB_pre h1 h2
 have g2 := swapB_mid h1 h2
 rw [List.length_append, List.length_cons, g1]; omega

theorem swapB_app {A U1 U2 V C : List Int} {a b n : Nat} (h1 : A.length = a) (h2 : U1.length = n) (h3 : a + n + U2.length = b) (h4 : V.length = n) :
 swapB (A ++ (U1 ++ (U2 ++ (V ++ C)))) a b n = A ++ (V ++ (U2 ++ (U1 ++ C))) := by
 unfold swapB
 have t : (A ++ (U1 ++ (U2 ++ (V ++ C)))).take a = A := by rw [← h1]; exact List.take_left
 have s1 : seg (A ++ (U1 ++ (U2 ++ (V ++ C)))) a (a + n) = U1 := seg_mid h1 (by omega)
 have s2 : seg (A ++ (U1 ++ (U2 ++ (V ++ C)))) (a + n) b = U2 := by
  rw [← List.append_assoc]; exact seg_mid (by rw [List.length_append]; omega) h3
 have s3 : seg (A ++ (U1 ++ (U2 ++ (V ++ C)))) b (b + n) = V := by
  rw [← List.append_assoc, ← List.append_assoc]; exact seg_mid (by simp only [List.length_append]; omega) (by omega)
 have d : (A ++ (U1 ++ (U2 ++ (V ++ C)))).drop (b + n) = C := by
  rw [← List.append_assoc, ← List.append_assoc, ← List.append_assoc]
  rw [show b + n = (A ++ U1 ++ U2 ++ V).length by simp only [List.length_append]; omega]; exact List.drop_left
 rw [t, s1, s2, s3, d]
theorem rotL_app {A U V C : List Int} {a m b : Nat} (h1 : A.length = a) (h2 : a + U.length = m) (h3 : m + V.length = b) : rotL (A ++ (U ++ (V ++ C))) a m b = A ++ (V ++ (U ++ C)) := by
 unfold rotL
 have t : (A ++ (U ++ (V ++ C))).take a = A := by rw [← h1]; exact List.take_left
 have s1 : seg (A ++ (U ++ (V ++ C))) a m = U := seg_mid h1 h2
 have s2 : seg (A ++ (U ++ (V ++ C))) m b = V := by
  rw [← List.append_assoc]; exact seg_mid (by rw [List.length_append]; omega) h3
 have d : (A ++ (U ++ (V ++ C))).drop b = C := by
  rw [← List.append_assoc, ← List.append_assoc]
  rw [show b = (A ++ U ++ V).length by simp only [List.length_append]; omega]; exact List.drop_left
 rw [t, s1, s2, d]
theorem rotL_len {l : List Int} {a m b : Nat} (h1 : a ≤ m) (h2 : m ≤ b) (hb : b ≤ l.length) : (rotL l a m b).length = l.length := by
 unfold rotL
 have e1 := seg_len l (a := m) (b := b) hb
 have e2 := seg_len l (a := a) (b := m) (by omega)
 simp only [List.length_append, e1, e2, List.length_take, List.length_drop]
 omega
/-- A list cut at four places. -/
theorem cut4 (l : List Int) {a b c d : Nat} (h1 : a ≤ b) (h2 : b ≤ c) (h3 : c ≤ d) (hd : d ≤ l.length) :
 ∃ A U V W C : List Int, l = A ++ (U ++ (V ++ (W ++ C))) ∧ A.length = a ∧ a + U.length = b ∧ b + V.length = c ∧ c + W.length = d := by
 refine ⟨l.take a, seg l a b, seg l b c, seg l c d, l.drop d, ?_, ?_, ?_, ?_, ?_⟩
 · rw [← List.append_assoc, take_seg l h1, ← List.append_assoc, take_seg l h2, ← List.append_assoc, take_seg l h3, List.take_append_drop]
 · rw [List.length_take]; omega
 · rw [seg_len l (by omega)]; omega
 · rw [seg_len l (by omega)]; omega
 · rw [seg_len l (by omega)]; omega
theorem rot_left {l : List Int} {p m j : Nat} (h1 : p + j ≤ m) (h2 : m + j ≤ l.length) : rotL (swapB l p m j) (p + j) m (m + j) = rotL l p m (m + j) := by
 obtain ⟨A, U, V, W, C, rfl, a1, a2, a3, a4⟩ := cut4 l (show p ≤ p + j by omega) h1 (show m ≤ m + j by omega) h2
 rw [swapB_app a1 (by omega) (by omega) (by omega)]
 have e1 : A ++ (W ++ (V ++ (U ++ C))) = (A ++ W) ++ (V ++ (U ++ C)) := by simp
 have e2 : A ++ (U ++ (V ++ (W ++ C))) = A ++ ((U ++ V) ++ (W ++ C)) := by simp
 rw [e1, rotL_app (by rw [List.length_append]; omega) (by omega) (by omega), e2, rotL_app a1 (by rw [List.length_append]; omega) (by omega)]
 simp
theorem rot_right {l : List Int} {p m i j : Nat} (h1 : p + i = m) (h3 : i ≤ j) (h2 : m + j ≤ l.length) : rotL (swapB l p (m + j - i) i) p m (m + j - i) = rotL l p m (m + j) := by
 obtain ⟨A, U, V, W, C, rfl, a1, a2, a3, a4⟩ := cut4 l (show p ≤ m by omega) (show m ≤ m + j - i by omega) (show m + j - i ≤ m + j by omega) h2
 rw [swapB_app a1 (by omega) (by omega) (by omega)]
 have e2 : A ++ (U ++ (V ++ (W ++ C))) = A ++ (U ++ ((V ++ W) ++ C)) := by simp
 rw [rotL_app a1 (by omega) (by omega), e2, rotL_app a1 (by omega) (by rw [List.length_append]; omega)]
 simp
theorem rot_end {l : List Int} {p m i : Nat} (h1 : p + i = m) : swapB l p m i = rotL l p m (m + i) := by
 unfold swapB rotL
 rw [h1, seg_nil, List.nil_append]
theorem rot_none1 {l : List Int} {a b : Nat} (h : a ≤ b) : rotL l a a b = l := by
 unfold rotL; rw [seg_nil, List.nil_append, ← split_row l h]
theorem rot_none2 {l : List Int} {a b : Nat} (h : a ≤ b) : rotL l a b b = l := by
 unfold rotL; rw [seg_nil, List.nil_append, ← split_row l h]
theorem sg_len (key : Int → Int) {l : List Int} {a b : Nat} (h : a ≤ b) (hb : b ≤ l.length) : (sg key l a b).length = l.length := by
 unfold sg
 simp only [List.length_append, isort_len, seg_len l hb, List.length_take, List.length_drop]
 omega
theorem sg_perm (key : Int → Int) {l : List Int} {a b : Nat} (h : a ≤ b) : (sg key l a b).Perm l := by
 have := ((isort_perm (ltK key) (seg l a b)).append_right (l.drop b)).append_left (l.take a)
 rwa [← split_row l h] at this
theorem sg_id {key : Int → Int} {l : List Int} {a b : Nat} (h : a ≤ b) (hs : SrtK key (seg l a b)) : sg key l a b = l := by
 unfold sg; rw [isort_id hs, ← split_row l h]
theorem sg_nil (key : Int → Int) (l : List Int) (a : Nat) : sg key l a a = l := sg_id (Nat.le_refl a) (by rw [seg_nil]; exact List.Pairwise.nil)
theorem sg_one (key : Int → Int) {l : List Int} {a : Nat} : sg key l a (a + 1) = l := by
 refine sg_id (by omega) ?_
 by_cases h : a < l.length
 · rw [seg_one h]; exact List.pairwise_singleton _ _
 · unfold seg; rw [List.drop_of_length_le (by rw [List.length_take]; omega)]; exact List.Pairwise.nil
theorem rotL_perm {l : List Int} {a m b : Nat} (h1 : a ≤ m) (h2 : m ≤ b) : (rotL l a m b).Perm l := by
 have e : l = l.take a ++ (seg l a m ++ (seg l m b ++ l.drop b)) := by
  rw [← List.append_assoc, take_seg l h1, ← List.append_assoc, take_seg l h2, List.take_append_drop]
 conv => rhs; rw [e]
 unfold rotL
 refine List.Perm.append_left _ ?_
 rw [← List.append_assoc, ← List.append_assoc]
 exact List.perm_append_comm.append_right _
/-- THE MERGE's LAST PART: the rotated row, its two halves merged. -/
theorem sym_end {key : Int → Int} {l R R1 : List Int} {a s m e b d : Nat} (h1 : a ≤ s) (h2 : s ≤ m) (h3 : m ≤ e) (h4 : e ≤ b) (hb : b ≤ l.length) (hd : s + e = d + m) (hda : a ≤ d) (hdb : d ≤ b) (hu : SrtK key (seg l a m)) (hv : SrtK key (seg l m b))
 (hlo : m < e → s < m → key (l.getD (e - 1) 0) < key (l.getD s 0)) (hhi : a < s → e < b → key (l.getD (s - 1) 0) ≤ key (l.getD e 0)) (hR : R = rotL l s m e) (hR1 : R1 = sg key R a d) :
 R.length = l.length ∧ R1.length = l.length ∧ R.Perm l ∧ R1.Perm l ∧ s ≤ d ∧ d ≤ e ∧ SrtK key (seg R a s) ∧ SrtK key (seg R s d) ∧ SrtK key (seg R1 d e) ∧ SrtK key (seg R1 e b) ∧
 ((¬ a < s ∨ ¬ s < d) → R1 = R) ∧ sg key R1 d b = sg key l a b ∧ ((¬ d < e ∨ ¬ e < b) → R1 = sg key l a b) := by
 have hsd : s ≤ d := by omega
 have hde : d ≤ e := by omega
 have q1 := isort_srt key
 have hR' := hR
 obtain ⟨A, U1, U2, V1, B, hl, a1, a2, a3, a4⟩ := cut4 l h1 h2 h3 (by omega)
 obtain ⟨V2, C, rfl, a5⟩ : ∃ V2 C : List Int, B = V2 ++ C ∧ e + V2.length = b := ⟨B.take (b - e), B.drop (b - e), (List.take_append_drop _ _).symm, by
  have : l.length = e + B.length := by rw [hl]; simp only [List.length_append]; omega
  rw [List.length_take]; omega⟩
 have sA : seg l a m = U1 ++ U2 := by
  rw [hl, show A ++ (U1 ++ (U2 ++ (V1 ++ (V2 ++ C)))) = A ++ ((U1 ++ U2) ++ (V1 ++ (V2 ++ C))) by simp]
  exact seg_mid a1 (by rw [List.length_append]; omega)
 have sB : seg l m b = V1 ++ V2 := by
  rw [hl, show A ++ (U1 ++ (U2 ++ (V1 ++ (V2 ++ C)))) = (A ++ (U1 ++ U2)) ++ ((V1 ++ V2) ++ C) by simp]
  exact seg_mid (by simp only [List.length_append]; omega) (by simp only [List.length_append]; omega)
 have hcut := sg_cut h1 h2 h3 h4 hb hu hv hlo hhi
 have s1 : seg l a s = U1 := by rw [hl]; exact seg_mid a1 a2
 have s2 : seg l s m = U2 := by
  rw [hl, ← List.append_assoc]; exact seg_mid (by simp only [List.length_append]; omega) a3
 have s3 : seg l m e = V1 := by
  rw [hl, ← List.append_assoc, ← List.append_assoc]; exact seg_mid (by simp only [List.length_append]; omega) a4
 have s4 : seg l e b = V2 := by
  rw [hl, ← List.append_assoc, ← List.append_assoc, ← List.append_assoc]; exact seg_mid (by simp only [List.length_append]; omega) a5
 have s5 : seg l a b = (U1 ++ U2) ++ (V1 ++ V2) := by rw [← seg_split l (show a ≤ m by omega) (show m ≤ b by omega), sA, sB]
 rw [s1, s2, s3, s4, s5] at hcut
 rw [sA] at hu
 rw [sB] at hv
 have hRe : R = A ++ (U1 ++ (V1 ++ (U2 ++ (V2 ++ C)))) := by
  rw [hR, hl, ← List.append_assoc, rotL_app (by rw [List.length_append]; omega) a3 a4, List.append_assoc]
 have rl : R.length = l.length := by rw [hR]; exact rotL_len h2 h3 (by omega)
 have hR1e : R1 = A ++ (isort (ltK key) (U1 ++ V1) ++ (U2 ++ (V2 ++ C))) := by
  rw [hR1]
  unfold sg
  have e1 : R = A ++ ((U1 ++ V1) ++ (U2 ++ (V2 ++ C))) := by rw [hRe]; simp
  have e2 : seg R a d = U1 ++ V1 := by rw [e1]; exact seg_mid a1 (by rw [List.length_append]; omega)
  have e3 : R.take a = A := by rw [e1, ← a1]; exact List.take_left
  have e4 : R.drop d = U2 ++ (V2 ++ C) := by
   rw [e1, ← List.append_assoc, show d = (A ++ (U1 ++ V1)).length by simp only [List.length_append]; omega]; exact List.drop_left
  rw [e2, e3, e4]
 have il : (isort (ltK key) (U1 ++ V1)).length = d - a := by rw [isort_len, List.length_append]; omega
 have t1 : seg R1 d e = U2 := by
  rw [hR1e, ← List.append_assoc]; exact seg_mid (by rw [List.length_append, il]; omega) (by omega)
 have t2 : seg R1 e b = V2 := by
  rw [hR1e, ← List.append_assoc, ← List.append_assoc]; exact seg_mid (by simp only [List.length_append, il]; omega) a5
 have fin : sg key R1 d b = sg key l a b := by
  have e1 : R1 = (A ++ isort (ltK key) (U1 ++ V1)) ++ ((U2 ++ V2) ++ C) := by rw [hR1e]; simp
  have eA : (A ++ isort (ltK key) (U1 ++ V1)).length = d := by rw [List.length_append, il]; omega
  have x1 : seg R1 d b = U2 ++ V2 := by rw [e1]; exact seg_mid eA (by rw [List.length_append]; omega)
  have x2 : R1.take d = A ++ isort (ltK key) (U1 ++ V1) := by rw [e1, ← eA]; exact List.take_left
  have x3 : R1.drop b = C := by
   rw [e1, ← List.append_assoc, show b = ((A ++ isort (ltK key) (U1 ++ V1)) ++ (U2 ++ V2)).length by simp only [List.length_append, il]; omega]; exact List.drop_left
  have y1 : l.take a = A := by rw [hl, ← a1]; exact List.take_left
  have y2 : l.drop b = C := by
   rw [hl, ← List.append_assoc, ← List.append_assoc, ← List.append_assoc, ← List.append_assoc, show b = (A ++ U1 ++ U2 ++ V1 ++ V2).length by simp only [List.length_append]; omega]; exact List.drop_left
  unfold sg
  rw [x1, x2, x3, y1, y2, s5, ← hcut]
  simp
 obtain ⟨p1, p2, _⟩ := List.pairwise_append.1 hu
 obtain ⟨p3, p4, _⟩ := List.pairwise_append.1 hv
 have r1 : seg R a s = U1 := by rw [hRe]; exact seg_mid a1 a2
 have r2 : seg R s d = V1 := by
  rw [hRe, ← List.append_assoc]; exact seg_mid (by simp only [List.length_append]; omega) (by omega)
 have hpR : R.Perm l := by rw [hR]; exact rotL_perm h2 h3
 have hpR1 : R1.Perm l := by rw [hR1]; exact (sg_perm key hda).trans hpR
 refine ⟨rl, by rw [hpR1.length_eq], hpR, hpR1, hsd, hde, by rw [r1]; exact p1, by rw [r2]; exact p3, by rw [t1]; exact p2, by rw [t2]; exact p4, fun h => ?_, fin, fun h => ?_⟩
 · rw [hR1]
   refine sg_id hda ?_
   rw [← seg_split R h1 hsd, r1, r2]
   rcases h with h | h
   · have : U1 = [] := List.eq_nil_of_length_eq_zero (by omega)
     rw [this]; exact p3
   · have : V1 = [] := List.eq_nil_of_length_eq_zero (by omega)
     rw [this, List.append_nil]; exact p1
 · rw [← fin]
   refine (sg_id hdb ?_).symm
   rw [← seg_split R1 hde h4, t1, t2]
   rcases h with h | h
   · have : U2 = [] := List.eq_nil_of_length_eq_zero (by omega)
     rw [this]; exact p4
   · have : V2 = [] := List.eq_nil_of_length_eq_zero (by omega)
     rw [this, List.append_nil]; exact p2
end Go.Cp
