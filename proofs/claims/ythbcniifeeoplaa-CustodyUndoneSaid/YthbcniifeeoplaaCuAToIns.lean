/- The contracts of the functions that the statements about custody reach: reading numbers, sets, gates. -/
import Derived.Test.YthbcniifeeoplaaCuTab
import Derived.Test.YthbcniifeeoplaaProg
import Derived.WalkKit
import Derived.Lib.Walk
import Derived.Lib.SliceRun
import Derived.Lib.JoinLaws
import Derived.Lib.AppendZeros
import Derived.Lib.AppendZerosOnto
import Derived.Lib.Overlaps
import Derived.Laws.Externs
import Derived.Laws.CopyRow
import Derived.Laws.AppendOwn
import Derived.Shelf.RegionOpenPlain
set_option linter.unusedSimpArgs false
set_option linter.unusedVariables false
set_option maxRecDepth 100000
set_option maxHeartbeats 4000000
namespace Go.Proofs.Ythbcniifeeoplaa
open Go.Ev

theorem has8 : FnHas Try.prog 8 := ⟨⟨_, Try.func8, by kernel_rfl, by kernel_rfl⟩⟩
theorem has9 : FnHas Try.prog 9 := ⟨⟨_, Try.func9, by kernel_rfl, by kernel_rfl⟩⟩
theorem has10 : FnHas Try.prog 10 := ⟨⟨_, Try.func10, by kernel_rfl, by kernel_rfl⟩⟩
theorem has11 : FnHas Try.prog 11 := ⟨⟨_, Try.func11, by kernel_rfl, by kernel_rfl⟩⟩
theorem has13 : FnHas Try.prog 13 := ⟨⟨_, Try.func13, by kernel_rfl, by kernel_rfl⟩⟩
theorem has14 : FnHas Try.prog 14 := ⟨⟨_, Try.func14, by kernel_rfl, by kernel_rfl⟩⟩
theorem has15 : FnHas Try.prog 15 := ⟨⟨_, Try.func15, by kernel_rfl, by kernel_rfl⟩⟩
theorem has16 : FnHas Try.prog 16 := ⟨⟨_, Try.func16, by kernel_rfl, by kernel_rfl⟩⟩
theorem has17 : FnHas Try.prog 17 := ⟨⟨_, Try.func17, by kernel_rfl, by kernel_rfl⟩⟩
theorem has23 : FnHas Try.prog 23 := ⟨⟨_, Try.func23, by kernel_rfl, by kernel_rfl⟩⟩
theorem has29 : FnHas Try.prog 29 := ⟨⟨_, Try.func29, by kernel_rfl, by kernel_rfl⟩⟩
theorem has30 : FnHas Try.prog 30 := ⟨⟨_, Try.func30, by kernel_rfl, by kernel_rfl⟩⟩
theorem has31 : FnHas Try.prog 31 := ⟨⟨_, Try.func31, by kernel_rfl, by kernel_rfl⟩⟩
theorem has32 : FnHas Try.prog 32 := ⟨⟨_, Try.func32, by kernel_rfl, by kernel_rfl⟩⟩
theorem has33 : FnHas Try.prog 33 := ⟨⟨_, Try.func33, by kernel_rfl, by kernel_rfl⟩⟩
theorem has39 : FnHas Try.prog 39 := ⟨⟨_, Try.func39, by kernel_rfl, by kernel_rfl⟩⟩
theorem has47 : FnHas Try.prog 47 := ⟨⟨_, Try.func47, by kernel_rfl, by kernel_rfl⟩⟩
theorem has48 : FnHas Try.prog 48 := ⟨⟨_, Try.func48, by kernel_rfl, by kernel_rfl⟩⟩
/-- Mod. -/
def goMod (x n : Int) : Int := if n < 1 then 0 else if x.tmod n < 0 then x.tmod n + n else x.tmod n
def con13 : Con := { ps := [.d false (.int .i64), .d false (.int .i64)], rs := [.d false (.int .i64)], pre := fun _ => True, out := fun x => (goMod x.1 x.2.1, ()), nw := id }
theorem tmod_bd (x n : Int) (h : 1 ≤ n) : -n < x.tmod n ∧ x.tmod n < n := by
 have h1 := Int.tmod_lt_of_pos x (show 0 < n by omega)
 have h2 := Int.lt_tmod_of_pos x (show 0 < n by omega)
 omega
theorem c13 : CtrOk Try.prog 13 con13.ctr :=
 con_sound (G := ⟨[], [], [], [], []⟩) tab_ok EnvOk.nil rfl Try.func13 rfl con13 2131 (by kernel_rfl) (by decide) (by decide) rfl (by decide) rfl (by
  rintro ⟨(x : Int), (n : Int), _⟩ hpre hwf X hT hG hk hK
  (simp -implicitDefEqProofs (maxSteps := 4000000) only [go_sem, con13, hT, hG, hk, hK, Try.results13] at hwf ⊢); (try simp (disch := decide +kernel) only [drawn, true_and, and_true])
  unfold goMod
  by_cases hn : n < 1
  · simp [hn]
  · have hb := tmod_bd x n (by omega)
    have hn0 : n ≠ 0 := by omega
    simp only [hn, if_false, not_false_eq_true, true_implies, false_implies, true_and]
    refine ⟨⟨hn0, by omega, by omega⟩, fun h => ⟨⟨by omega, by omega⟩, ?_⟩, fun h => ?_⟩
    · rw [if_pos h]
    · rw [if_neg h])

/-- In. -/
def con14 : Con := { ps := [.d false (.sl (.int .i64)), .d false (.int .i64)], rs := [.d false .bool], pre := fun _ => True, out := fun x => (decide (x.2.1 ∈ x.1), ()), nw := id }
theorem c14 : CtrOk Try.prog 14 con14.ctr :=
 con_sound (G := ⟨[], [], [], [], []⟩) tab_ok EnvOk.nil rfl Try.func14 rfl con14 131635 (by kernel_rfl) (by decide) (by decide) rfl (by decide) rfl (by
  rintro ⟨(l : List Int), (x : Int), _⟩ hpre hwf X hT hG hk hK
  (simp -implicitDefEqProofs (maxSteps := 4000000) only [go_sem, con14, hT, hG, hk, hK, Try.results14] at hwf ⊢); (try simp (disch := decide +kernel) only [drawn, true_and, and_true])
  refine evk_loop ⟨{ i : Nat // i ≤ l.length ∧ x ∉ l.take i }, 1000, fun i => [(0, .one (.sl (.int .i64) l false)), (1, .one (.int .i64 x)), (5, .one (.int .i64 i.1))], fun _ => [], fun i => l.length - i.1⟩ ⟨0, by simp⟩ ?_ ?_
  · simp only [go_sem]
    rfl
  · rintro ⟨i, hi, hx⟩
    (simp -implicitDefEqProofs (maxSteps := 4000000) only [go_sem, con14, hT, hG, hk, hK, Try.results14]); (try simp (disch := decide +kernel) only [drawn, true_and, and_true])
    intro hl
    refine ⟨fun hlt => ⟨⟨by omega, hlt⟩, fun _ _ => ⟨fun he => ?_, fun he => ⟨by have := hwf.1.1; simp only [maxLen] at this; omega, ?_⟩⟩⟩, fun hge => ?_⟩
    · have : x ∈ l := by
       have hi' : i < l.length := by omega
       rw [← he]; simp [hi']
      simp [this]
    · refine fin_lp ⟨i + 1, by omega, ?_⟩ ?_ ?_
      · have hi' : i < l.length := by omega
        rw [List.take_succ_eq_append_getElem hi']
        simp [hi'] at he
        simp only [List.mem_append, List.mem_singleton, not_or]
        exact ⟨hx, fun h => he h.symm⟩
      · simp only [go_sem]
        rfl
      · show l.length - (i + 1) < l.length - i
        omega
    · rw [List.take_of_length_le (by omega)] at hx
      simp [hx])
end Go.Proofs.Ythbcniifeeoplaa

/- The contracts of the functions that the statements about custody reach, continued. -/
set_option linter.unusedSimpArgs false
set_option linter.unusedVariables false
set_option maxRecDepth 100000
set_option maxHeartbeats 4000000
namespace Go.Proofs.Ythbcniifeeoplaa
open Go.Ev

abbrev Src := List Int × Int
def Src.raw (s : Src) : Int := if s.2 ≥ s.1.length then 0 else s.1.getD s.2.toNat 0
def Src.step (s : Src) : Src := if s.2 ≥ s.1.length then s else (s.1, s.2 + 1)
def con29 : Con := { ps := [.p 58 ySR], rs := [.d false (.int .i64)], pre := fun x => 0 ≤ x.1.2, out := fun x => (Src.raw x.1, ()), nw := fun x => (Src.step x.1, ()) }
theorem c29 : CtrOk Try.prog 29 con29.ctr :=
 con_sound (G := ⟨[], [], [], [], []⟩) tab_ok EnvOk.nil rfl Try.func29 rfl con29 4101 (by kernel_rfl) (by decide) (by decide) rfl (by decide) rfl (by
  rintro ⟨⟨(l : List Int), (a : Int)⟩, _⟩ hpre hwf X hT hG hk hK
  (simp -implicitDefEqProofs (maxSteps := 4000000) only [go_sem, con29, hT, hG, hk, hK, Try.results29] at hwf ⊢); (try simp (disch := decide +kernel) only [drawn, true_and, and_true])
  intro hl
  have hpre : 0 ≤ a := hpre
  have hl' := hl
  simp only [maxLen] at hl'
  unfold Src.step Src.raw
  refine ⟨fun h => ?_, fun h => ⟨⟨by omega, by omega⟩, ⟨by omega, by omega⟩, ⟨by omega, by omega⟩, fun _ _ => ?_⟩⟩
  · simp [show (a : Int) ≥ (l.length : Int) from h]
  · simp [show ¬ (a : Int) ≥ (l.length : Int) from h])

def con10 : Con := { ps := [.p 58 ySR, .d false (.int .i64)], rs := [.d false (.int .i64)], pre := fun x => 0 ≤ x.1.2, out := fun x => (goMod (Src.raw x.1) x.2.1, ()), nw := fun x => (Src.step x.1, x.2) }
theorem c10 : CtrOk Try.prog 10 con10.ctr :=
 con_sound (G := ⟨[(29, con29.ctr), (13, con13.ctr)], [], [], [], []⟩) tab_ok (EnvOk.cons c29 has29 (EnvOk.cons c13 has13 EnvOk.nil)) rfl Try.func10 rfl con10 19 (by kernel_rfl) (by decide) (by decide) rfl (by decide) rfl (by
  rintro ⟨⟨(l : List Int), (a : Int)⟩, (n : Int), _⟩ hpre hwf X hT hG hk hK
  (simp -implicitDefEqProofs (maxSteps := 4000000) only [go_sem, con10, con29, con13, hT, hG, hk, hK, Try.results10] at hwf ⊢); (try simp (disch := decide +kernel) only [drawn, true_and, and_true])
  exact hpre)

def con9 : Con := { ps := [.d false (.sl (.int .i64))], rs := [.p 58 ySR], pre := fun x => True, out := fun x => ((x.1.take 2000, 0), ()), nw := id }
theorem c9 : CtrOk Try.prog 9 con9.ctr :=
 con_sound (G := ⟨[], [], [], [], []⟩) tab_ok EnvOk.nil rfl Try.func9 rfl con9 37 (by kernel_rfl) (by decide) (by decide) rfl (by decide) rfl (by
  rintro ⟨(l : List Int), _⟩ hpre hwf X hT hG hk hK
  (simp -implicitDefEqProofs (maxSteps := 4000000) only [go_sem, con9, hT, hG, hk, hK, Try.results9] at hwf ⊢); (try simp (disch := decide +kernel) only [drawn, true_and, and_true])
  refine fun _ => ⟨fun h => ⟨⟨by omega, by omega, by omega⟩, rfl⟩, fun h => ?_⟩
  rw [List.take_of_length_le (by omega)])

def setStep (m : List (Int × Bool)) (x : Int) : List (Int × Bool) := mset (kt := .int .i64) m x true
def setOf (l : List Int) : List (Int × Bool) := l.foldl setStep []
theorem setOf_get (l : List Int) (x : Int) : mget (kt := .int .i64) (setOf l) x = if x ∈ l then some true else none := by
 have key : ∀ (l : List Int) (m : List (Int × Bool)), mget (kt := .int .i64) (l.foldl setStep m) x = if x ∈ l then some true else mget (kt := .int .i64) m x := by
  intro l
  induction l with
  | nil => intro m; simp
  | cons y l ih =>
    intro m
    rw [List.foldl_cons, ih]
    have hs : ∀ m : List (Int × Bool), mget (kt := .int .i64) (setStep m y) x = if x = y then some true else mget (kt := .int .i64) m x := by
     intro m
     unfold setStep
     induction m with
     | nil => simp [mset, mget, keyEq]
     | cons p m ih =>
       obtain ⟨k, v⟩ := p
       simp only [mset, keyEq, decide_eq_true_eq]
       by_cases h1 : y = k
       · subst h1
         simp only [if_true, mget, keyEq, decide_eq_true_eq]
         by_cases h2 : x = y <;> simp [h2]
       · simp only [if_neg h1, mget, keyEq, decide_eq_true_eq, ih]
         by_cases h2 : x = k
         · subst h2; simp [Ne.symm h1]
         · simp [h2]
    rw [hs]
    by_cases h : x ∈ l
    · simp [h]
    · by_cases h2 : x = y <;> simp [h, h2]
 rw [setOf, key]
 simp [mget]

def con30 : Con := { ps := [.d false (.sl (.int .i64))], rs := [.mp (.int .i64) .bool false false], pre := fun x => True, out := fun x => (setOf x.1, ()), nw := id }
theorem c30 : CtrOk Try.prog 30 con30.ctr :=
 con_sound (G := ⟨[], [], [], [], []⟩) tab_ok EnvOk.nil rfl Try.func30 rfl con30 1965 (by kernel_rfl) (by decide) (by decide) rfl (by decide) rfl (by
  rintro ⟨(l : List Int), _⟩ hpre hwf X hT hG hk hK
  (simp -implicitDefEqProofs (maxSteps := 4000000) only [go_sem, con30, hT, hG, hk, hK, Try.results30] at hwf ⊢); (try simp (disch := decide +kernel) only [drawn, true_and, and_true])
  intro hl
  refine evk_loop ⟨{ i : Nat // i ≤ l.length }, 1000, fun i => [(3, .one (.map 64)), (7, .one (.sl (.int .i64) l false)), (8, .one (.int .i64 l.length)), (9, .one (.int .i64 i.1))], fun i => [(64, .mapb (.int .i64) .bool false false (setOf (l.take i.1)))], fun i => l.length - i.1⟩ ⟨0, by simp⟩ ?_ ?_
  · simp only [go_sem]
    exact ⟨rfl, rfl⟩
  · rintro ⟨i, hi⟩
    (simp -implicitDefEqProofs (maxSteps := 4000000) only [go_sem, con30, hT, hG, hk, hK, Try.results30]); (try simp (disch := decide +kernel) only [drawn, true_and, and_true])
    refine ⟨fun hlt => ⟨⟨by omega, hlt⟩, fun _ _ => ⟨by simp only [maxLen] at hl; omega, fin_lp ⟨i + 1, by omega⟩ ?_ ?_⟩⟩, fun hge => by rw [List.take_of_length_le (by omega)]⟩
    · simp only [go_sem]
      have hi' : i < l.length := by omega
      rw [List.take_succ_eq_append_getElem hi', setOf, setOf, List.foldl_append]
      simp [setStep, hi']
    · show l.length - (i + 1) < l.length - i
      omega)

abbrev Votes := Int × Int × List Int × List Int
def openV (v : Votes) : Int × Bool := if v.1 ≠ v.2.1 ∨ v.1 < 1 ∨ v.1 > 40 ∨ v.1 ∉ v.2.2.1 ∨ v.1 ∉ v.2.2.2 then (0, false) else (v.1, true)
def con11 : Con := { ps := [.d true (.pair (.int .i64) (.pair (.int .i64) (.pair (.sl (.int .i64)) (.sl (.int .i64)))))], rs := [.d false (.int .i64), .d false .bool], pre := fun x => True, out := fun x => ((openV x.1).1, (openV x.1).2, ()), nw := id }
theorem c11 : CtrOk Try.prog 11 con11.ctr :=
 con_sound (G := ⟨[(30, con30.ctr)], [], [], [], []⟩) tab_ok (EnvOk.cons c30 has30 EnvOk.nil) rfl Try.func11 rfl con11 274877907071 (by kernel_rfl) (by decide) (by decide) rfl (by decide) rfl (by
  rintro ⟨⟨(a : Int), (b : Int), (c : List Int), (d : List Int)⟩, _⟩ hpre hwf X hT hG hk hK
  (simp -implicitDefEqProofs (maxSteps := 4000000) only [go_sem, con11, con30, hT, hG, hk, hK, Try.results11] at hwf ⊢); (try simp (disch := decide +kernel) only [drawn, true_and, and_true])
  simp only [setOf_get, openV]
  clear hwf hpre hT hG hk hK
  by_cases h1 : a = b
  · subst h1
    by_cases h2 : a < 1 <;> by_cases h3 : a > 40 <;> by_cases h4 : a ∈ c <;> by_cases h5 : a ∈ d <;> simp [h2, h3, h4, h5]
  · simp [h1])
/-- Clone. -/
def con33 : Con := { ps := [.d false (.sl (.pair (.int .i64) (.int .i64)))], rs := [.o 65 (.pair (.int .i64) (.int .i64))], pre := fun x => x.1.length ≤ 1048576, out := fun x => (x.1, ()), nw := id }
theorem c33 : CtrOk Try.prog 33 con33.ctr :=
 con_sound (G := ⟨[], [], [], [], []⟩) tab_ok EnvOk.nil rfl Try.func33 rfl con33 21 (by kernel_rfl) (by decide) (by decide) rfl (by decide) rfl (by
  rintro ⟨(l : List (Int × Int)), _⟩ hpre hwf X hT hG hk hK
  (simp -implicitDefEqProofs (maxSteps := 4000000) only [go_sem, con33, hT, hG, hk, hK, Try.results33] at hwf ⊢); (try simp (disch := decide +kernel) only [drawn, true_and, and_true])
  intro a ha
  have hpre : l.length ≤ 1048576 := hpre
  refine ⟨fun h => (List.eq_nil_of_length_eq_zero (ha h)).symm, fun _ => by omega⟩)
/-- Insert, at the end. -/
def con32 : Con := { ps := [.oc 65 (.pair (.int .i64) (.int .i64)), .d false (.int .i64), .d false (.sl (.pair (.int .i64) (.int .i64)))], rs := [.o 65 (.pair (.int .i64) (.int .i64))], pre := fun x => x.2.1 = x.1.length ∧ x.1.length + x.2.2.1.length ≤ 1048576 ∧ 0 < x.2.2.1.length, out := fun x => (x.1 ++ x.2.2.1, ()), nw := id }
theorem c32 : CtrOk Try.prog 32 con32.ctr :=
 con_sound (G := ⟨[], [], [], [], []⟩) tab_ok EnvOk.nil rfl Try.func32 rfl con32 295147905181504570311 (by kernel_rfl) (by decide) (by decide) rfl (by decide) rfl (by
  rintro ⟨(l : List (Int × Int)), (i : Int), (v : List (Int × Int)), _⟩ hpre hwf X hT hG hk hK
  (simp -implicitDefEqProofs (maxSteps := 4000000) only [go_sem, con32, hT, hG, hk, hK, Try.results32] at hwf ⊢); (try simp (disch := decide +kernel) only [drawn, true_and, and_true])
  obtain ⟨h1, h2, h3⟩ : i = l.length ∧ l.length + v.length ≤ 1048576 ∧ 0 < v.length := hpre
  refine ⟨by omega, fun _ _ => ⟨fun h => by omega, fun _ _ => ⟨fun _ => by omega, fun h => absurd h1 h⟩⟩⟩)
def con23 : Con := { ps := [.d true (.sl (.pair (.int .i64) (.int .i64)))], rs := [.d false (.sl (.int .i64))], pre := fun x => x.1.length ≤ 1048576, out := fun x => (x.1.map (·.1), ()), nw := id }
theorem c23 : CtrOk Try.prog 23 con23.ctr :=
 con_sound (G := ⟨[], [], [], [], []⟩) tab_ok EnvOk.nil rfl Try.func23 rfl con23 1967 (by kernel_rfl) (by decide) (by decide) rfl (by decide) rfl (by
  rintro ⟨(l : List (Int × Int)), _⟩ hpre hwf X hT hG hk hK
  (simp -implicitDefEqProofs (maxSteps := 4000000) only [go_sem, con23, hT, hG, hk, hK, Try.results23] at hwf ⊢); (try simp (disch := decide +kernel) only [drawn, true_and, and_true])
  intro hl
  have hl2 : l.length ≤ 1048576 := hpre
  refine evk_loop ⟨{ i : Nat // i ≤ l.length }, 1000, fun i => [(3, .one (.row 64)), (7, .one (.sl (.pair (.int .i64) (.int .i64)) l false)), (8, .one (.int .i64 l.length)), (9, .one (.int .i64 i.1))], fun i => [(64, .row 3 (.int .i64) ((l.take i.1).map (·.1)))], fun i => l.length - i.1⟩ ⟨0, by simp⟩ ?_ ?_
  · simp only [go_sem]
    rfl
  · rintro ⟨i, hi⟩
    (simp -implicitDefEqProofs (maxSteps := 4000000) only [go_sem, con23, hT, hG, hk, hK, Try.results23]); (try simp (disch := decide +kernel) only [drawn, true_and, and_true])
    refine ⟨fun hlt => ⟨⟨by omega, hlt⟩, fun _ _ => ⟨by rw [List.length_map, List.length_take]; omega, ⟨by omega, by omega⟩, fin_lp ⟨i + 1, by omega⟩ ?_ ?_⟩⟩, fun hge => by rw [List.take_of_length_le (by omega)]⟩
    · simp only [go_sem]
      have hi' : i < l.length := by omega
      have e : (l.take (i + 1)).map (·.1) = (l.take i).map (·.1) ++ [(l.getD i (0, 0)).1] := by
       rw [List.take_succ_eq_append_getElem hi', List.map_append]
       simp [hi']
      simp only [Int.toNat_natCast]
      exact ⟨by rw [e], by omega⟩
    · show l.length - (i + 1) < l.length - i
      omega)
/-- A function that is not called. -/
structure NoC where
 ctr : Ctr
def con48 : NoC := ⟨fun _ _ _ => ⟨False, .one (.int .i64 0), [], True⟩⟩
theorem c48 : CtrOk Try.prog 48 con48.ctr := by
 intro D gv hDS cx hcd σ N m w fr avs vs _ _ _ h
 exact h.elim
def con47 : Con := { ps := [.d false (.sl (.pair (.int .i64) (.int .i64))), .d false (.int .i64), .cl 48 [.fb 80 40]], rs := [.d false (.int .i64), .d false .bool], pre := fun x => x.1 = [], out := fun x => (0, false, ()), nw := id }
theorem c47 : CtrOk Try.prog 47 con47.ctr :=
 con_sound (G := ⟨[(48, con48.ctr)], [], [], [], []⟩) tab_ok (EnvOk.cons c48 has48 EnvOk.nil) rfl Try.func47 rfl con47 2147618759 (by kernel_rfl) (by decide) (by decide) rfl (by decide) rfl (by
  rintro ⟨(l : List (Int × Int)), (key : Int), c, _⟩ hpre hwf X hT hG hk hK
  obtain rfl : l = [] := hpre
  (simp -implicitDefEqProofs (maxSteps := 4000000) only [go_sem, con47, con48, hT, hG, hk, hK, Try.results47] at hwf ⊢); (try simp (disch := decide +kernel) only [drawn, true_and, and_true])
  intro _
  refine evk_loop ⟨Unit, 1000, fun _ => [(0, .one (.sl (.pair (.int .i64) (.int .i64)) [] false)), (1, .one (.int .i64 key)), (2, .one (.fn 48 [.loc 16 0])), (8, .one (.int .i64 0)), (9, .one (.int .i64 0)), (10, .one (.int .i64 0))], fun i => [(16, .cells 80 [.fn 40 []])], fun i => 0⟩ () ?_ ?_
  · simp only [go_sem]
    rfl
  · rintro ⟨⟩
    (simp -implicitDefEqProofs (maxSteps := 4000000) only [go_sem, con47, con48, hT, hG, hk, hK, Try.results47]); (try simp (disch := decide +kernel) only [drawn, true_and, and_true])
    refine ⟨fun h => absurd h (by omega), fun _ => ?_⟩
    exact ⟨fun h => absurd h (by omega), fun _ _ h => absurd h (by omega)⟩)
def con39 : Con := { ps := [.d false (.sl (.pair (.int .i64) (.int .i64))), .d false (.int .i64), .cl 40 []], rs := [.d false (.int .i64), .d false .bool], pre := fun x => x.1 = [], out := fun x => (0, false, ()), nw := id }
theorem c39 : CtrOk Try.prog 39 con39.ctr :=
 con_sound (G := ⟨[(47, con47.ctr)], [], [], [], []⟩) tab_ok (EnvOk.cons c47 has47 EnvOk.nil) rfl Try.func39 rfl con39 231 (by kernel_rfl) (by decide) (by decide) rfl (by decide) rfl (by
  rintro ⟨(l : List (Int × Int)), (key : Int), c, _⟩ hpre hwf X hT hG hk hK
  obtain rfl : l = [] := hpre
  (simp -implicitDefEqProofs (maxSteps := 4000000) only [go_sem, con39, con47, hT, hG, hk, hK, Try.results39] at hwf ⊢); (try simp (disch := decide +kernel) only [drawn, true_and, and_true]))
def con31 : Con := { ps := [.d true (.sl (.pair (.int .i64) (.int .i64))), .d false (.int .i64)], rs := [.d false (.int .i64), .d false .bool], pre := fun x => x.1 = [], out := fun x => (0, false, ()), nw := id }
theorem c31 : CtrOk Try.prog 31 con31.ctr :=
 con_sound (G := ⟨[(39, con39.ctr)], [], [], [], []⟩) tab_ok (EnvOk.cons c39 has39 EnvOk.nil) rfl Try.func31 rfl con31 55 (by kernel_rfl) (by decide) (by decide) rfl (by decide) rfl (by
  rintro ⟨(l : List (Int × Int)), (key : Int), _⟩ hpre hwf X hT hG hk hK
  obtain rfl : l = [] := hpre
  (simp -implicitDefEqProofs (maxSteps := 4000000) only [go_sem, con31, con39, hT, hG, hk, hK, Try.results31] at hwf ⊢); (try simp (disch := decide +kernel) only [drawn, true_and, and_true]))
def con17 : Con := { ps := [.d true (.sl (.pair (.int .i64) (.int .i64))), .d false (.int .i64), .d false (.int .i64)], rs := [.d true (.sl (.pair (.int .i64) (.int .i64))), .d false (.int .i64)], pre := fun x => x.1 = [] ∧ x.2.1 = 3 ∧ x.2.2.1 = 9, out := fun x => ([(3, 9)], 0, ()), nw := id }
theorem c17 : CtrOk Try.prog 17 con17.ctr :=
 con_sound (G := ⟨[(31, con31.ctr), (33, con33.ctr), (32, con32.ctr)], [], [], [], []⟩) tab_ok (EnvOk.cons c31 has31 (EnvOk.cons c33 has33 (EnvOk.cons c32 has32 EnvOk.nil))) rfl Try.func17 rfl con17 2155873231 (by kernel_rfl) (by decide) (by decide) rfl (by decide) rfl (by
  rintro ⟨(l : List (Int × Int)), (bag : Int), (im : Int), _⟩ hpre hwf X hT hG hk hK
  obtain ⟨rfl, rfl, rfl⟩ : l = [] ∧ bag = 3 ∧ im = 9 := hpre
  (simp -implicitDefEqProofs (maxSteps := 4000000) only [go_sem, con17, con31, con33, con32, hT, hG, hk, hK, Try.results17] at hwf ⊢); (try simp (disch := decide +kernel) only [drawn, true_and, and_true])
  refine ⟨fun _ => by decide, fun _ => by decide, fun _ => by decide, fun h => absurd h (by decide), fun _ _ _ => rfl⟩)
end Go.Proofs.Ythbcniifeeoplaa

/- The contracts of the functions that the statements about custody reach: awake, the laws. -/
set_option linter.unusedSimpArgs false
set_option linter.unusedVariables false
set_option maxRecDepth 100000
set_option maxHeartbeats 4000000
namespace Go.Proofs.Ythbcniifeeoplaa
open Go.Ev

def con8 : Con := { ps := [], rs := [.d false .bool], pre := fun _ => True, out := fun _ => (true, ()), nw := id }
theorem c8 : CtrOk Try.prog 8 con8.ctr :=
 con_sound (G := ⟨[(11, con11.ctr), (17, con17.ctr), (23, con23.ctr)], [], [], [], []⟩) tab_ok (EnvOk.cons c11 has11 (EnvOk.cons c17 has17 (EnvOk.cons c23 has23 EnvOk.nil))) rfl Try.func8 rfl con8 95 (by kernel_rfl) (by decide) (by decide) rfl (by decide) rfl (by
  rintro ⟨⟩ hpre hwf X hT hG hk hK
  (simp -implicitDefEqProofs (maxSteps := 4000000) only [go_sem, con8, con11, con17, con23, hT, hG, hk, hK, Try.results8] at hwf ⊢); (try simp (disch := decide +kernel) only [drawn, true_and, and_true])
  intro _ _ _ _ _
  decide)
theorem goMod_bd (x n : Int) (h : 1 ≤ n) : 0 ≤ goMod x n ∧ goMod x n < n := by
 have := tmod_bd x n h
 unfold goMod
 rw [if_neg (by omega)]
 split <;> omega
theorem openV_yes {a c : Int} {l r : List Int} (h : (openV (a, c, l, r)).2 = true) : a = c ∧ 1 ≤ a ∧ a ∈ l ∧ a ∈ r ∧ (openV (a, c, l, r)).1 = a := by
 unfold openV at h ⊢
 split at h
 · cases h
 · rename_i k
   rw [if_neg k]
   simp only [not_or, ne_eq, Classical.not_not, Int.not_lt] at k
   exact ⟨k.1, by omega, k.2.2.2.1, k.2.2.2.2, rfl⟩
theorem openV_self {a : Int} {l : List Int} (h1 : 0 ≤ a) (h2 : a < 41) : openV (a, a, l, l) = if a > 0 ∧ a ∈ l then (a, true) else (0, false) := by
 unfold openV
 by_cases h : a > 0 <;> by_cases k : a ∈ l <;> simp [h, k] <;> omega
theorem single_fin {g : Int} {l : List Int} (h1 : 0 ≤ g) (h2 : g < 41) {o : Int × Bool} (ho : o.2 = true → o.1 = g ∧ g > 0 ∧ g ∈ l) :
 (o.snd = true → o.snd = true ∧ (¬¬o.fst = g → (o.snd && !decide ¬o.fst = g) = true)) ∧
   (o.snd = true → o.snd = true ∧ ((decide ¬o.fst = g || decide (g = 0)) = false → (o.snd && !(decide ¬o.fst = g || decide (g = 0))) = true)) ∧
     ((o.snd && (decide ¬o.fst = g || decide (g = 0) || !decide (g ∈ l))) = true → False) ∧
       ((o.snd && (decide ¬o.fst = g || decide (g = 0) || !decide (g ∈ l))) = false →
         -9223372036854775808 ≤ (openV (g, g, l, l)).fst ∧ (openV (g, g, l, l)).fst ≤ 9223372036854775807 →
          ((openV (g, g, l, l)).snd = (decide (g > 0) && decide (g ∈ l)) →
             (openV (g, g, l, l)).snd = (decide (g > 0) && decide (g ∈ l)) ∧
             ((!(openV (g, g, l, l)).snd) = false → (decide ((openV (g, g, l, l)).snd = (decide (g > 0) && decide (g ∈ l))) &&
                 !!(openV (g, g, l, l)).snd) =
               true)) ∧
            (decide ((openV (g, g, l, l)).snd = (decide (g > 0) && decide (g ∈ l))) &&
              (!(openV (g, g, l, l)).snd || decide ((openV (g, g, l, l)).fst = g))) =
              true) := by
 rw [openV_self h1 h2]
 obtain ⟨q, e⟩ := o
 cases e with
 | false =>
   refine ⟨fun h => (by cases h), fun h => (by cases h), fun h => (by simp at h), fun _ _ => ?_⟩
   by_cases k1 : g > 0 <;> by_cases k2 : g ∈ l <;> simp [k1, k2]
 | true =>
   obtain ⟨e1, e2, e3⟩ := ho rfl
   simp only at e1
   subst e1
   have e4 : q ≠ 0 := by omega
   refine ⟨fun _ => ⟨rfl, fun _ => by simp⟩, fun _ => ⟨rfl, fun _ => by simp [e4]⟩, fun h => by simp [e4, e3] at h, fun _ _ => ?_⟩
   simp [e2, e3]
def con4 : Con := { ps := [.d false (.int .i64), .d false (.sl (.int .i64)), .d false (.int .i64), .d false (.int .i64), .d false (.sl (.int .i64))], rs := [.d false .bool], pre := fun _ => True, out := fun _ => (true, ()), nw := id }
theorem c4 : CtrOk Try.prog 4 con4.ctr :=
 con_sound (G := ⟨[(8, con8.ctr), (11, con11.ctr), (13, con13.ctr), (14, con14.ctr)], [], [], [], []⟩) tab_ok (EnvOk.cons c8 has8 (EnvOk.cons c11 has11 (EnvOk.cons c13 has13 (EnvOk.cons c14 has14 EnvOk.nil)))) rfl Try.func4 rfl con4 1180591695793456544799 (by kernel_rfl) (by decide) (by decide) rfl (by decide) rfl (by
  rintro ⟨(b : Int), (l : List Int), (f : Int), (v : Int), (r : List Int), _⟩ hpre hwf X hT hG hk hK
  (simp -implicitDefEqProofs (maxSteps := 4000000) only [go_sem, con4, con8, con11, con13, con14, hT, hG, hk, hK, Try.results4] at hwf ⊢); (try simp (disch := decide +kernel) only [drawn, true_and, and_true])
  have hg := goMod_bd b 41 (by omega)
  clear hwf hpre hT hG hk hK
  generalize goMod b 41 = g at hg ⊢
  generalize goMod f 4 = q
  intro _ hr
  refine ⟨fun h => by simp; omega, fun _ _ _ => ⟨?_, ?_⟩⟩
  · intro _ _
    refine single_fin hg.1 hg.2 (fun h => ?_)
    obtain ⟨rfl, e1, e2, _, e3⟩ := openV_yes h
    exact ⟨e3, by omega, e2⟩
  · intro _
    refine ⟨fun _ _ => single_fin hg.1 hg.2 (fun h => ?_), fun _ => ⟨fun _ _ => single_fin hg.1 hg.2 (fun h => ?_), fun _ _ => single_fin hg.1 hg.2 (fun h => ?_)⟩⟩
    · obtain ⟨rfl, e1, e2, _, e3⟩ := openV_yes h
      exact ⟨e3, by omega, e2⟩
    · obtain ⟨_, e1, _, e2, e3⟩ := openV_yes h
      exact ⟨e3, by omega, e2⟩
    · obtain ⟨_, e1, e2, _, e3⟩ := openV_yes h
      exact ⟨e3, by omega, e2⟩)
end Go.Proofs.Ythbcniifeeoplaa

/- The contracts of the functions that make layouts: Range, Ints, Pick, other, strip, devices. -/
set_option linter.unusedSimpArgs false
set_option linter.unusedVariables false
set_option maxRecDepth 100000
set_option maxHeartbeats 4000000
namespace Go.Proofs.Ythbcniifeeoplaa
open Go.Ev

theorem has22 : FnHas Try.prog 22 := ⟨⟨_, Try.func22, by kernel_rfl, by kernel_rfl⟩⟩
theorem step_pos {s : Src} (h : 0 ≤ s.2) : 0 ≤ (Src.step s).2 := by
 unfold Src.step
 split
 · exact h
 · exact Int.le_trans h (by simp only; omega)

def con16 : Con := { ps := [.p 58 ySR, .d false (.int .i64), .d false (.int .i64)], rs := [.d false (.int .i64)], pre := fun x => 0 ≤ x.1.2 ∧ -1000000 ≤ x.2.1 ∧ x.2.1 ≤ x.2.2.1 ∧ x.2.2.1 ≤ 1000000, out := fun x => (x.2.1 + goMod (Src.raw x.1) (x.2.2.1 - x.2.1 + 1), ()), nw := fun x => (Src.step x.1, x.2) }
theorem c16 : CtrOk Try.prog 16 con16.ctr :=
 con_sound (G := ⟨[(10, con10.ctr)], [], [], [], []⟩) tab_ok (EnvOk.cons c10 has10 EnvOk.nil) rfl Try.func16 rfl con16 71 (by kernel_rfl) (by decide) (by decide) rfl (by decide) rfl (by
  rintro ⟨⟨(l : List Int), (a : Int)⟩, (lo : Int), (hi : Int), _⟩ hpre hwf X hT hG hk hK
  (simp -implicitDefEqProofs (maxSteps := 4000000) only [go_sem, con16, con10, hT, hG, hk, hK, Try.results16] at hwf ⊢); (try simp (disch := decide +kernel) only [drawn, true_and, and_true])
  obtain ⟨h1, h2, h3, h4⟩ : 0 ≤ a ∧ -1000000 ≤ lo ∧ lo ≤ hi ∧ hi ≤ 1000000 := hpre
  have := goMod_bd (Src.raw (l, a)) (hi - lo + 1) (by omega)
  refine ⟨⟨by omega, by omega⟩, ⟨by omega, by omega⟩, h1, fun _ => ⟨by omega, by omega⟩⟩)

def con22 : Con := { ps := [.d false (.sl (.int .i64)), .d false (.sl (.int .i64))], rs := [.d false .bool], pre := fun x => True, out := fun x => (decide (x.1 = x.2.1), ()), nw := id }
theorem c22 : CtrOk Try.prog 22 con22.ctr :=
 con_sound (G := ⟨[], [], [], [], []⟩) tab_ok EnvOk.nil rfl Try.func22 rfl con22 33571891 (by kernel_rfl) (by decide) (by decide) rfl (by decide) rfl (by
  rintro ⟨(a : List Int), (b : List Int), _⟩ hpre hwf X hT hG hk hK
  (simp -implicitDefEqProofs (maxSteps := 4000000) only [go_sem, con22, hT, hG, hk, hK, Try.results22] at hwf ⊢); (try simp (disch := decide +kernel) only [drawn, true_and, and_true])
  intro hla hlb
  refine ⟨fun h => (decide_eq_false (fun e => h (by rw [e]))).symm, fun h => ?_⟩
  have hab : a.length = b.length := by omega
  refine evk_loop ⟨{ i : Nat // i ≤ a.length ∧ a.take i = b.take i }, 1000, fun q => [(0, .one (.sl (.int .i64) a false)), (1, .one (.sl (.int .i64) b false)), (5, .one (.int .i64 q.1))], fun _ => [], fun q => a.length - q.1⟩ ⟨0, by simp⟩ ?_ ?_
  · simp only [go_sem]
    rfl
  · rintro ⟨i, hi, he⟩
    (simp -implicitDefEqProofs (maxSteps := 4000000) only [go_sem, con22, hT, hG, hk, hK, Try.results22]); (try simp (disch := decide +kernel) only [drawn, true_and, and_true])
    intro _
    have hi0 : i ≤ a.length := hi
    have he0 : a.take i = b.take i := he
    refine ⟨fun hlt => ?_, fun hge => ?_⟩
    · have hi1 : i < a.length := by omega
      have hi2 : i < b.length := by omega
      have ea : a.getD (i : Int).toNat 0 = a[i] := by simp [hi1]
      have eb : b.getD (i : Int).toNat 0 = b[i] := by simp [hi2]
      rw [ea, eb]
      refine ⟨⟨by omega, hlt⟩, fun _ _ => ⟨⟨by omega, by omega⟩, fun _ _ => ⟨fun hne => ?_, fun hq => ⟨by simp only [maxLen] at hla; omega, fin_lp ⟨i + 1, by omega, ?_⟩ ?_ ?_⟩⟩⟩⟩
      · refine (decide_eq_false (fun e => hne ?_)).symm
        subst e; rfl
      · rw [List.take_succ_eq_append_getElem hi1, List.take_succ_eq_append_getElem hi2, he0, Classical.not_not.1 hq]
      · simp only [go_sem]
        rfl
      · show a.length - (i + 1) < a.length - i
        omega
    · rw [List.take_of_length_le (by omega), List.take_of_length_le (by omega)] at he0
      exact (decide_eq_true he0).symm)

end Go.Proofs.Ythbcniifeeoplaa

/- slices.Insert at seals: its four roads, walked. -/
set_option linter.unusedVariables false
set_option linter.unusedSimpArgs false
namespace Go.Proofs.Ythbcniifeeoplaa
open Go.RowKit Go.Lib

/-- 'copy' at elements of several cells, into a row. -/
theorem copyK {P : Program} (w : World) (dT sT ty elem : TypeId) (g o dLen dCap : Nat) (a : Addr) (sLen sCap : Nat) (cur : Array Value) (t : TypeId) (cs : List Value) (k s : Nat) {i : TypeInfo}
 (hu : P.underlying dT = some (.slice elem)) (hi : P.info? elem = some i) (hs : i.size = s) (hk : Nat.min sLen dLen = k)
 (hg : w.heap[g]? = some (.cells cur t (0, 0))) (hn : cs.length = k * s) (hsrc : ∀ j v, cs[j]? = some v → w.cell? (a.add j) = some v) (hfit : o + cs.length ≤ cur.size) (h1 : ∀ v ∈ cs, v.oneCell' = true) :
 (Builtin.copy_ #[dT, sT] ty #[.slice (some ⟨g, o, none⟩) dLen dCap, .slice (some a) sLen sCap]).run P w =
   .ok (goInt k) (w.setRow g (cur.toList.take o ++ cs ++ cur.toList.drop (o + cs.length)).toArray) := by
 have hf := run_firstCells_some (P := P) w i.size k a sLen sCap cs (by rw [hn, hs]) hsrc
 have hst := run_storeCells_at P g o t cs 0 cur w hg (by simpa using hfit) h1
 simp only [Nat.add_zero] at hst
 simp [Builtin.copy_, run_underlying hu, Builtin.lenOf, sizeOf, typeInfo, hi, hk, hf, hst]

theorem wpl_copy {P : Program} (w : World) {ops : Array Oper} {rest : List Oper} {o : Oper} {a : Act} {Q : Exit → Act → World → Prop} (hgd : o.guard = none) (x y : Operand) (t t' : TypeId)
 (ho : o.op = .call { callee := .builtin .copy, args := #[x, y], argTypes := #[t, t'] }) (v u : Value) (hd : a.eval x = v) (hs : a.eval y = u) {v' : Value} {w' : World}
 (hr : (Builtin.copy_ #[t, t'] o.type #[v, u]).run P w = .ok v' w') (h : wpList P ops Q rest (a.put o.dst v') w') : wpList P ops Q (o :: rest) a w :=
 wpList_plain hgd fun K hK => by
  unfold Oper.wp execOp
  simp only [ho, resolve, invoke, builtin, Sem.run_bind, Sem.run_pure, Result.andThen_ok, List.map_toArray, List.map_cons, List.map_nil, hd, hs, hr]
  exact hK _ _ h
theorem step_copy {P : Program} {ops : Array Oper} {o : Oper} {a : Act} {w : World} {K : Act → World → Prop} {Q : Exit → Act → World → Prop} {E : Prop}
 (hg : o.guard = none) (x y : Operand) (t t' : TypeId) (hop : o.op = .call { callee := .builtin .copy, args := #[x, y], argTypes := #[t, t'] })
 (v u : Value) (hd : a.eval x = v) (hx : a.eval y = u) {v' : Value} {w' : World} (hr : (Builtin.copy_ #[t, t'] o.type #[v, u]).run P w = .ok v' w') (hK : K (a.put o.dst v') w') :
 if Region.wanted o (yielded ops a.tmps) = true then Oper.wp P o a w K Q else E := by
 rw [if_pos (by simp [Region.wanted, hg])]
 unfold Oper.wp
 simp [execOp, hop, resolve, invoke, builtin, hd, hx, hr, Result.andThen]
 exact hK
theorem info65 : ∃ ii, Try.prog.info? 65 = some ii ∧ ii.size = 2 ∧ ii.bytes = 16 ∧ ii.zero = some (.agg #[.int .i64 0, .int .i64 0]) := by
 obtain ⟨ii, hii⟩ : ∃ ii, Try.prog.info? 65 = some ii := Option.isSome_iff_exists.1 (by kernel_rfl)
 have h1 : (Try.prog.info? 65).map (·.size) = some 2 := by kernel_rfl
 have h2 : (Try.prog.info? 65).map (·.bytes) = some 16 := by kernel_rfl
 have h3 : (Try.prog.info? 65).bind (·.zero) = some (.agg #[.int .i64 0, .int .i64 0]) := by kernel_rfl
 rw [hii] at h1 h2 h3
 exact ⟨ii, hii, by simpa using h1, by simpa using h2, by simpa using h3⟩
/-- What overlaps says of two rows. -/
theorem ovl (w : World) (g gv n c lb cb off : Nat) (cg cv : Array Value) (tg tv : TypeId) (hne : gv ≠ g) (hg : w.heap[g]? = some (.cells cg tg (0, 0))) (hv : w.heap[gv]? = some (.cells cv tv (0, 0))) (hc : cg.size ≠ 0) :
 (callFunc 41 #[.slice (some ⟨gv, 0, none⟩) n c, .slice (some ⟨g, off, none⟩) lb cb]).run Try.prog w = .ok (.value (.bool false)) w := by
 rw [run_callFunc_extern Try.func41 (by kernel_rfl) (by kernel_rfl) (by kernel_rfl) (e := Extern.SlicesOverlaps.overlaps #[36, 36] #[4]) (by kernel_rfl),
  Lib.run_overlaps_apart w 36 4 65 Try.underlying36 2 (fun w => by first | exact Try.sizeOf65 w | exact Try.sizeOf65 ..) ⟨gv, 0, none⟩ ⟨g, off, none⟩ n c lb cb hne tv tg cv.size cg.size (by simp [World.shape?, hv]) (by simp [World.shape?, hg]) hc (by simp [World.frozen?, hv]) (by simp [World.frozen?, hv])]
 rfl

set_option maxHeartbeats 4000000 in
set_option maxRecDepth 100000 in
/-- There is room ahead of the end: in place. -/
theorem ins_shift (g n cap i gv cv : Nat) (cur cuv : Array Value) (flat vs : List Value) (w : World) (hi : i < n) (hroom : n + 1 ≤ cap) (hcm : cap ≤ maxLen) (hgv : gv ≠ g)
 (hg : w.heap[g]? = some (.cells cur 65 (0, 0))) (hcs : cur.size = cap * 2) (hfl : cur.toList.take (n * 2) = flat) (h1 : ∀ u ∈ flat, u.oneCell' = true)
 (hv : w.heap[gv]? = some (.cells cuv 65 (0, 0))) (hvs : cuv.toList.take 2 = vs) (hvl : vs.length = 2) (h1v : ∀ u ∈ vs, u.oneCell' = true) :
 Calls Try.prog 32 #[.slice (some ⟨g, 0, none⟩) n cap, .int .i64 i, .slice (some ⟨gv, 0, none⟩) 1 cv] w fun e w' =>
  e = .returned (.slice (some ⟨g, 0, none⟩) (n + 1) cap) ∧ ∃ cur' : Array Value, w' = w.drew.setRow g cur' ∧ cur'.size = cap * 2 ∧ cur'.toList.take ((n + 1) * 2) = flat.take (i * 2) ++ vs ++ flat.drop (i * 2) := by
 have u36 := run_underlying Try.underlying36
 have u3 := run_underlying Try.underlying3
 have hlen : flat.length = n * 2 := by rw [← hfl, List.length_take, Array.length_toList]; omega
 obtain ⟨ii, hii, his, hib, hiz⟩ := info65
 have hcf : ∀ j u, flat[j]? = some u → w.cell? ⟨g, j, none⟩ = some u := fun j u hu => by
  have hj := (List.getElem?_eq_some_iff.1 hu).1
  rw [← hfl, List.getElem?_take_of_lt (by omega)] at hu
  simp only [World.cell?, hg]; simpa using hu
 have hz1 : ¬ ((1 : Int) = 0) := by omega
 have hz2 : ¬ ((i : Int) = (n : Int)) := by omega
 have hov := fun lb cb => ovl w g gv 1 cv lb cb ((i + 1) * 2) cur cuv 65 65 hgv hg hv (by omega)
 have hdl : (flat.drop (i * 2)).length = (n - i) * 2 := by rw [List.length_drop, hlen, Nat.sub_mul]
 let cur1 : Array Value := (cur.toList.take ((i + 1) * 2) ++ flat.drop (i * 2) ++ cur.toList.drop ((i + 1) * 2 + (flat.drop (i * 2)).length)).toArray
 have hcp1 : ∀ ty dc sc, (Builtin.copy_ #[36, 36] ty #[.slice (some ⟨g, (i + 1) * 2, none⟩) (n - i) dc, .slice (some ⟨g, i * 2, none⟩) (n + 1 - i) sc]).run Try.prog w.drew = .ok (goInt ((n - i : Nat) : Int)) (w.drew.setRow g cur1) := fun ty dc sc =>
  copyK w.drew 36 36 ty 65 g ((i + 1) * 2) (n - i) dc ⟨g, i * 2, none⟩ (n + 1 - i) sc cur 65 (flat.drop (i * 2)) (n - i) 2 Try.underlying36 hii his (by simp only [Nat.min_def]; split <;> omega) hg hdl
   (fun j v hj => by rw [Addr.add_lit]; rw [List.getElem?_drop] at hj; exact hcf _ v hj) (by rw [hdl, hcs]; omega) (fun v hv => h1 v (List.mem_of_mem_drop hv))
 have hs1 : cur1.size = cap * 2 := by
  simp only [cur1, List.size_toArray, List.length_append, List.length_take, List.length_drop, Array.length_toList, hcs, hlen]; omega
 have hg1 : (w.drew.setRow g cur1).heap[g]? = some (.cells cur1 65 (0, 0)) := setRow_heap w.drew g cur cur1 65 (0, 0) hg
 have hv1 : (w.drew.setRow g cur1).heap[gv]? = some (.cells cuv 65 (0, 0)) := by rw [setRow_other w.drew g gv cur1 hgv]; exact hv
 let cur2 : Array Value := (cur1.toList.take (i * 2) ++ vs ++ cur1.toList.drop (i * 2 + vs.length)).toArray
 have hcp2 : ∀ ty dc, (Builtin.copy_ #[36, 36] ty #[.slice (some ⟨g, i * 2, none⟩) (n + 1 - i) dc, .slice (some ⟨gv, 0, none⟩) 1 cv]).run Try.prog (w.drew.setRow g cur1) = .ok (goInt ((1 : Nat) : Int)) ((w.drew.setRow g cur1).setRow g cur2) := fun ty dc =>
  copyK (w.drew.setRow g cur1) 36 36 ty 65 g (i * 2) (n + 1 - i) dc ⟨gv, 0, none⟩ 1 cv cur1 65 vs 1 2 Try.underlying36 hii his (by simp only [Nat.min_def]; split <;> omega) hg1 (by omega)
   (fun j v hj => by
     rw [Addr.add_lit, Nat.zero_add]
     have hj' := (List.getElem?_eq_some_iff.1 hj).1
     rw [← hvs, List.getElem?_take_of_lt (by omega)] at hj
     simp only [World.cell?, hv1]; simpa using hj) (by rw [hvl, hs1]; omega) h1v
 have hfin : cur2.size = cap * 2 ∧ cur2.toList.take ((n + 1) * 2) = flat.take (i * 2) ++ vs ++ flat.drop (i * 2) := by
  refine ⟨by simp only [cur2, List.size_toArray, List.length_append, List.length_take, List.length_drop, Array.length_toList, hs1, hvl]; omega, ?_⟩
  have hc : cur.toList = flat ++ cur.toList.drop (n * 2) := by rw [← hfl, List.take_append_drop]
  have e1 : cur.toList.take ((i + 1) * 2) = flat.take ((i + 1) * 2) := by rw [← hfl, List.take_take, Nat.min_eq_left (by omega)]
  have e2 : cur1.toList.take (i * 2) = flat.take (i * 2) := by
   simp only [cur1, List.toList_toArray]
   rw [e1, List.append_assoc, List.take_append_of_le_length (by rw [List.length_take]; omega), List.take_take, Nat.min_eq_left (by omega)]
  have e3 : cur1.toList.drop (i * 2 + vs.length) = flat.drop (i * 2) ++ cur.toList.drop ((i + 1) * 2 + (flat.drop (i * 2)).length) := by
   simp only [cur1, List.toList_toArray, hvl]
   rw [List.append_assoc, List.drop_append_of_le_length (by rw [List.length_take, Array.length_toList]; omega), List.drop_take, show (i + 1) * 2 - (i * 2 + 2) = 0 by omega, List.take_zero, List.nil_append]
  simp only [cur2, List.toList_toArray]
  rw [e2, e3, ← List.append_assoc]
  refine (List.take_append_of_le_length ?_).trans (List.take_of_length_le ?_)
  · simp only [List.length_append, List.length_take, hvl, hdl, hlen]; omega
  · simp only [List.length_append, List.length_take, hvl, hdl, hlen]; omega
 have hw1 : IntKind.i64.wrap ((i : Int) + 1) = (i : Int) + 1 := by rw [IntKind.wrap_i64]; simp only [maxLen] at hcm; omega
 have hw2 : IntKind.i64.wrap ((n : Int) + 1) = (n : Int) + 1 := by rw [IntKind.wrap_i64]; simp only [maxLen] at hcm; omega
 have hb1 : (0 : Int) ≤ (i : Int) + 1 := by omega
 have hb2 : ¬ (cap = i + 1) := by omega
 have hb3 : (i : Int) ≤ (n : Int) + 1 := by omega
 have hb4 : ¬ (cap = i) := by omega
 have htn : ((i : Int) + 1).toNat = i + 1 := by omega
 have hin : i ≤ n := by omega
 have hcm' : cap ≤ 9223372036854775807 := by simp only [maxLen] at hcm; omega
 clear_value cur1 cur2
 have mixed : Try.prog.follows .mixedOrders = true := by kernel_rfl
 go_enter Try.func32, Try.ntmps32
 go_wp2_with (simp only [hov])
 go_region_law_o (refine step_copy rfl _ _ 36 36 rfl _ _ (by simp [Act.eval, Act.put]) (by simp [Act.eval, Act.put]) (hcp1 _ _ _) ?_)
 go_wp2_with (at_builtin; refine wpl_copy _ rfl _ _ 36 36 rfl _ _ rfl rfl (hcp2 _ _) ?_)
 go_ret
 exact ⟨rfl, cur2, by rw [setRow_setRow], hfin.1, hfin.2⟩

theorem wpl_app {P : Program} (w : World) {ops : Array Oper} {rest : List Oper} {o : Oper} {a : Act} {Q : Exit → Act → World → Prop} (hgd : o.guard = none) (x y : Operand) (t t' : TypeId)
 (ho : o.op = .call { callee := .builtin .append, args := #[x, y], argTypes := #[t, t'] }) (v u : Value) (hd : a.eval x = v) (hs : a.eval y = u) {v' : Value} {w' : World}
 (hr : (Builtin.append_ #[t, t'] o.type #[v, u]).run P w = .ok v' w') (h : wpList P ops Q rest (a.put o.dst v') w') : wpList P ops Q (o :: rest) a w :=
 wpList_plain hgd fun K hK => by
  unfold Oper.wp execOp
  simp only [ho, resolve, invoke, builtin, Sem.run_bind, Sem.run_pure, Result.andThen_ok, List.map_toArray, List.map_cons, List.map_nil, hd, hs, hr]
  exact hK _ _ h
set_option maxHeartbeats 4000000 in
set_option maxRecDepth 100000 in
/-- At the end, with room. -/
theorem ins_end_room (g n cap gv cv : Nat) (cur cuv : Array Value) (flat vs : List Value) (w : World) (hroom : n + 1 ≤ cap) (hcm : cap ≤ maxLen) (hgv : gv ≠ g)
 (hg : w.heap[g]? = some (.cells cur 65 (0, 0))) (hcs : cur.size = cap * 2) (hfl : cur.toList.take (n * 2) = flat)
 (hv : w.heap[gv]? = some (.cells cuv 65 (0, 0))) (hvs : cuv.toList.take 2 = vs) (hvl : vs.length = 2) (h1v : ∀ u ∈ vs, u.oneCell' = true) :
 Calls Try.prog 32 #[.slice (some ⟨g, 0, none⟩) n cap, .int .i64 n, .slice (some ⟨gv, 0, none⟩) 1 cv] w fun e w' =>
  e = .returned (.slice (some ⟨g, 0, none⟩) (n + 1) cap) ∧ ∃ cur' : Array Value, w' = w.setRow g cur' ∧ cur'.size = cap * 2 ∧ cur'.toList.take ((n + 1) * 2) = flat ++ vs := by
 have u36 := run_underlying Try.underlying36
 have u3 := run_underlying Try.underlying3
 obtain ⟨ii, hii, his, hib, hiz⟩ := info65
 have hz1 : ¬ ((1 : Int) = 0) := by omega
 let cur1 : Array Value := (cur.toList.take (n * 2) ++ vs ++ cur.toList.drop (n * 2 + vs.length)).toArray
 have hr : ∀ ty, (Builtin.append_ #[36, 36] ty #[.slice (some ⟨g, 0, none⟩) n cap, .slice (some ⟨gv, 0, none⟩) 1 cv]).run Try.prog w = .ok (.slice (some ⟨g, 0, none⟩) (n + 1) cap) (w.setRow g cur1) := fun ty => by
  have := run_append_room w 36 ty 65 ii Try.underlying36 hii g n cap cur hg ⟨gv, 0, none⟩ 1 cv vs (by rw [hvl, his]) (fun j u hj => by
   rw [Addr.add_lit, Nat.zero_add]
   have hj' := (List.getElem?_eq_some_iff.1 hj).1
   rw [← hvs, List.getElem?_take_of_lt (by omega)] at hj
   simp only [World.cell?, hv]; simpa using hj) h1v hroom (by rw [his, hvl, hcs]; omega)
  rw [his] at this
  exact this
 have hfin : cur1.size = cap * 2 ∧ cur1.toList.take ((n + 1) * 2) = flat ++ vs := by
  refine ⟨by simp only [cur1, List.size_toArray, List.length_append, List.length_take, List.length_drop, Array.length_toList, hcs, hvl]; omega, ?_⟩
  simp only [cur1, List.toList_toArray, hfl]
  have hl : flat.length = n * 2 := by rw [← hfl, List.length_take, Array.length_toList]; omega
  refine (List.take_append_of_le_length ?_).trans (List.take_of_length_le ?_) <;> (simp only [List.length_append, hvl, hl]; omega)
 have hcm' : cap ≤ 9223372036854775807 := by simp only [maxLen] at hcm; omega
 clear_value cur1
 have mixed : Try.prog.follows .mixedOrders = true := by kernel_rfl
 go_enter Try.func32, Try.ntmps32
 go_wp2_with (at_builtin; refine wpl_app _ rfl _ _ 36 36 rfl _ _ rfl rfl (hr _) ?_)
 go_ret
 exact ⟨rfl, cur1, rfl, hfin.1, hfin.2⟩

set_option maxHeartbeats 4000000 in
set_option maxRecDepth 100000 in
/-- At the end, without room: a new row. -/
theorem ins_end_grow (base : Option Addr) (n cap gv cv : Nat) (cuv : Array Value) (flat vs : List Value) (w : World) (hnc : n ≤ cap) (hroom : cap < n + 1) (hbig : (n + 1) * 16 ≤ 140737488355328)
 (hold : (Builtin.firstCells 2 n (.slice base n cap)).run Try.prog w.drew = .ok flat.toArray w.drew)
 (hv : w.heap[gv]? = some (.cells cuv 65 (0, 0))) (hvs : cuv.toList.take 2 = vs) (hvl : vs.length = 2) (h1v : ∀ u ∈ vs, u.oneCell' = true) :
 Calls Try.prog 32 #[.slice base n cap, .int .i64 n, .slice (some ⟨gv, 0, none⟩) 1 cv] w fun e w' =>
  e = .returned (.slice (some ⟨w.heap.size, 0, none⟩) (n + 1) (grownCap w (n + 1) cap 65)) ∧
    w' = w.drew.alloc (.cells ((flat ++ vs).toArray ++ Builtin.zeroCells #[.int .i64 0, .int .i64 0] (grownCap w (n + 1) cap 65 - (n + 1))) 65) := by
 have u36 := run_underlying Try.underlying36
 have u3 := run_underlying Try.underlying3
 obtain ⟨ii, hii, his, hib, hiz⟩ := info65
 have hz1 : ¬ ((1 : Int) = 0) := by omega
 have hsrc : Go.Src Try.prog 2 36 (.slice (some ⟨gv, 0, none⟩) 1 cv) 1 vs w := Go.Src.ofSlice w Try.underlying36 ⟨gv, 0, none⟩ 1 cv vs (by omega) (fun j u hj => by
  rw [Addr.add_lit, Nat.zero_add]
  have hj' := (List.getElem?_eq_some_iff.1 hj).1
  rw [← hvs, List.getElem?_take_of_lt (by omega)] at hj
  simp only [World.cell?, hv]; simpa using hj) h1v
 have hr : ∀ ty, (Builtin.append_ #[36, 36] ty #[.slice base n cap, .slice (some ⟨gv, 0, none⟩) 1 cv]).run Try.prog w = _ := fun ty =>
  run_append_grow_src w 36 36 ty 65 ii _ Try.underlying36 hii hiz base n cap flat (by rw [his]; exact hold) _ 1 vs (by rw [his]; exact hsrc) hroom (by omega) (by rw [hib]; exact growslice_fits hroom hbig)
 have mixed : Try.prog.follows .mixedOrders = true := by kernel_rfl
 go_enter Try.func32, Try.ntmps32
 cases base with
 | none =>
   go_wp2_with (at_builtin; refine wpl_app _ rfl _ _ 36 36 rfl _ _ rfl rfl (hr _) ?_)
   all_goals (go_ret; exact ⟨rfl, rfl⟩)
 | some a =>
   obtain ⟨ab, ao, asp⟩ := a
   go_wp2_with (at_builtin; refine wpl_app _ rfl _ _ 36 36 rfl _ _ rfl rfl (hr _) ?_)
   all_goals (go_ret; exact ⟨rfl, rfl⟩)

set_option maxHeartbeats 4000000 in
set_option maxRecDepth 100000 in
/-- Ahead of the end, without room: a new row. -/
theorem ins_grow (g n cap i gv cv : Nat) (cur cuv : Array Value) (flat vs : List Value) (w : World) (hi : i < n) (hnc : n ≤ cap) (hroom : cap < n + 1) (hbig : (n + 1) * 16 ≤ 140737488355328)
 (hg : w.heap[g]? = some (.cells cur 65 (0, 0))) (hcs : cur.size = cap * 2) (hfl : cur.toList.take (n * 2) = flat) (h1 : ∀ u ∈ flat, u.oneCell' = true)
 (hv : w.heap[gv]? = some (.cells cuv 65 (0, 0))) (hvs : cuv.toList.take 2 = vs) (hvl : vs.length = 2) (h1v : ∀ u ∈ vs, u.oneCell' = true) :
 Calls Try.prog 32 #[.slice (some ⟨g, 0, none⟩) n cap, .int .i64 i, .slice (some ⟨gv, 0, none⟩) 1 cv] w fun e w' =>
  ∃ G, e = .returned (.slice (some ⟨w.heap.size, 0, none⟩) (n + 1) G) ∧ n + 1 ≤ G ∧ G ≤ maxLen ∧ (∀ b, b < w.heap.size → w'.heap[b]? = w.heap[b]?) ∧ w'.os = w.os ∧ w'.tape = w.tape ∧ w'.output = w.output ∧ w.heap.size ≤ w'.heap.size ∧ w.drawn ≤ w'.drawn ∧
    ∃ cur' : Array Value, w'.heap[w.heap.size]? = some (.cells cur' 65 (0, 0)) ∧ cur'.size = G * 2 ∧ cur'.toList.take ((n + 1) * 2) = flat.take (i * 2) ++ vs ++ flat.drop (i * 2) := by
 have u36 := run_underlying Try.underlying36
 have u3 := run_underlying Try.underlying3
 have hlen : flat.length = n * 2 := by rw [← hfl, List.length_take, Array.length_toList]; omega
 obtain ⟨ii, hii, his, hib, hiz⟩ := info65
 have hcf : ∀ j u, flat[j]? = some u → w.cell? ⟨g, j, none⟩ = some u := fun j u hu => by
  have hj := (List.getElem?_eq_some_iff.1 hu).1
  rw [← hfl, List.getElem?_take_of_lt (by omega)] at hu
  simp only [World.cell?, hg]; simpa using hu
 have hgw : g < w.heap.size := (Array.getElem?_eq_some_iff.1 hg).1
 have hvw : gv < w.heap.size := (Array.getElem?_eq_some_iff.1 hv).1
 have hz1 : ¬ ((1 : Int) = 0) := by omega
 have hz2 : ¬ ((i : Int) = (n : Int)) := by omega
 have hz3 : (cap : Int) < (n : Int) + 1 := by omega
 have hkk : (n : Int) + 1 - (i : Int) = ((n + 1 - i : Nat) : Int) := by omega
 have hik : i + (n + 1 - i) = n + 1 := by omega
 have hold : (Builtin.firstCells ii.size i (.slice (some ⟨g, 0, none⟩) i cap)).run Try.prog w.drew = .ok (flat.take (i * 2)).toArray w.drew := by
  rw [his]
  exact run_firstCells_some w.drew 2 i ⟨g, 0, none⟩ i cap (flat.take (i * 2)) (by rw [List.length_take]; omega) (fun j v hj => by
   rw [Addr.add_lit, Nat.zero_add]
   have hj' := (List.getElem?_eq_some_iff.1 hj).1
   rw [List.length_take] at hj'
   rw [List.getElem?_take_of_lt (by omega)] at hj
   exact hcf j v hj)
 let G := grownCap w (n + 1) cap 65
 have hGn : n + 1 ≤ G := grownCap_ge w _ _ _
 let ROW : Array Value := (flat.take (i * 2)).toArray ++ Builtin.zeroCells #[.int .i64 0, .int .i64 0] (n + 1 - i) ++ Builtin.zeroCells #[.int .i64 0, .int .i64 0] (G - (n + 1))
 have hR : ROW.size = G * 2 := by
  simp only [ROW, Array.size_append, size_zeroCells, List.size_toArray, List.length_take, hlen]
  simp; omega
 have hRt : ROW.toList.take (i * 2) = flat.take (i * 2) := by
  simp only [ROW, Array.toList_append, List.toList_toArray, List.append_assoc]
  rw [List.take_append_of_le_length (by rw [List.length_take]; omega), List.take_take, Nat.min_self]
 have hrz : ∀ ty, (Builtin.append_ #[36, 3] ty #[.slice (some ⟨g, 0, none⟩) i cap, .int .i64 ((n : Int) + 1 - (i : Int))]).run Try.prog w =
  .ok (.slice (some ⟨w.heap.size, 0, none⟩) (n + 1) G) (w.drew.alloc (.cells ROW 65)) := fun ty => by
  have h := Lib.run_append_grow_zeros w 36 3 ty 65 ii _ .i64 .i64 Try.underlying36 Try.underlying3 hii hiz (some ⟨g, 0, none⟩) i cap (flat.take (i * 2)) hold (n + 1 - i) (by omega) (by omega) (by omega) (by omega) (by rw [hib]; omega) (by rw [hib, hik]; exact growslice_fits hroom hbig)
  rw [hik] at h
  rw [hkk]
  exact h
 obtain ⟨W1, hW1⟩ : ∃ W1, W1 = (w.alloc (.cells ROW 65)).drew := ⟨_, rfl⟩
 have hN0 : W1.heap[w.heap.size]? = some (.cells ROW 65 (0, 0)) := by rw [hW1]; exact heap_alloc_new w _
 have hold1 : ∀ b, b < w.heap.size → W1.heap[b]? = w.heap[b]? := fun b hb => by rw [hW1]; exact heap_alloc_old w _ hb
 let R1 : Array Value := (ROW.toList.take (i * 2) ++ vs ++ ROW.toList.drop (i * 2 + vs.length)).toArray
 have hcpA : ∀ ty dc, (Builtin.copy_ #[36, 36] ty #[.slice (some ⟨w.heap.size, i * 2, none⟩) (n + 1 - i) dc, .slice (some ⟨gv, 0, none⟩) 1 cv]).run Try.prog W1 = .ok (goInt ((1 : Nat) : Int)) (W1.setRow w.heap.size R1) := fun ty dc =>
  copyK W1 36 36 ty 65 w.heap.size (i * 2) (n + 1 - i) dc ⟨gv, 0, none⟩ 1 cv ROW 65 vs 1 2 Try.underlying36 hii his (by simp only [Nat.min_def]; split <;> omega) hN0 (by omega)
   (fun j v hj => by
     rw [Addr.add_lit, Nat.zero_add]
     have hj' := (List.getElem?_eq_some_iff.1 hj).1
     rw [← hvs, List.getElem?_take_of_lt (by omega)] at hj
     simp only [World.cell?, hold1 gv hvw, hv]; simpa using hj) (by rw [hvl, hR]; omega) h1v
 have hR1 : R1.size = G * 2 := by
  simp only [R1, List.size_toArray, List.length_append, List.length_take, List.length_drop, Array.length_toList, hR, hvl]; omega
 have hN1 : (W1.setRow w.heap.size R1).heap[w.heap.size]? = some (.cells R1 65 (0, 0)) := setRow_heap W1 w.heap.size ROW R1 65 (0, 0) hN0
 have hN1o : ∀ b, b < w.heap.size → (W1.setRow w.heap.size R1).heap[b]? = w.heap[b]? := fun b hb => by rw [setRow_other W1 w.heap.size b R1 (by omega)]; exact hold1 b hb
 have hdl : (flat.drop (i * 2)).length = (n - i) * 2 := by rw [List.length_drop, hlen, Nat.sub_mul]
 let R2 : Array Value := (R1.toList.take ((i + 1) * 2) ++ flat.drop (i * 2) ++ R1.toList.drop ((i + 1) * 2 + (flat.drop (i * 2)).length)).toArray
 have hcpB : ∀ ty dc sc, (Builtin.copy_ #[36, 36] ty #[.slice (some ⟨w.heap.size, (i + 1) * 2, none⟩) (n - i) dc, .slice (some ⟨g, i * 2, none⟩) (n - i) sc]).run Try.prog (W1.setRow w.heap.size R1).drew = .ok (goInt ((n - i : Nat) : Int)) ((W1.setRow w.heap.size R1).drew.setRow w.heap.size R2) := fun ty dc sc =>
  copyK (W1.setRow w.heap.size R1).drew 36 36 ty 65 w.heap.size ((i + 1) * 2) (n - i) dc ⟨g, i * 2, none⟩ (n - i) sc R1 65 (flat.drop (i * 2)) (n - i) 2 Try.underlying36 hii his (Nat.min_self _) hN1 hdl
   (fun j v hj => by
     rw [Addr.add_lit]; rw [List.getElem?_drop] at hj
     have := hcf _ v hj
     simp only [World.cell?] at this ⊢
     rw [show (W1.setRow w.heap.size R1).drew.heap[g]? = w.heap[g]? from hN1o g hgw]; exact this) (by rw [hdl, hR1]; omega) (fun v hv => h1 v (List.mem_of_mem_drop hv))
 have hfin : R2.size = G * 2 ∧ R2.toList.take ((n + 1) * 2) = flat.take (i * 2) ++ vs ++ flat.drop (i * 2) := by
  refine ⟨by simp only [R2, List.size_toArray, List.length_append, List.length_take, List.length_drop, Array.length_toList, hR1, hlen]; omega, ?_⟩
  have e1 : R1.toList.take ((i + 1) * 2) = flat.take (i * 2) ++ vs := by
   simp only [R1, List.toList_toArray, hRt]
   refine (List.take_append_of_le_length ?_).trans (List.take_of_length_le ?_) <;> (simp only [List.length_append, List.length_take, hvl, hlen]; omega)
  simp only [R2, List.toList_toArray, e1]
  refine (List.take_append_of_le_length ?_).trans (List.take_of_length_le ?_) <;> (simp only [List.length_append, List.length_take, hvl, hdl, hlen]; omega)
 have hGm : G ≤ maxLen := grownCap_le_maxLen w (n + 1) cap 65 (by unfold maxLen; omega)
 have hG63 : G ≤ 9223372036854775807 := by unfold maxLen at hGm; exact hGm
 have hGi : ¬ (G = i) := by omega
 have hGim : ¬ (G = i + 1) := by omega
 have hci : ¬ (cap = i) := by omega
 have hw1 : IntKind.i64.wrap ((i : Int) + 1) = (i : Int) + 1 := by rw [IntKind.wrap_i64]; omega
 have hb1 : (0 : Int) ≤ (i : Int) + 1 := by omega
 have hb3 : (i : Int) ≤ (n : Int) := by omega
 have hb4 : (i : Int) ≤ (n : Int) + 1 := by omega
 have htn : ((i : Int) + 1).toNat = i + 1 := by omega
 have hin : i ≤ n := by omega
 have hfs : ((W1.setRow w.heap.size R1).drew.setRow w.heap.size R2).heap[w.heap.size]? = some (.cells R2 65 (0, 0)) := setRow_heap (W1.setRow w.heap.size R1).drew w.heap.size R1 R2 65 (0, 0) hN1
 have hfo : ∀ b, b < w.heap.size → ((W1.setRow w.heap.size R1).drew.setRow w.heap.size R2).heap[b]? = w.heap[b]? := fun b hb => by
  rw [setRow_other (W1.setRow w.heap.size R1).drew w.heap.size b R2 (by omega)]; exact hN1o b hb
 have hfz : w.heap.size ≤ ((W1.setRow w.heap.size R1).drew.setRow w.heap.size R2).heap.size := by
  have := (Array.getElem?_eq_some_iff.1 hfs).1
  omega
 have hos : W1.os = w.os ∧ W1.tape = w.tape ∧ W1.output = w.output ∧ w.drawn ≤ W1.drawn := by rw [hW1]; exact ⟨rfl, rfl, rfl, Nat.le_succ _⟩
 clear_value R1 R2 ROW
 have mixed : Try.prog.follows .mixedOrders = true := by kernel_rfl
 clear hkk hik hold
 clear_value G
 subst hW1
 go_enter Try.func32, Try.ntmps32
 go_wp2_with (first
  | (at_builtin; refine wpl_app _ rfl _ _ 36 3 rfl _ _ rfl rfl (hrz _) ?_)
  | (at_builtin; refine wpl_copy _ rfl _ _ 36 36 rfl _ _ rfl rfl (hcpA _ _) ?_))
 go_region_law_o (refine step_copy rfl _ _ 36 36 rfl _ _ (by simp [Act.eval, Act.put]) (by simp [Act.eval, Act.put]) (hcpB _ _ _) ?_)
 go_wp2
 go_ret
 exact ⟨G, rfl, hGn, hGm, hfo, hos.1, hos.2.1, hos.2.2.1, hfz, Nat.le_trans hos.2.2.2 (Nat.le_succ _), R2, hfs, hfin.1, hfin.2⟩
end Go.Proofs.Ythbcniifeeoplaa
