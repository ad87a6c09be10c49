/- The contracts of the functions that the statements about custody reach, continued. -/
import Derived.Test.YthbcniifeeoplaaCuA
set_option linter.unusedSimpArgs false
set_option linter.unusedVariables false
set_option maxRecDepth 100000
set_option maxHeartbeats 4000000
namespace Go.Proofs.Ythbcniifeeoplaa
open Go.Ev

abbrev Src := List Int × Int
def Src.raw (s : Src) : Int := if s.2 ≥ s.1.length then 0 else s.1.getD s.2.toNat 0
def Src.step (s : Src) : Src := if s.2 ≥ s.1.length then s else (s.1, s.2 + 1)
def con29 : Con := { ps := [.p 58 (.pair (.sl (.int .i64)) (.int .i64))], rs := [.d false (.int .i64)], pre := fun x => 0 ≤ x.1.2, out := fun x => (Src.raw x.1, ()), nw := fun x => (Src.step x.1, ()) }
theorem c29 : CtrOk Try.prog 29 con29.ctr :=
  con_sound (G := ⟨[], []⟩) tab_ok EnvOk.nil rfl Try.func29 rfl con29 4101 (by kernel_rfl) (by decide) (by decide) rfl (by decide) rfl (by
    rintro ⟨⟨(l : List Int), (a : Int)⟩, _⟩ hpre hwf X hT hG hk hK
    (simp only [go_sem, Nat.reduceAdd, Nat.reduceMul, Nat.reduceSub, Nat.reduceEqDiff, Nat.reduceLT, Nat.reduceLeDiff, Nat.reduceShiftRight, Nat.reduceMod, Nat.reduceBEq, reduceCtorEq, reduceIte, reduceDIte, Int.reduceNeg, con29, hT, hG, hk, hK, Try.results29] at hwf ⊢); (try simp (disch := decide +kernel) only [drawn, true_and, and_true])
    intro hl
    have hpre : 0 ≤ a := hpre
    have hl' := hl
    simp only [maxLen] at hl'
    unfold Src.step Src.raw
    refine ⟨fun h => ?_, fun h => ⟨⟨by omega, by omega⟩, ⟨by omega, by omega⟩, ⟨by omega, by omega⟩, fun _ _ => ?_⟩⟩
    · simp [show (a : Int) ≥ (l.length : Int) from h]
    · simp [show ¬ (a : Int) ≥ (l.length : Int) from h])

def con10 : Con := { ps := [.p 58 (.pair (.sl (.int .i64)) (.int .i64)), .d false (.int .i64)], rs := [.d false (.int .i64)], pre := fun x => 0 ≤ x.1.2, out := fun x => (goMod (Src.raw x.1) x.2.1, ()), nw := fun x => (Src.step x.1, x.2) }
theorem c10 : CtrOk Try.prog 10 con10.ctr :=
  con_sound (G := ⟨[(29, con29.ctr), (13, con13.ctr)], []⟩) tab_ok (EnvOk.cons c29 has29 (EnvOk.cons c13 has13 EnvOk.nil)) rfl Try.func10 rfl con10 19 (by kernel_rfl) (by decide) (by decide) rfl (by decide) rfl (by
    rintro ⟨⟨(l : List Int), (a : Int)⟩, (n : Int), _⟩ hpre hwf X hT hG hk hK
    (simp only [go_sem, Nat.reduceAdd, Nat.reduceMul, Nat.reduceSub, Nat.reduceEqDiff, Nat.reduceLT, Nat.reduceLeDiff, Nat.reduceShiftRight, Nat.reduceMod, Nat.reduceBEq, reduceCtorEq, reduceIte, reduceDIte, Int.reduceNeg, con10, con29, con13, hT, hG, hk, hK, Try.results10] at hwf ⊢); (try simp (disch := decide +kernel) only [drawn, true_and, and_true])
    exact hpre)

def con9 : Con := { ps := [.d false (.sl (.int .i64))], rs := [.p 58 (.pair (.sl (.int .i64)) (.int .i64))], pre := fun x => True, out := fun x => ((x.1.take 2000, 0), ()), nw := id }
theorem c9 : CtrOk Try.prog 9 con9.ctr :=
  con_sound (G := ⟨[], []⟩) tab_ok EnvOk.nil rfl Try.func9 rfl con9 37 (by kernel_rfl) (by decide) (by decide) rfl (by decide) rfl (by
    rintro ⟨(l : List Int), _⟩ hpre hwf X hT hG hk hK
    (simp only [go_sem, Nat.reduceAdd, Nat.reduceMul, Nat.reduceSub, Nat.reduceEqDiff, Nat.reduceLT, Nat.reduceLeDiff, Nat.reduceShiftRight, Nat.reduceMod, Nat.reduceBEq, reduceCtorEq, reduceIte, reduceDIte, Int.reduceNeg, con9, hT, hG, hk, hK, Try.results9] at hwf ⊢); (try simp (disch := decide +kernel) only [drawn, true_and, and_true])
    refine fun _ => ⟨fun h => ⟨⟨by omega, by omega, by omega⟩, rfl⟩, fun h => ?_⟩
    rw [List.take_of_length_le (by omega)])

def setStep (m : List (Int × Bool)) (x : Int) : List (Int × Bool) := mset (kt := .int .i64) m x true
def setOf (l : List Int) : List (Int × Bool) := l.foldl setStep []
theorem setOf_get (l : List Int) (x : Int) : mget (kt := .int .i64) (setOf l) x = if x ∈ l then some true else none := by
  have key : ∀ (l : List Int) (m : List (Int × Bool)), mget (kt := .int .i64) (l.foldl setStep m) x = if x ∈ l then some true else mget (kt := .int .i64) m x := by
    intro l
    induction l with
    | nil => intro m; simp
    | cons y l ih =>
      intro m
      rw [List.foldl_cons, ih]
      have hs : ∀ m : List (Int × Bool), mget (kt := .int .i64) (setStep m y) x = if x = y then some true else mget (kt := .int .i64) m x := by
        intro m
        unfold setStep
        induction m with
        | nil => simp [mset, mget, keyEq]
        | cons p m ih =>
          obtain ⟨k, v⟩ := p
          simp only [mset, keyEq, decide_eq_true_eq]
          by_cases h1 : y = k
          · subst h1
            simp only [if_true, mget, keyEq, decide_eq_true_eq]
            by_cases h2 : x = y <;> simp [h2]
          · simp only [if_neg h1, mget, keyEq, decide_eq_true_eq, ih]
            by_cases h2 : x = k
            · subst h2; simp [Ne.symm h1]
            · simp [h2]
      rw [hs]
      by_cases h : x ∈ l
      · simp [h]
      · by_cases h2 : x = y <;> simp [h, h2]
  rw [setOf, key]
  simp [mget]

def con30 : Con := { ps := [.d false (.sl (.int .i64))], rs := [.mp (.int .i64) .bool false false], pre := fun x => True, out := fun x => (setOf x.1, ()), nw := id }
theorem c30 : CtrOk Try.prog 30 con30.ctr :=
  con_sound (G := ⟨[], []⟩) tab_ok EnvOk.nil rfl Try.func30 rfl con30 1965 (by kernel_rfl) (by decide) (by decide) rfl (by decide) rfl (by
    rintro ⟨(l : List Int), _⟩ hpre hwf X hT hG hk hK
    (simp only [go_sem, Nat.reduceAdd, Nat.reduceMul, Nat.reduceSub, Nat.reduceEqDiff, Nat.reduceLT, Nat.reduceLeDiff, Nat.reduceShiftRight, Nat.reduceMod, Nat.reduceBEq, reduceCtorEq, reduceIte, reduceDIte, Int.reduceNeg, con30, hT, hG, hk, hK, Try.results30] at hwf ⊢); (try simp (disch := decide +kernel) only [drawn, true_and, and_true])
    intro hl
    refine evk_loop ⟨{ i : Nat // i ≤ l.length }, 1000, fun i => [(3, .one (.map 64)), (7, .one (.sl (.int .i64) l false)), (8, .one (.int .i64 l.length)), (9, .one (.int .i64 i.1))], fun i => [(64, .mapb (.int .i64) .bool false false (setOf (l.take i.1)))], fun i => l.length - i.1⟩ ⟨0, by simp⟩ ?_ ?_
    · simp only [go_sem, Nat.reduceAdd, Nat.reduceMul, Nat.reduceSub, Nat.reduceEqDiff, Nat.reduceLT, Nat.reduceLeDiff, Nat.reduceShiftRight, Nat.reduceMod, Nat.reduceBEq, reduceCtorEq, reduceIte, reduceDIte, Int.reduceNeg]
      exact ⟨rfl, rfl⟩
    · rintro ⟨i, hi⟩
      (simp only [go_sem, Nat.reduceAdd, Nat.reduceMul, Nat.reduceSub, Nat.reduceEqDiff, Nat.reduceLT, Nat.reduceLeDiff, Nat.reduceShiftRight, Nat.reduceMod, Nat.reduceBEq, reduceCtorEq, reduceIte, reduceDIte, Int.reduceNeg, con30, hT, hG, hk, hK, Try.results30]); (try simp (disch := decide +kernel) only [drawn, true_and, and_true])
      refine ⟨fun hlt => ⟨⟨by omega, hlt⟩, fun _ _ => ⟨by simp only [maxLen] at hl; omega, fin_lp ⟨i + 1, by omega⟩ ?_ ?_⟩⟩, fun hge => by rw [List.take_of_length_le (by omega)]⟩
      · simp only [go_sem, Nat.reduceAdd, Nat.reduceMul, Nat.reduceSub, Nat.reduceEqDiff, Nat.reduceLT, Nat.reduceLeDiff, Nat.reduceShiftRight, Nat.reduceMod, Nat.reduceBEq, reduceCtorEq, reduceIte, reduceDIte, Int.reduceNeg]
        have hi' : i < l.length := by omega
        rw [List.take_succ_eq_append_getElem hi', setOf, setOf, List.foldl_append]
        simp [setStep, hi']
      · show l.length - (i + 1) < l.length - i
        omega)

abbrev Votes := Int × Int × List Int × List Int
def openV (v : Votes) : Int × Bool := if v.1 ≠ v.2.1 ∨ v.1 < 1 ∨ v.1 > 40 ∨ v.1 ∉ v.2.2.1 ∨ v.1 ∉ v.2.2.2 then (0, false) else (v.1, true)
def con11 : Con := { ps := [.d true (.pair (.int .i64) (.pair (.int .i64) (.pair (.sl (.int .i64)) (.sl (.int .i64)))))], rs := [.d false (.int .i64), .d false .bool], pre := fun x => True, out := fun x => ((openV x.1).1, (openV x.1).2, ()), nw := id }
theorem c11 : CtrOk Try.prog 11 con11.ctr :=
  con_sound (G := ⟨[(30, con30.ctr)], []⟩) tab_ok (EnvOk.cons c30 has30 EnvOk.nil) rfl Try.func11 rfl con11 274877907071 (by kernel_rfl) (by decide) (by decide) rfl (by decide) rfl (by
    rintro ⟨⟨(a : Int), (b : Int), (c : List Int), (d : List Int)⟩, _⟩ hpre hwf X hT hG hk hK
    (simp only [go_sem, Nat.reduceAdd, Nat.reduceMul, Nat.reduceSub, Nat.reduceEqDiff, Nat.reduceLT, Nat.reduceLeDiff, Nat.reduceShiftRight, Nat.reduceMod, Nat.reduceBEq, reduceCtorEq, reduceIte, reduceDIte, Int.reduceNeg, con11, con30, hT, hG, hk, hK, Try.results11] at hwf ⊢); (try simp (disch := decide +kernel) only [drawn, true_and, and_true])
    simp only [setOf_get, openV]
    clear hwf hpre hT hG hk hK
    by_cases h1 : a = b
    · subst h1
      by_cases h2 : a < 1 <;> by_cases h3 : a > 40 <;> by_cases h4 : a ∈ c <;> by_cases h5 : a ∈ d <;> simp [h2, h3, h4, h5]
    · simp [h1])
def con12 : Con := con11
theorem c12 : CtrOk Try.prog 12 con12.ctr :=
  con_sound (G := ⟨[(14, con14.ctr)], []⟩) tab_ok (EnvOk.cons c14 has14 EnvOk.nil) rfl Try.func12 rfl con12 17179869199 (by kernel_rfl) (by decide) (by decide) rfl (by decide) rfl (by
    rintro ⟨⟨(a : Int), (b : Int), (c : List Int), (d : List Int)⟩, _⟩ hpre hwf X hT hG hk hK
    (simp only [go_sem, Nat.reduceAdd, Nat.reduceMul, Nat.reduceSub, Nat.reduceEqDiff, Nat.reduceLT, Nat.reduceLeDiff, Nat.reduceShiftRight, Nat.reduceMod, Nat.reduceBEq, reduceCtorEq, reduceIte, reduceDIte, Int.reduceNeg, con12, con14, con11, hT, hG, hk, hK, Try.results12] at hwf ⊢); (try simp (disch := decide +kernel) only [drawn, true_and, and_true])
    simp only [openV]
    clear hwf hpre hT hG hk hK
    by_cases h1 : a = b
    · subst h1
      by_cases h2 : a < 1 <;> by_cases h3 : a > 40 <;> by_cases h4 : a ∈ c <;> by_cases h5 : a ∈ d <;> simp [h2, h3, h4, h5]
    · simp [h1])

/-- Clone. -/
def con33 : Con := { ps := [.d false (.sl (.pair (.int .i64) (.int .i64)))], rs := [.o 65 (.pair (.int .i64) (.int .i64))], pre := fun x => x.1.length ≤ 1048576, out := fun x => (x.1, ()), nw := id }
theorem c33 : CtrOk Try.prog 33 con33.ctr :=
  con_sound (G := ⟨[], []⟩) tab_ok EnvOk.nil rfl Try.func33 rfl con33 21 (by kernel_rfl) (by decide) (by decide) rfl (by decide) rfl (by
    rintro ⟨(l : List (Int × Int)), _⟩ hpre hwf X hT hG hk hK
    (simp only [go_sem, Nat.reduceAdd, Nat.reduceMul, Nat.reduceSub, Nat.reduceEqDiff, Nat.reduceLT, Nat.reduceLeDiff, Nat.reduceShiftRight, Nat.reduceMod, Nat.reduceBEq, reduceCtorEq, reduceIte, reduceDIte, Int.reduceNeg, con33, hT, hG, hk, hK, Try.results33] at hwf ⊢); (try simp (disch := decide +kernel) only [drawn, true_and, and_true])
    intro a ha
    have hpre : l.length ≤ 1048576 := hpre
    refine ⟨fun h => (List.eq_nil_of_length_eq_zero (ha h)).symm, fun _ => by omega⟩)
/-- Insert, at the end. -/
def con32 : Con := { ps := [.oc 65 (.pair (.int .i64) (.int .i64)), .d false (.int .i64), .d false (.sl (.pair (.int .i64) (.int .i64)))], rs := [.o 65 (.pair (.int .i64) (.int .i64))], pre := fun x => x.2.1 = x.1.length ∧ x.1.length + x.2.2.1.length ≤ 1048576 ∧ 0 < x.2.2.1.length, out := fun x => (x.1 ++ x.2.2.1, ()), nw := id }
theorem c32 : CtrOk Try.prog 32 con32.ctr :=
  con_sound (G := ⟨[], []⟩) tab_ok EnvOk.nil rfl Try.func32 rfl con32 295147905181504570311 (by kernel_rfl) (by decide) (by decide) rfl (by decide) rfl (by
    rintro ⟨(l : List (Int × Int)), (i : Int), (v : List (Int × Int)), _⟩ hpre hwf X hT hG hk hK
    (simp only [go_sem, Nat.reduceAdd, Nat.reduceMul, Nat.reduceSub, Nat.reduceEqDiff, Nat.reduceLT, Nat.reduceLeDiff, Nat.reduceShiftRight, Nat.reduceMod, Nat.reduceBEq, reduceCtorEq, reduceIte, reduceDIte, Int.reduceNeg, con32, hT, hG, hk, hK, Try.results32] at hwf ⊢); (try simp (disch := decide +kernel) only [drawn, true_and, and_true])
    obtain ⟨h1, h2, h3⟩ : i = l.length ∧ l.length + v.length ≤ 1048576 ∧ 0 < v.length := hpre
    refine ⟨by omega, fun _ _ => ⟨fun h => by omega, fun _ _ => ⟨fun _ => by omega, fun h => absurd h1 h⟩⟩⟩)
def con23 : Con := { ps := [.d true (.sl (.pair (.int .i64) (.int .i64)))], rs := [.d false (.sl (.int .i64))], pre := fun x => x.1.length ≤ 1048576, out := fun x => (x.1.map (·.1), ()), nw := id }
theorem c23 : CtrOk Try.prog 23 con23.ctr :=
  con_sound (G := ⟨[], []⟩) tab_ok EnvOk.nil rfl Try.func23 rfl con23 1967 (by kernel_rfl) (by decide) (by decide) rfl (by decide) rfl (by
    rintro ⟨(l : List (Int × Int)), _⟩ hpre hwf X hT hG hk hK
    (simp only [go_sem, Nat.reduceAdd, Nat.reduceMul, Nat.reduceSub, Nat.reduceEqDiff, Nat.reduceLT, Nat.reduceLeDiff, Nat.reduceShiftRight, Nat.reduceMod, Nat.reduceBEq, reduceCtorEq, reduceIte, reduceDIte, Int.reduceNeg, con23, hT, hG, hk, hK, Try.results23] at hwf ⊢); (try simp (disch := decide +kernel) only [drawn, true_and, and_true])
    intro hl
    have hl2 : l.length ≤ 1048576 := hpre
    refine evk_loop ⟨{ i : Nat // i ≤ l.length }, 1000, fun i => [(3, .one (.row 64)), (7, .one (.sl (.pair (.int .i64) (.int .i64)) l false)), (8, .one (.int .i64 l.length)), (9, .one (.int .i64 i.1))], fun i => [(64, .row 3 (.int .i64) ((l.take i.1).map (·.1)))], fun i => l.length - i.1⟩ ⟨0, by simp⟩ ?_ ?_
    · simp only [go_sem, Nat.reduceAdd, Nat.reduceMul, Nat.reduceSub, Nat.reduceEqDiff, Nat.reduceLT, Nat.reduceLeDiff, Nat.reduceShiftRight, Nat.reduceMod, Nat.reduceBEq, reduceCtorEq, reduceIte, reduceDIte, Int.reduceNeg]
      rfl
    · rintro ⟨i, hi⟩
      (simp only [go_sem, Nat.reduceAdd, Nat.reduceMul, Nat.reduceSub, Nat.reduceEqDiff, Nat.reduceLT, Nat.reduceLeDiff, Nat.reduceShiftRight, Nat.reduceMod, Nat.reduceBEq, reduceCtorEq, reduceIte, reduceDIte, Int.reduceNeg, con23, hT, hG, hk, hK, Try.results23]); (try simp (disch := decide +kernel) only [drawn, true_and, and_true])
      refine ⟨fun hlt => ⟨⟨by omega, hlt⟩, fun _ _ => ⟨by rw [List.length_map, List.length_take]; omega, ⟨by omega, by omega⟩, fin_lp ⟨i + 1, by omega⟩ ?_ ?_⟩⟩, fun hge => by rw [List.take_of_length_le (by omega)]⟩
      · simp only [go_sem, Nat.reduceAdd, Nat.reduceMul, Nat.reduceSub, Nat.reduceEqDiff, Nat.reduceLT, Nat.reduceLeDiff, Nat.reduceShiftRight, Nat.reduceMod, Nat.reduceBEq, reduceCtorEq, reduceIte, reduceDIte, Int.reduceNeg]
        have hi' : i < l.length := by omega
        have e : (l.take (i + 1)).map (·.1) = (l.take i).map (·.1) ++ [(l.getD i (0, 0)).1] := by
          rw [List.take_succ_eq_append_getElem hi', List.map_append]
          simp [hi']
        simp only [Int.toNat_natCast]
        exact ⟨by rw [e], by omega⟩
      · show l.length - (i + 1) < l.length - i
        omega)
/-- A function that is not called. -/
structure NoC where
  ctr : Ctr
def con48 : NoC := ⟨fun _ _ _ => ⟨False, .one (.int .i64 0), [], True⟩⟩
theorem c48 : CtrOk Try.prog 48 con48.ctr := by
  intro cx σ N m w fr avs vs _ _ _ h
  exact h.elim
def con47 : Con := { ps := [.d false (.sl (.pair (.int .i64) (.int .i64))), .d false (.int .i64), .cl 48 [.fb 80 40]], rs := [.d false (.int .i64), .d false .bool], pre := fun x => x.1 = [], out := fun x => (0, false, ()), nw := id }
theorem c47 : CtrOk Try.prog 47 con47.ctr :=
  con_sound (G := ⟨[(48, con48.ctr)], []⟩) tab_ok (EnvOk.cons c48 has48 EnvOk.nil) rfl Try.func47 rfl con47 2147618759 (by kernel_rfl) (by decide) (by decide) rfl (by decide) rfl (by
    rintro ⟨(l : List (Int × Int)), (key : Int), c, _⟩ hpre hwf X hT hG hk hK
    obtain rfl : l = [] := hpre
    (simp only [go_sem, Nat.reduceAdd, Nat.reduceMul, Nat.reduceSub, Nat.reduceEqDiff, Nat.reduceLT, Nat.reduceLeDiff, Nat.reduceShiftRight, Nat.reduceMod, Nat.reduceBEq, reduceCtorEq, reduceIte, reduceDIte, Int.reduceNeg, con47, con48, hT, hG, hk, hK, Try.results47] at hwf ⊢); (try simp (disch := decide +kernel) only [drawn, true_and, and_true])
    intro _
    refine evk_loop ⟨Unit, 1000, fun _ => [(0, .one (.sl (.pair (.int .i64) (.int .i64)) [] false)), (1, .one (.int .i64 key)), (2, .one (.fn 48 [.loc 24 0])), (8, .one (.int .i64 0)), (9, .one (.int .i64 0)), (10, .one (.int .i64 0))], fun i => [(24, .cells 80 [.fn 40 []])], fun i => 0⟩ () ?_ ?_
    · simp only [go_sem, Nat.reduceAdd, Nat.reduceMul, Nat.reduceSub, Nat.reduceEqDiff, Nat.reduceLT, Nat.reduceLeDiff, Nat.reduceShiftRight, Nat.reduceMod, Nat.reduceBEq, reduceCtorEq, reduceIte, reduceDIte, Int.reduceNeg]
      rfl
    · rintro ⟨⟩
      (simp only [go_sem, Nat.reduceAdd, Nat.reduceMul, Nat.reduceSub, Nat.reduceEqDiff, Nat.reduceLT, Nat.reduceLeDiff, Nat.reduceShiftRight, Nat.reduceMod, Nat.reduceBEq, reduceCtorEq, reduceIte, reduceDIte, Int.reduceNeg, con47, con48, hT, hG, hk, hK, Try.results47]); (try simp (disch := decide +kernel) only [drawn, true_and, and_true])
      refine ⟨fun h => absurd h (by omega), fun _ => ?_⟩
      exact ⟨fun h => absurd h (by omega), fun _ _ h => absurd h (by omega)⟩)
def con39 : Con := { ps := [.d false (.sl (.pair (.int .i64) (.int .i64))), .d false (.int .i64), .cl 40 []], rs := [.d false (.int .i64), .d false .bool], pre := fun x => x.1 = [], out := fun x => (0, false, ()), nw := id }
theorem c39 : CtrOk Try.prog 39 con39.ctr :=
  con_sound (G := ⟨[(47, con47.ctr)], []⟩) tab_ok (EnvOk.cons c47 has47 EnvOk.nil) rfl Try.func39 rfl con39 231 (by kernel_rfl) (by decide) (by decide) rfl (by decide) rfl (by
    rintro ⟨(l : List (Int × Int)), (key : Int), c, _⟩ hpre hwf X hT hG hk hK
    obtain rfl : l = [] := hpre
    (simp only [go_sem, Nat.reduceAdd, Nat.reduceMul, Nat.reduceSub, Nat.reduceEqDiff, Nat.reduceLT, Nat.reduceLeDiff, Nat.reduceShiftRight, Nat.reduceMod, Nat.reduceBEq, reduceCtorEq, reduceIte, reduceDIte, Int.reduceNeg, con39, con47, hT, hG, hk, hK, Try.results39] at hwf ⊢); (try simp (disch := decide +kernel) only [drawn, true_and, and_true]))
def con31 : Con := { ps := [.d true (.sl (.pair (.int .i64) (.int .i64))), .d false (.int .i64)], rs := [.d false (.int .i64), .d false .bool], pre := fun x => x.1 = [], out := fun x => (0, false, ()), nw := id }
theorem c31 : CtrOk Try.prog 31 con31.ctr :=
  con_sound (G := ⟨[(39, con39.ctr)], []⟩) tab_ok (EnvOk.cons c39 has39 EnvOk.nil) rfl Try.func31 rfl con31 55 (by kernel_rfl) (by decide) (by decide) rfl (by decide) rfl (by
    rintro ⟨(l : List (Int × Int)), (key : Int), _⟩ hpre hwf X hT hG hk hK
    obtain rfl : l = [] := hpre
    (simp only [go_sem, Nat.reduceAdd, Nat.reduceMul, Nat.reduceSub, Nat.reduceEqDiff, Nat.reduceLT, Nat.reduceLeDiff, Nat.reduceShiftRight, Nat.reduceMod, Nat.reduceBEq, reduceCtorEq, reduceIte, reduceDIte, Int.reduceNeg, con31, con39, hT, hG, hk, hK, Try.results31] at hwf ⊢); (try simp (disch := decide +kernel) only [drawn, true_and, and_true]))
def con17 : Con := { ps := [.d true (.sl (.pair (.int .i64) (.int .i64))), .d false (.int .i64), .d false (.int .i64)], rs := [.d true (.sl (.pair (.int .i64) (.int .i64))), .d false (.int .i64)], pre := fun x => x.1 = [] ∧ x.2.1 = 3 ∧ x.2.2.1 = 9, out := fun x => ([(3, 9)], 0, ()), nw := id }
theorem c17 : CtrOk Try.prog 17 con17.ctr :=
  con_sound (G := ⟨[(31, con31.ctr), (33, con33.ctr), (32, con32.ctr)], []⟩) tab_ok (EnvOk.cons c31 has31 (EnvOk.cons c33 has33 (EnvOk.cons c32 has32 EnvOk.nil))) rfl Try.func17 rfl con17 2155873231 (by kernel_rfl) (by decide) (by decide) rfl (by decide) rfl (by
    rintro ⟨(l : List (Int × Int)), (bag : Int), (im : Int), _⟩ hpre hwf X hT hG hk hK
    obtain ⟨rfl, rfl, rfl⟩ : l = [] ∧ bag = 3 ∧ im = 9 := hpre
    (simp only [go_sem, Nat.reduceAdd, Nat.reduceMul, Nat.reduceSub, Nat.reduceEqDiff, Nat.reduceLT, Nat.reduceLeDiff, Nat.reduceShiftRight, Nat.reduceMod, Nat.reduceBEq, reduceCtorEq, reduceIte, reduceDIte, Int.reduceNeg, con17, con31, con33, con32, hT, hG, hk, hK, Try.results17] at hwf ⊢); (try simp (disch := decide +kernel) only [drawn, true_and, and_true])
    refine ⟨fun _ => by decide, fun _ => by decide, fun _ => by decide, fun h => absurd h (by decide), fun _ _ _ => rfl⟩)
end Go.Proofs.Ythbcniifeeoplaa
