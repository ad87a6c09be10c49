/- The contracts of the functions that the statements about custody reach: reading numbers, sets, gates. -/
import Derived.Test.YthbcniifeeoplaaCuTab
set_option linter.unusedSimpArgs false
set_option linter.unusedVariables false
set_option maxRecDepth 100000
set_option maxHeartbeats 4000000
namespace Go.Proofs.Ythbcniifeeoplaa
open Go.Ev

theorem has3 : FnHas Try.prog 3 := ⟨⟨_, Try.func3, by kernel_rfl, by kernel_rfl⟩⟩
theorem has4 : FnHas Try.prog 4 := ⟨⟨_, Try.func4, by kernel_rfl, by kernel_rfl⟩⟩
theorem has8 : FnHas Try.prog 8 := ⟨⟨_, Try.func8, by kernel_rfl, by kernel_rfl⟩⟩
theorem has9 : FnHas Try.prog 9 := ⟨⟨_, Try.func9, by kernel_rfl, by kernel_rfl⟩⟩
theorem has10 : FnHas Try.prog 10 := ⟨⟨_, Try.func10, by kernel_rfl, by kernel_rfl⟩⟩
theorem has11 : FnHas Try.prog 11 := ⟨⟨_, Try.func11, by kernel_rfl, by kernel_rfl⟩⟩
theorem has12 : FnHas Try.prog 12 := ⟨⟨_, Try.func12, by kernel_rfl, by kernel_rfl⟩⟩
theorem has13 : FnHas Try.prog 13 := ⟨⟨_, Try.func13, by kernel_rfl, by kernel_rfl⟩⟩
theorem has14 : FnHas Try.prog 14 := ⟨⟨_, Try.func14, by kernel_rfl, by kernel_rfl⟩⟩
theorem has15 : FnHas Try.prog 15 := ⟨⟨_, Try.func15, by kernel_rfl, by kernel_rfl⟩⟩
theorem has16 : FnHas Try.prog 16 := ⟨⟨_, Try.func16, by kernel_rfl, by kernel_rfl⟩⟩
theorem has17 : FnHas Try.prog 17 := ⟨⟨_, Try.func17, by kernel_rfl, by kernel_rfl⟩⟩
theorem has23 : FnHas Try.prog 23 := ⟨⟨_, Try.func23, by kernel_rfl, by kernel_rfl⟩⟩
theorem has29 : FnHas Try.prog 29 := ⟨⟨_, Try.func29, by kernel_rfl, by kernel_rfl⟩⟩
theorem has30 : FnHas Try.prog 30 := ⟨⟨_, Try.func30, by kernel_rfl, by kernel_rfl⟩⟩
theorem has31 : FnHas Try.prog 31 := ⟨⟨_, Try.func31, by kernel_rfl, by kernel_rfl⟩⟩
theorem has32 : FnHas Try.prog 32 := ⟨⟨_, Try.func32, by kernel_rfl, by kernel_rfl⟩⟩
theorem has33 : FnHas Try.prog 33 := ⟨⟨_, Try.func33, by kernel_rfl, by kernel_rfl⟩⟩
theorem has39 : FnHas Try.prog 39 := ⟨⟨_, Try.func39, by kernel_rfl, by kernel_rfl⟩⟩
theorem has47 : FnHas Try.prog 47 := ⟨⟨_, Try.func47, by kernel_rfl, by kernel_rfl⟩⟩
theorem has48 : FnHas Try.prog 48 := ⟨⟨_, Try.func48, by kernel_rfl, by kernel_rfl⟩⟩
theorem has40 : FnHas Try.prog 40 := ⟨⟨_, Try.func40, by kernel_rfl, by kernel_rfl⟩⟩
theorem has49 : FnHas Try.prog 49 := ⟨⟨_, Try.func49, by kernel_rfl, by kernel_rfl⟩⟩
theorem has62 : FnHas Try.prog 62 := ⟨⟨_, Try.func62, by kernel_rfl, by kernel_rfl⟩⟩


/-- Mod. -/
def goMod (x n : Int) : Int := if n < 1 then 0 else if x.tmod n < 0 then x.tmod n + n else x.tmod n
def con13 : Con := { ps := [.d false (.int .i64), .d false (.int .i64)], rs := [.d false (.int .i64)], pre := fun _ => True, out := fun x => (goMod x.1 x.2.1, ()), nw := id }
theorem tmod_bd (x n : Int) (h : 1 ≤ n) : -n < x.tmod n ∧ x.tmod n < n := by
  have h1 := Int.tmod_lt_of_pos x (show 0 < n by omega)
  have h2 := Int.lt_tmod_of_pos x (show 0 < n by omega)
  omega
theorem c13 : CtrOk Try.prog 13 con13.ctr :=
  con_sound (G := ⟨[], [], []⟩) tab_ok EnvOk.nil rfl Try.func13 rfl con13 2131 (by kernel_rfl) (by decide) (by decide) rfl (by decide) rfl (by
    rintro ⟨(x : Int), (n : Int), _⟩ hpre hwf X hT hG hk hK
    (simp -implicitDefEqProofs only [go_sem, Prod.eta, Option.isSome_none, Option.isSome_some, Int.toNat_zero, Nat.reduceAdd, Nat.reduceMul, Nat.reduceSub, Nat.reduceEqDiff, Nat.reduceLT, Nat.reduceLeDiff, Nat.reduceShiftRight, Nat.reduceMod, Nat.reduceBEq, reduceCtorEq, reduceIte, reduceDIte, Int.reduceNeg, con13, hT, hG, hk, hK, Try.results13] at hwf ⊢); (try simp (disch := decide +kernel) only [drawn, true_and, and_true])
    unfold goMod
    by_cases hn : n < 1
    · simp [hn]
    · have hb := tmod_bd x n (by omega)
      have hn0 : n ≠ 0 := by omega
      simp only [hn, if_false, not_false_eq_true, true_implies, false_implies, true_and]
      refine ⟨⟨hn0, by omega, by omega⟩, fun h => ⟨⟨by omega, by omega⟩, ?_⟩, fun h => ?_⟩
      · rw [if_pos h]
      · rw [if_neg h])

/-- In. -/
def con14 : Con := { ps := [.d false (.sl (.int .i64)), .d false (.int .i64)], rs := [.d false .bool], pre := fun _ => True, out := fun x => (decide (x.2.1 ∈ x.1), ()), nw := id }
theorem c14 : CtrOk Try.prog 14 con14.ctr :=
  con_sound (G := ⟨[], [], []⟩) tab_ok EnvOk.nil rfl Try.func14 rfl con14 131635 (by kernel_rfl) (by decide) (by decide) rfl (by decide) rfl (by
    rintro ⟨(l : List Int), (x : Int), _⟩ hpre hwf X hT hG hk hK
    (simp -implicitDefEqProofs only [go_sem, Prod.eta, Option.isSome_none, Option.isSome_some, Int.toNat_zero, Nat.reduceAdd, Nat.reduceMul, Nat.reduceSub, Nat.reduceEqDiff, Nat.reduceLT, Nat.reduceLeDiff, Nat.reduceShiftRight, Nat.reduceMod, Nat.reduceBEq, reduceCtorEq, reduceIte, reduceDIte, Int.reduceNeg, con14, hT, hG, hk, hK, Try.results14] at hwf ⊢); (try simp (disch := decide +kernel) only [drawn, true_and, and_true])
    refine evk_loop ⟨{ i : Nat // i ≤ l.length ∧ x ∉ l.take i }, 1000, fun i => [(0, .one (.sl (.int .i64) l false)), (1, .one (.int .i64 x)), (5, .one (.int .i64 i.1))], fun _ => [], fun i => l.length - i.1⟩ ⟨0, by simp⟩ ?_ ?_
    · simp only [go_sem, Prod.eta, Option.isSome_none, Option.isSome_some, Int.toNat_zero, Nat.reduceAdd, Nat.reduceMul, Nat.reduceSub, Nat.reduceEqDiff, Nat.reduceLT, Nat.reduceLeDiff, Nat.reduceShiftRight, Nat.reduceMod, Nat.reduceBEq, reduceCtorEq, reduceIte, reduceDIte, Int.reduceNeg]
      rfl
    · rintro ⟨i, hi, hx⟩
      (simp -implicitDefEqProofs only [go_sem, Prod.eta, Option.isSome_none, Option.isSome_some, Int.toNat_zero, Nat.reduceAdd, Nat.reduceMul, Nat.reduceSub, Nat.reduceEqDiff, Nat.reduceLT, Nat.reduceLeDiff, Nat.reduceShiftRight, Nat.reduceMod, Nat.reduceBEq, reduceCtorEq, reduceIte, reduceDIte, Int.reduceNeg, con14, hT, hG, hk, hK, Try.results14]); (try simp (disch := decide +kernel) only [drawn, true_and, and_true])
      intro hl
      refine ⟨fun hlt => ⟨⟨by omega, hlt⟩, fun _ _ => ⟨fun he => ?_, fun he => ⟨by have := hwf.1.1; simp only [maxLen] at this; omega, ?_⟩⟩⟩, fun hge => ?_⟩
      · have : x ∈ l := by
          have hi' : i < l.length := by omega
          rw [← he]; simp [hi']
        simp [this]
      · refine fin_lp ⟨i + 1, by omega, ?_⟩ ?_ ?_
        · have hi' : i < l.length := by omega
          rw [List.take_succ_eq_append_getElem hi']
          simp [hi'] at he
          simp only [List.mem_append, List.mem_singleton, not_or]
          exact ⟨hx, fun h => he h.symm⟩
        · simp only [go_sem, Prod.eta, Option.isSome_none, Option.isSome_some, Int.toNat_zero, Nat.reduceAdd, Nat.reduceMul, Nat.reduceSub, Nat.reduceEqDiff, Nat.reduceLT, Nat.reduceLeDiff, Nat.reduceShiftRight, Nat.reduceMod, Nat.reduceBEq, reduceCtorEq, reduceIte, reduceDIte, Int.reduceNeg]
          rfl
        · show l.length - (i + 1) < l.length - i
          omega
      · rw [List.take_of_length_le (by omega)] at hx
        simp [hx])
end Go.Proofs.Ythbcniifeeoplaa

/- The contracts of the functions that the statements about custody reach, continued. -/
set_option linter.unusedSimpArgs false
set_option linter.unusedVariables false
set_option maxRecDepth 100000
set_option maxHeartbeats 4000000
namespace Go.Proofs.Ythbcniifeeoplaa
open Go.Ev

abbrev Src := List Int × Int
def Src.raw (s : Src) : Int := if s.2 ≥ s.1.length then 0 else s.1.getD s.2.toNat 0
def Src.step (s : Src) : Src := if s.2 ≥ s.1.length then s else (s.1, s.2 + 1)
def con29 : Con := { ps := [.p 58 (.pair (.sl (.int .i64)) (.int .i64))], rs := [.d false (.int .i64)], pre := fun x => 0 ≤ x.1.2, out := fun x => (Src.raw x.1, ()), nw := fun x => (Src.step x.1, ()) }
theorem c29 : CtrOk Try.prog 29 con29.ctr :=
  con_sound (G := ⟨[], [], []⟩) tab_ok EnvOk.nil rfl Try.func29 rfl con29 4101 (by kernel_rfl) (by decide) (by decide) rfl (by decide) rfl (by
    rintro ⟨⟨(l : List Int), (a : Int)⟩, _⟩ hpre hwf X hT hG hk hK
    (simp -implicitDefEqProofs only [go_sem, Prod.eta, Option.isSome_none, Option.isSome_some, Int.toNat_zero, Nat.reduceAdd, Nat.reduceMul, Nat.reduceSub, Nat.reduceEqDiff, Nat.reduceLT, Nat.reduceLeDiff, Nat.reduceShiftRight, Nat.reduceMod, Nat.reduceBEq, reduceCtorEq, reduceIte, reduceDIte, Int.reduceNeg, con29, hT, hG, hk, hK, Try.results29] at hwf ⊢); (try simp (disch := decide +kernel) only [drawn, true_and, and_true])
    intro hl
    have hpre : 0 ≤ a := hpre
    have hl' := hl
    simp only [maxLen] at hl'
    unfold Src.step Src.raw
    refine ⟨fun h => ?_, fun h => ⟨⟨by omega, by omega⟩, ⟨by omega, by omega⟩, ⟨by omega, by omega⟩, fun _ _ => ?_⟩⟩
    · simp [show (a : Int) ≥ (l.length : Int) from h]
    · simp [show ¬ (a : Int) ≥ (l.length : Int) from h])

def con10 : Con := { ps := [.p 58 (.pair (.sl (.int .i64)) (.int .i64)), .d false (.int .i64)], rs := [.d false (.int .i64)], pre := fun x => 0 ≤ x.1.2, out := fun x => (goMod (Src.raw x.1) x.2.1, ()), nw := fun x => (Src.step x.1, x.2) }
theorem c10 : CtrOk Try.prog 10 con10.ctr :=
  con_sound (G := ⟨[(29, con29.ctr), (13, con13.ctr)], [], []⟩) tab_ok (EnvOk.cons c29 has29 (EnvOk.cons c13 has13 EnvOk.nil)) rfl Try.func10 rfl con10 19 (by kernel_rfl) (by decide) (by decide) rfl (by decide) rfl (by
    rintro ⟨⟨(l : List Int), (a : Int)⟩, (n : Int), _⟩ hpre hwf X hT hG hk hK
    (simp -implicitDefEqProofs only [go_sem, Prod.eta, Option.isSome_none, Option.isSome_some, Int.toNat_zero, Nat.reduceAdd, Nat.reduceMul, Nat.reduceSub, Nat.reduceEqDiff, Nat.reduceLT, Nat.reduceLeDiff, Nat.reduceShiftRight, Nat.reduceMod, Nat.reduceBEq, reduceCtorEq, reduceIte, reduceDIte, Int.reduceNeg, con10, con29, con13, hT, hG, hk, hK, Try.results10] at hwf ⊢); (try simp (disch := decide +kernel) only [drawn, true_and, and_true])
    exact hpre)

def con9 : Con := { ps := [.d false (.sl (.int .i64))], rs := [.p 58 (.pair (.sl (.int .i64)) (.int .i64))], pre := fun x => True, out := fun x => ((x.1.take 2000, 0), ()), nw := id }
theorem c9 : CtrOk Try.prog 9 con9.ctr :=
  con_sound (G := ⟨[], [], []⟩) tab_ok EnvOk.nil rfl Try.func9 rfl con9 37 (by kernel_rfl) (by decide) (by decide) rfl (by decide) rfl (by
    rintro ⟨(l : List Int), _⟩ hpre hwf X hT hG hk hK
    (simp -implicitDefEqProofs only [go_sem, Prod.eta, Option.isSome_none, Option.isSome_some, Int.toNat_zero, Nat.reduceAdd, Nat.reduceMul, Nat.reduceSub, Nat.reduceEqDiff, Nat.reduceLT, Nat.reduceLeDiff, Nat.reduceShiftRight, Nat.reduceMod, Nat.reduceBEq, reduceCtorEq, reduceIte, reduceDIte, Int.reduceNeg, con9, hT, hG, hk, hK, Try.results9] at hwf ⊢); (try simp (disch := decide +kernel) only [drawn, true_and, and_true])
    refine fun _ => ⟨fun h => ⟨⟨by omega, by omega, by omega⟩, rfl⟩, fun h => ?_⟩
    rw [List.take_of_length_le (by omega)])

def setStep (m : List (Int × Bool)) (x : Int) : List (Int × Bool) := mset (kt := .int .i64) m x true
def setOf (l : List Int) : List (Int × Bool) := l.foldl setStep []
theorem setOf_get (l : List Int) (x : Int) : mget (kt := .int .i64) (setOf l) x = if x ∈ l then some true else none := by
  have key : ∀ (l : List Int) (m : List (Int × Bool)), mget (kt := .int .i64) (l.foldl setStep m) x = if x ∈ l then some true else mget (kt := .int .i64) m x := by
    intro l
    induction l with
    | nil => intro m; simp
    | cons y l ih =>
      intro m
      rw [List.foldl_cons, ih]
      have hs : ∀ m : List (Int × Bool), mget (kt := .int .i64) (setStep m y) x = if x = y then some true else mget (kt := .int .i64) m x := by
        intro m
        unfold setStep
        induction m with
        | nil => simp [mset, mget, keyEq]
        | cons p m ih =>
          obtain ⟨k, v⟩ := p
          simp only [mset, keyEq, decide_eq_true_eq]
          by_cases h1 : y = k
          · subst h1
            simp only [if_true, mget, keyEq, decide_eq_true_eq]
            by_cases h2 : x = y <;> simp [h2]
          · simp only [if_neg h1, mget, keyEq, decide_eq_true_eq, ih]
            by_cases h2 : x = k
            · subst h2; simp [Ne.symm h1]
            · simp [h2]
      rw [hs]
      by_cases h : x ∈ l
      · simp [h]
      · by_cases h2 : x = y <;> simp [h, h2]
  rw [setOf, key]
  simp [mget]

def con30 : Con := { ps := [.d false (.sl (.int .i64))], rs := [.mp (.int .i64) .bool false false], pre := fun x => True, out := fun x => (setOf x.1, ()), nw := id }
theorem c30 : CtrOk Try.prog 30 con30.ctr :=
  con_sound (G := ⟨[], [], []⟩) tab_ok EnvOk.nil rfl Try.func30 rfl con30 1965 (by kernel_rfl) (by decide) (by decide) rfl (by decide) rfl (by
    rintro ⟨(l : List Int), _⟩ hpre hwf X hT hG hk hK
    (simp -implicitDefEqProofs only [go_sem, Prod.eta, Option.isSome_none, Option.isSome_some, Int.toNat_zero, Nat.reduceAdd, Nat.reduceMul, Nat.reduceSub, Nat.reduceEqDiff, Nat.reduceLT, Nat.reduceLeDiff, Nat.reduceShiftRight, Nat.reduceMod, Nat.reduceBEq, reduceCtorEq, reduceIte, reduceDIte, Int.reduceNeg, con30, hT, hG, hk, hK, Try.results30] at hwf ⊢); (try simp (disch := decide +kernel) only [drawn, true_and, and_true])
    intro hl
    refine evk_loop ⟨{ i : Nat // i ≤ l.length }, 1000, fun i => [(3, .one (.map 64)), (7, .one (.sl (.int .i64) l false)), (8, .one (.int .i64 l.length)), (9, .one (.int .i64 i.1))], fun i => [(64, .mapb (.int .i64) .bool false false (setOf (l.take i.1)))], fun i => l.length - i.1⟩ ⟨0, by simp⟩ ?_ ?_
    · simp only [go_sem, Prod.eta, Option.isSome_none, Option.isSome_some, Int.toNat_zero, Nat.reduceAdd, Nat.reduceMul, Nat.reduceSub, Nat.reduceEqDiff, Nat.reduceLT, Nat.reduceLeDiff, Nat.reduceShiftRight, Nat.reduceMod, Nat.reduceBEq, reduceCtorEq, reduceIte, reduceDIte, Int.reduceNeg]
      exact ⟨rfl, rfl⟩
    · rintro ⟨i, hi⟩
      (simp -implicitDefEqProofs only [go_sem, Prod.eta, Option.isSome_none, Option.isSome_some, Int.toNat_zero, Nat.reduceAdd, Nat.reduceMul, Nat.reduceSub, Nat.reduceEqDiff, Nat.reduceLT, Nat.reduceLeDiff, Nat.reduceShiftRight, Nat.reduceMod, Nat.reduceBEq, reduceCtorEq, reduceIte, reduceDIte, Int.reduceNeg, con30, hT, hG, hk, hK, Try.results30]); (try simp (disch := decide +kernel) only [drawn, true_and, and_true])
      refine ⟨fun hlt => ⟨⟨by omega, hlt⟩, fun _ _ => ⟨by simp only [maxLen] at hl; omega, fin_lp ⟨i + 1, by omega⟩ ?_ ?_⟩⟩, fun hge => by rw [List.take_of_length_le (by omega)]⟩
      · simp only [go_sem, Prod.eta, Option.isSome_none, Option.isSome_some, Int.toNat_zero, Nat.reduceAdd, Nat.reduceMul, Nat.reduceSub, Nat.reduceEqDiff, Nat.reduceLT, Nat.reduceLeDiff, Nat.reduceShiftRight, Nat.reduceMod, Nat.reduceBEq, reduceCtorEq, reduceIte, reduceDIte, Int.reduceNeg]
        have hi' : i < l.length := by omega
        rw [List.take_succ_eq_append_getElem hi', setOf, setOf, List.foldl_append]
        simp [setStep, hi']
      · show l.length - (i + 1) < l.length - i
        omega)

abbrev Votes := Int × Int × List Int × List Int
def openV (v : Votes) : Int × Bool := if v.1 ≠ v.2.1 ∨ v.1 < 1 ∨ v.1 > 40 ∨ v.1 ∉ v.2.2.1 ∨ v.1 ∉ v.2.2.2 then (0, false) else (v.1, true)
def con11 : Con := { ps := [.d true (.pair (.int .i64) (.pair (.int .i64) (.pair (.sl (.int .i64)) (.sl (.int .i64)))))], rs := [.d false (.int .i64), .d false .bool], pre := fun x => True, out := fun x => ((openV x.1).1, (openV x.1).2, ()), nw := id }
theorem c11 : CtrOk Try.prog 11 con11.ctr :=
  con_sound (G := ⟨[(30, con30.ctr)], [], []⟩) tab_ok (EnvOk.cons c30 has30 EnvOk.nil) rfl Try.func11 rfl con11 274877907071 (by kernel_rfl) (by decide) (by decide) rfl (by decide) rfl (by
    rintro ⟨⟨(a : Int), (b : Int), (c : List Int), (d : List Int)⟩, _⟩ hpre hwf X hT hG hk hK
    (simp -implicitDefEqProofs only [go_sem, Prod.eta, Option.isSome_none, Option.isSome_some, Int.toNat_zero, Nat.reduceAdd, Nat.reduceMul, Nat.reduceSub, Nat.reduceEqDiff, Nat.reduceLT, Nat.reduceLeDiff, Nat.reduceShiftRight, Nat.reduceMod, Nat.reduceBEq, reduceCtorEq, reduceIte, reduceDIte, Int.reduceNeg, con11, con30, hT, hG, hk, hK, Try.results11] at hwf ⊢); (try simp (disch := decide +kernel) only [drawn, true_and, and_true])
    simp only [setOf_get, openV]
    clear hwf hpre hT hG hk hK
    by_cases h1 : a = b
    · subst h1
      by_cases h2 : a < 1 <;> by_cases h3 : a > 40 <;> by_cases h4 : a ∈ c <;> by_cases h5 : a ∈ d <;> simp [h2, h3, h4, h5]
    · simp [h1])
def con12 : Con := con11
theorem c12 : CtrOk Try.prog 12 con12.ctr :=
  con_sound (G := ⟨[(14, con14.ctr)], [], []⟩) tab_ok (EnvOk.cons c14 has14 EnvOk.nil) rfl Try.func12 rfl con12 17179869199 (by kernel_rfl) (by decide) (by decide) rfl (by decide) rfl (by
    rintro ⟨⟨(a : Int), (b : Int), (c : List Int), (d : List Int)⟩, _⟩ hpre hwf X hT hG hk hK
    (simp -implicitDefEqProofs only [go_sem, Prod.eta, Option.isSome_none, Option.isSome_some, Int.toNat_zero, Nat.reduceAdd, Nat.reduceMul, Nat.reduceSub, Nat.reduceEqDiff, Nat.reduceLT, Nat.reduceLeDiff, Nat.reduceShiftRight, Nat.reduceMod, Nat.reduceBEq, reduceCtorEq, reduceIte, reduceDIte, Int.reduceNeg, con12, con14, con11, hT, hG, hk, hK, Try.results12] at hwf ⊢); (try simp (disch := decide +kernel) only [drawn, true_and, and_true])
    simp only [openV]
    clear hwf hpre hT hG hk hK
    by_cases h1 : a = b
    · subst h1
      by_cases h2 : a < 1 <;> by_cases h3 : a > 40 <;> by_cases h4 : a ∈ c <;> by_cases h5 : a ∈ d <;> simp [h2, h3, h4, h5]
    · simp [h1])

/-- Clone. -/
def con33 : Con := { ps := [.d false (.sl (.pair (.int .i64) (.int .i64)))], rs := [.o 65 (.pair (.int .i64) (.int .i64))], pre := fun x => x.1.length ≤ 1048576, out := fun x => (x.1, ()), nw := id }
theorem c33 : CtrOk Try.prog 33 con33.ctr :=
  con_sound (G := ⟨[], [], []⟩) tab_ok EnvOk.nil rfl Try.func33 rfl con33 21 (by kernel_rfl) (by decide) (by decide) rfl (by decide) rfl (by
    rintro ⟨(l : List (Int × Int)), _⟩ hpre hwf X hT hG hk hK
    (simp -implicitDefEqProofs only [go_sem, Prod.eta, Option.isSome_none, Option.isSome_some, Int.toNat_zero, Nat.reduceAdd, Nat.reduceMul, Nat.reduceSub, Nat.reduceEqDiff, Nat.reduceLT, Nat.reduceLeDiff, Nat.reduceShiftRight, Nat.reduceMod, Nat.reduceBEq, reduceCtorEq, reduceIte, reduceDIte, Int.reduceNeg, con33, hT, hG, hk, hK, Try.results33] at hwf ⊢); (try simp (disch := decide +kernel) only [drawn, true_and, and_true])
    intro a ha
    have hpre : l.length ≤ 1048576 := hpre
    refine ⟨fun h => (List.eq_nil_of_length_eq_zero (ha h)).symm, fun _ => by omega⟩)
/-- Insert, at the end. -/
def con32 : Con := { ps := [.oc 65 (.pair (.int .i64) (.int .i64)), .d false (.int .i64), .d false (.sl (.pair (.int .i64) (.int .i64)))], rs := [.o 65 (.pair (.int .i64) (.int .i64))], pre := fun x => x.2.1 = x.1.length ∧ x.1.length + x.2.2.1.length ≤ 1048576 ∧ 0 < x.2.2.1.length, out := fun x => (x.1 ++ x.2.2.1, ()), nw := id }
theorem c32 : CtrOk Try.prog 32 con32.ctr :=
  con_sound (G := ⟨[], [], []⟩) tab_ok EnvOk.nil rfl Try.func32 rfl con32 295147905181504570311 (by kernel_rfl) (by decide) (by decide) rfl (by decide) rfl (by
    rintro ⟨(l : List (Int × Int)), (i : Int), (v : List (Int × Int)), _⟩ hpre hwf X hT hG hk hK
    (simp -implicitDefEqProofs only [go_sem, Prod.eta, Option.isSome_none, Option.isSome_some, Int.toNat_zero, Nat.reduceAdd, Nat.reduceMul, Nat.reduceSub, Nat.reduceEqDiff, Nat.reduceLT, Nat.reduceLeDiff, Nat.reduceShiftRight, Nat.reduceMod, Nat.reduceBEq, reduceCtorEq, reduceIte, reduceDIte, Int.reduceNeg, con32, hT, hG, hk, hK, Try.results32] at hwf ⊢); (try simp (disch := decide +kernel) only [drawn, true_and, and_true])
    obtain ⟨h1, h2, h3⟩ : i = l.length ∧ l.length + v.length ≤ 1048576 ∧ 0 < v.length := hpre
    refine ⟨by omega, fun _ _ => ⟨fun h => by omega, fun _ _ => ⟨fun _ => by omega, fun h => absurd h1 h⟩⟩⟩)
def con23 : Con := { ps := [.d true (.sl (.pair (.int .i64) (.int .i64)))], rs := [.d false (.sl (.int .i64))], pre := fun x => x.1.length ≤ 1048576, out := fun x => (x.1.map (·.1), ()), nw := id }
theorem c23 : CtrOk Try.prog 23 con23.ctr :=
  con_sound (G := ⟨[], [], []⟩) tab_ok EnvOk.nil rfl Try.func23 rfl con23 1967 (by kernel_rfl) (by decide) (by decide) rfl (by decide) rfl (by
    rintro ⟨(l : List (Int × Int)), _⟩ hpre hwf X hT hG hk hK
    (simp -implicitDefEqProofs only [go_sem, Prod.eta, Option.isSome_none, Option.isSome_some, Int.toNat_zero, Nat.reduceAdd, Nat.reduceMul, Nat.reduceSub, Nat.reduceEqDiff, Nat.reduceLT, Nat.reduceLeDiff, Nat.reduceShiftRight, Nat.reduceMod, Nat.reduceBEq, reduceCtorEq, reduceIte, reduceDIte, Int.reduceNeg, con23, hT, hG, hk, hK, Try.results23] at hwf ⊢); (try simp (disch := decide +kernel) only [drawn, true_and, and_true])
    intro hl
    have hl2 : l.length ≤ 1048576 := hpre
    refine evk_loop ⟨{ i : Nat // i ≤ l.length }, 1000, fun i => [(3, .one (.row 64)), (7, .one (.sl (.pair (.int .i64) (.int .i64)) l false)), (8, .one (.int .i64 l.length)), (9, .one (.int .i64 i.1))], fun i => [(64, .row 3 (.int .i64) ((l.take i.1).map (·.1)))], fun i => l.length - i.1⟩ ⟨0, by simp⟩ ?_ ?_
    · simp only [go_sem, Prod.eta, Option.isSome_none, Option.isSome_some, Int.toNat_zero, Nat.reduceAdd, Nat.reduceMul, Nat.reduceSub, Nat.reduceEqDiff, Nat.reduceLT, Nat.reduceLeDiff, Nat.reduceShiftRight, Nat.reduceMod, Nat.reduceBEq, reduceCtorEq, reduceIte, reduceDIte, Int.reduceNeg]
      rfl
    · rintro ⟨i, hi⟩
      (simp -implicitDefEqProofs only [go_sem, Prod.eta, Option.isSome_none, Option.isSome_some, Int.toNat_zero, Nat.reduceAdd, Nat.reduceMul, Nat.reduceSub, Nat.reduceEqDiff, Nat.reduceLT, Nat.reduceLeDiff, Nat.reduceShiftRight, Nat.reduceMod, Nat.reduceBEq, reduceCtorEq, reduceIte, reduceDIte, Int.reduceNeg, con23, hT, hG, hk, hK, Try.results23]); (try simp (disch := decide +kernel) only [drawn, true_and, and_true])
      refine ⟨fun hlt => ⟨⟨by omega, hlt⟩, fun _ _ => ⟨by rw [List.length_map, List.length_take]; omega, ⟨by omega, by omega⟩, fin_lp ⟨i + 1, by omega⟩ ?_ ?_⟩⟩, fun hge => by rw [List.take_of_length_le (by omega)]⟩
      · simp only [go_sem, Prod.eta, Option.isSome_none, Option.isSome_some, Int.toNat_zero, Nat.reduceAdd, Nat.reduceMul, Nat.reduceSub, Nat.reduceEqDiff, Nat.reduceLT, Nat.reduceLeDiff, Nat.reduceShiftRight, Nat.reduceMod, Nat.reduceBEq, reduceCtorEq, reduceIte, reduceDIte, Int.reduceNeg]
        have hi' : i < l.length := by omega
        have e : (l.take (i + 1)).map (·.1) = (l.take i).map (·.1) ++ [(l.getD i (0, 0)).1] := by
          rw [List.take_succ_eq_append_getElem hi', List.map_append]
          simp [hi']
        simp only [Int.toNat_natCast]
        exact ⟨by rw [e], by omega⟩
      · show l.length - (i + 1) < l.length - i
        omega)
/-- A function that is not called. -/
structure NoC where
  ctr : Ctr
def con48 : NoC := ⟨fun _ _ _ => ⟨False, .one (.int .i64 0), [], True⟩⟩
theorem c48 : CtrOk Try.prog 48 con48.ctr := by
  intro cx σ N m w fr avs vs _ _ _ h
  exact h.elim
def con47 : Con := { ps := [.d false (.sl (.pair (.int .i64) (.int .i64))), .d false (.int .i64), .cl 48 [.fb 80 40]], rs := [.d false (.int .i64), .d false .bool], pre := fun x => x.1 = [], out := fun x => (0, false, ()), nw := id }
theorem c47 : CtrOk Try.prog 47 con47.ctr :=
  con_sound (G := ⟨[(48, con48.ctr)], [], []⟩) tab_ok (EnvOk.cons c48 has48 EnvOk.nil) rfl Try.func47 rfl con47 2147618759 (by kernel_rfl) (by decide) (by decide) rfl (by decide) rfl (by
    rintro ⟨(l : List (Int × Int)), (key : Int), c, _⟩ hpre hwf X hT hG hk hK
    obtain rfl : l = [] := hpre
    (simp -implicitDefEqProofs only [go_sem, Prod.eta, Option.isSome_none, Option.isSome_some, Int.toNat_zero, Nat.reduceAdd, Nat.reduceMul, Nat.reduceSub, Nat.reduceEqDiff, Nat.reduceLT, Nat.reduceLeDiff, Nat.reduceShiftRight, Nat.reduceMod, Nat.reduceBEq, reduceCtorEq, reduceIte, reduceDIte, Int.reduceNeg, con47, con48, hT, hG, hk, hK, Try.results47] at hwf ⊢); (try simp (disch := decide +kernel) only [drawn, true_and, and_true])
    intro _
    refine evk_loop ⟨Unit, 1000, fun _ => [(0, .one (.sl (.pair (.int .i64) (.int .i64)) [] false)), (1, .one (.int .i64 key)), (2, .one (.fn 48 [.loc 16 0])), (8, .one (.int .i64 0)), (9, .one (.int .i64 0)), (10, .one (.int .i64 0))], fun i => [(16, .cells 80 [.fn 40 []])], fun i => 0⟩ () ?_ ?_
    · simp only [go_sem, Prod.eta, Option.isSome_none, Option.isSome_some, Int.toNat_zero, Nat.reduceAdd, Nat.reduceMul, Nat.reduceSub, Nat.reduceEqDiff, Nat.reduceLT, Nat.reduceLeDiff, Nat.reduceShiftRight, Nat.reduceMod, Nat.reduceBEq, reduceCtorEq, reduceIte, reduceDIte, Int.reduceNeg]
      rfl
    · rintro ⟨⟩
      (simp -implicitDefEqProofs only [go_sem, Prod.eta, Option.isSome_none, Option.isSome_some, Int.toNat_zero, Nat.reduceAdd, Nat.reduceMul, Nat.reduceSub, Nat.reduceEqDiff, Nat.reduceLT, Nat.reduceLeDiff, Nat.reduceShiftRight, Nat.reduceMod, Nat.reduceBEq, reduceCtorEq, reduceIte, reduceDIte, Int.reduceNeg, con47, con48, hT, hG, hk, hK, Try.results47]); (try simp (disch := decide +kernel) only [drawn, true_and, and_true])
      refine ⟨fun h => absurd h (by omega), fun _ => ?_⟩
      exact ⟨fun h => absurd h (by omega), fun _ _ h => absurd h (by omega)⟩)
def con39 : Con := { ps := [.d false (.sl (.pair (.int .i64) (.int .i64))), .d false (.int .i64), .cl 40 []], rs := [.d false (.int .i64), .d false .bool], pre := fun x => x.1 = [], out := fun x => (0, false, ()), nw := id }
theorem c39 : CtrOk Try.prog 39 con39.ctr :=
  con_sound (G := ⟨[(47, con47.ctr)], [], []⟩) tab_ok (EnvOk.cons c47 has47 EnvOk.nil) rfl Try.func39 rfl con39 231 (by kernel_rfl) (by decide) (by decide) rfl (by decide) rfl (by
    rintro ⟨(l : List (Int × Int)), (key : Int), c, _⟩ hpre hwf X hT hG hk hK
    obtain rfl : l = [] := hpre
    (simp -implicitDefEqProofs only [go_sem, Prod.eta, Option.isSome_none, Option.isSome_some, Int.toNat_zero, Nat.reduceAdd, Nat.reduceMul, Nat.reduceSub, Nat.reduceEqDiff, Nat.reduceLT, Nat.reduceLeDiff, Nat.reduceShiftRight, Nat.reduceMod, Nat.reduceBEq, reduceCtorEq, reduceIte, reduceDIte, Int.reduceNeg, con39, con47, hT, hG, hk, hK, Try.results39] at hwf ⊢); (try simp (disch := decide +kernel) only [drawn, true_and, and_true]))
def con31 : Con := { ps := [.d true (.sl (.pair (.int .i64) (.int .i64))), .d false (.int .i64)], rs := [.d false (.int .i64), .d false .bool], pre := fun x => x.1 = [], out := fun x => (0, false, ()), nw := id }
theorem c31 : CtrOk Try.prog 31 con31.ctr :=
  con_sound (G := ⟨[(39, con39.ctr)], [], []⟩) tab_ok (EnvOk.cons c39 has39 EnvOk.nil) rfl Try.func31 rfl con31 55 (by kernel_rfl) (by decide) (by decide) rfl (by decide) rfl (by
    rintro ⟨(l : List (Int × Int)), (key : Int), _⟩ hpre hwf X hT hG hk hK
    obtain rfl : l = [] := hpre
    (simp -implicitDefEqProofs only [go_sem, Prod.eta, Option.isSome_none, Option.isSome_some, Int.toNat_zero, Nat.reduceAdd, Nat.reduceMul, Nat.reduceSub, Nat.reduceEqDiff, Nat.reduceLT, Nat.reduceLeDiff, Nat.reduceShiftRight, Nat.reduceMod, Nat.reduceBEq, reduceCtorEq, reduceIte, reduceDIte, Int.reduceNeg, con31, con39, hT, hG, hk, hK, Try.results31] at hwf ⊢); (try simp (disch := decide +kernel) only [drawn, true_and, and_true]))
def con17 : Con := { ps := [.d true (.sl (.pair (.int .i64) (.int .i64))), .d false (.int .i64), .d false (.int .i64)], rs := [.d true (.sl (.pair (.int .i64) (.int .i64))), .d false (.int .i64)], pre := fun x => x.1 = [] ∧ x.2.1 = 3 ∧ x.2.2.1 = 9, out := fun x => ([(3, 9)], 0, ()), nw := id }
theorem c17 : CtrOk Try.prog 17 con17.ctr :=
  con_sound (G := ⟨[(31, con31.ctr), (33, con33.ctr), (32, con32.ctr)], [], []⟩) tab_ok (EnvOk.cons c31 has31 (EnvOk.cons c33 has33 (EnvOk.cons c32 has32 EnvOk.nil))) rfl Try.func17 rfl con17 2155873231 (by kernel_rfl) (by decide) (by decide) rfl (by decide) rfl (by
    rintro ⟨(l : List (Int × Int)), (bag : Int), (im : Int), _⟩ hpre hwf X hT hG hk hK
    obtain ⟨rfl, rfl, rfl⟩ : l = [] ∧ bag = 3 ∧ im = 9 := hpre
    (simp -implicitDefEqProofs only [go_sem, Prod.eta, Option.isSome_none, Option.isSome_some, Int.toNat_zero, Nat.reduceAdd, Nat.reduceMul, Nat.reduceSub, Nat.reduceEqDiff, Nat.reduceLT, Nat.reduceLeDiff, Nat.reduceShiftRight, Nat.reduceMod, Nat.reduceBEq, reduceCtorEq, reduceIte, reduceDIte, Int.reduceNeg, con17, con31, con33, con32, hT, hG, hk, hK, Try.results17] at hwf ⊢); (try simp (disch := decide +kernel) only [drawn, true_and, and_true])
    refine ⟨fun _ => by decide, fun _ => by decide, fun _ => by decide, fun h => absurd h (by decide), fun _ _ _ => rfl⟩)
end Go.Proofs.Ythbcniifeeoplaa

/- The contracts of the functions that the statements about custody reach: awake, the laws. -/
set_option linter.unusedSimpArgs false
set_option linter.unusedVariables false
set_option maxRecDepth 100000
set_option maxHeartbeats 4000000
namespace Go.Proofs.Ythbcniifeeoplaa
open Go.Ev

def con8 : Con := { ps := [], rs := [.d false .bool], pre := fun _ => True, out := fun _ => (true, ()), nw := id }
theorem c8 : CtrOk Try.prog 8 con8.ctr :=
  con_sound (G := ⟨[(11, con11.ctr), (17, con17.ctr), (23, con23.ctr)], [], []⟩) tab_ok (EnvOk.cons c11 has11 (EnvOk.cons c17 has17 (EnvOk.cons c23 has23 EnvOk.nil))) rfl Try.func8 rfl con8 95 (by kernel_rfl) (by decide) (by decide) rfl (by decide) rfl (by
    rintro ⟨⟩ hpre hwf X hT hG hk hK
    (simp -implicitDefEqProofs only [go_sem, Prod.eta, Option.isSome_none, Option.isSome_some, Int.toNat_zero, Nat.reduceAdd, Nat.reduceMul, Nat.reduceSub, Nat.reduceEqDiff, Nat.reduceLT, Nat.reduceLeDiff, Nat.reduceShiftRight, Nat.reduceMod, Nat.reduceBEq, reduceCtorEq, reduceIte, reduceDIte, Int.reduceNeg, con8, con11, con17, con23, hT, hG, hk, hK, Try.results8] at hwf ⊢); (try simp (disch := decide +kernel) only [drawn, true_and, and_true])
    intro _ _ _ _ _
    decide)
theorem goMod_bd (x n : Int) (h : 1 ≤ n) : 0 ≤ goMod x n ∧ goMod x n < n := by
  have := tmod_bd x n h
  unfold goMod
  rw [if_neg (by omega)]
  split <;> omega
theorem openV_yes {a c : Int} {l r : List Int} (h : (openV (a, c, l, r)).2 = true) : a = c ∧ 1 ≤ a ∧ a ∈ l ∧ a ∈ r ∧ (openV (a, c, l, r)).1 = a := by
  unfold openV at h ⊢
  split at h
  · cases h
  · rename_i k
    rw [if_neg k]
    simp only [not_or, ne_eq, Classical.not_not, Int.not_lt] at k
    exact ⟨k.1, by omega, k.2.2.2.1, k.2.2.2.2, rfl⟩
theorem openV_self {a : Int} {l : List Int} (h1 : 0 ≤ a) (h2 : a < 41) : openV (a, a, l, l) = if a > 0 ∧ a ∈ l then (a, true) else (0, false) := by
  unfold openV
  by_cases h : a > 0 <;> by_cases k : a ∈ l <;> simp [h, k] <;> omega
theorem single_fin {g : Int} {l : List Int} (h1 : 0 ≤ g) (h2 : g < 41) {o : Int × Bool} (ho : o.2 = true → o.1 = g ∧ g > 0 ∧ g ∈ l) :
    (o.snd = true → o.snd = true ∧ (¬¬o.fst = g → (o.snd && !decide ¬o.fst = g) = true)) ∧
      (o.snd = true → o.snd = true ∧ ((decide ¬o.fst = g || decide (g = 0)) = false → (o.snd && !(decide ¬o.fst = g || decide (g = 0))) = true)) ∧
        ((o.snd && (decide ¬o.fst = g || decide (g = 0) || !decide (g ∈ l))) = true → False) ∧
          ((o.snd && (decide ¬o.fst = g || decide (g = 0) || !decide (g ∈ l))) = false →
            -9223372036854775808 ≤ (openV (g, g, l, l)).fst ∧ (openV (g, g, l, l)).fst ≤ 9223372036854775807 →
              ((openV (g, g, l, l)).snd = (decide (g > 0) && decide (g ∈ l)) →
                  (openV (g, g, l, l)).snd = (decide (g > 0) && decide (g ∈ l)) ∧
                  ((!(openV (g, g, l, l)).snd) = false → (decide ((openV (g, g, l, l)).snd = (decide (g > 0) && decide (g ∈ l))) &&
                      !!(openV (g, g, l, l)).snd) =
                    true)) ∧
                (decide ((openV (g, g, l, l)).snd = (decide (g > 0) && decide (g ∈ l))) &&
                    (!(openV (g, g, l, l)).snd || decide ((openV (g, g, l, l)).fst = g))) =
                  true) := by
  rw [openV_self h1 h2]
  obtain ⟨q, e⟩ := o
  cases e with
  | false =>
    refine ⟨fun h => (by cases h), fun h => (by cases h), fun h => (by simp at h), fun _ _ => ?_⟩
    by_cases k1 : g > 0 <;> by_cases k2 : g ∈ l <;> simp [k1, k2]
  | true =>
    obtain ⟨e1, e2, e3⟩ := ho rfl
    simp only at e1
    subst e1
    have e4 : q ≠ 0 := by omega
    refine ⟨fun _ => ⟨rfl, fun _ => by simp⟩, fun _ => ⟨rfl, fun _ => by simp [e4]⟩, fun h => by simp [e4, e3] at h, fun _ _ => ?_⟩
    simp [e2, e3]
def con4 : Con := { ps := [.d false (.int .i64), .d false (.sl (.int .i64)), .d false (.int .i64), .d false (.int .i64), .d false (.sl (.int .i64))], rs := [.d false .bool], pre := fun _ => True, out := fun _ => (true, ()), nw := id }
theorem c4 : CtrOk Try.prog 4 con4.ctr :=
  con_sound (G := ⟨[(8, con8.ctr), (11, con11.ctr), (13, con13.ctr), (14, con14.ctr)], [], []⟩) tab_ok (EnvOk.cons c8 has8 (EnvOk.cons c11 has11 (EnvOk.cons c13 has13 (EnvOk.cons c14 has14 EnvOk.nil)))) rfl Try.func4 rfl con4 1180591695793456544799 (by kernel_rfl) (by decide) (by decide) rfl (by decide) rfl (by
    rintro ⟨(b : Int), (l : List Int), (f : Int), (v : Int), (r : List Int), _⟩ hpre hwf X hT hG hk hK
    (simp -implicitDefEqProofs only [go_sem, Prod.eta, Option.isSome_none, Option.isSome_some, Int.toNat_zero, Nat.reduceAdd, Nat.reduceMul, Nat.reduceSub, Nat.reduceEqDiff, Nat.reduceLT, Nat.reduceLeDiff, Nat.reduceShiftRight, Nat.reduceMod, Nat.reduceBEq, reduceCtorEq, reduceIte, reduceDIte, Int.reduceNeg, con4, con8, con11, con13, con14, hT, hG, hk, hK, Try.results4] at hwf ⊢); (try simp (disch := decide +kernel) only [drawn, true_and, and_true])
    have hg := goMod_bd b 41 (by omega)
    clear hwf hpre hT hG hk hK
    generalize goMod b 41 = g at hg ⊢
    generalize goMod f 4 = q
    intro _ hr
    refine ⟨fun h => by simp; omega, fun _ _ _ => ⟨?_, ?_⟩⟩
    · intro _ _
      refine single_fin hg.1 hg.2 (fun h => ?_)
      obtain ⟨rfl, e1, e2, _, e3⟩ := openV_yes h
      exact ⟨e3, by omega, e2⟩
    · intro _
      refine ⟨fun _ _ => single_fin hg.1 hg.2 (fun h => ?_), fun _ => ⟨fun _ _ => single_fin hg.1 hg.2 (fun h => ?_), fun _ _ => single_fin hg.1 hg.2 (fun h => ?_)⟩⟩
      · obtain ⟨rfl, e1, e2, _, e3⟩ := openV_yes h
        exact ⟨e3, by omega, e2⟩
      · obtain ⟨_, e1, _, e2, e3⟩ := openV_yes h
        exact ⟨e3, by omega, e2⟩
      · obtain ⟨_, e1, e2, _, e3⟩ := openV_yes h
        exact ⟨e3, by omega, e2⟩)
end Go.Proofs.Ythbcniifeeoplaa

/- The contracts of the functions that make layouts: Range, Ints, Pick, other, strip, devices. -/
set_option linter.unusedSimpArgs false
set_option linter.unusedVariables false
set_option maxRecDepth 100000
set_option maxHeartbeats 4000000
namespace Go.Proofs.Ythbcniifeeoplaa
open Go.Ev

theorem has7 : FnHas Try.prog 7 := ⟨⟨_, Try.func7, by kernel_rfl, by kernel_rfl⟩⟩
theorem has22 : FnHas Try.prog 22 := ⟨⟨_, Try.func22, by kernel_rfl, by kernel_rfl⟩⟩
theorem has25 : FnHas Try.prog 25 := ⟨⟨_, Try.func25, by kernel_rfl, by kernel_rfl⟩⟩
theorem has26 : FnHas Try.prog 26 := ⟨⟨_, Try.func26, by kernel_rfl, by kernel_rfl⟩⟩
theorem has27 : FnHas Try.prog 27 := ⟨⟨_, Try.func27, by kernel_rfl, by kernel_rfl⟩⟩
theorem has28 : FnHas Try.prog 28 := ⟨⟨_, Try.func28, by kernel_rfl, by kernel_rfl⟩⟩
theorem has35 : FnHas Try.prog 35 := ⟨⟨_, Try.func35, by kernel_rfl, by kernel_rfl⟩⟩
theorem has36 : FnHas Try.prog 36 := ⟨⟨_, Try.func36, by kernel_rfl, by kernel_rfl⟩⟩
theorem has37 : FnHas Try.prog 37 := ⟨⟨_, Try.func37, by kernel_rfl, by kernel_rfl⟩⟩
theorem has38 : FnHas Try.prog 38 := ⟨⟨_, Try.func38, by kernel_rfl, by kernel_rfl⟩⟩
theorem has43 : FnHas Try.prog 43 := ⟨⟨_, Try.func43, by kernel_rfl, by kernel_rfl⟩⟩
theorem has44 : FnHas Try.prog 44 := ⟨⟨_, Try.func44, by kernel_rfl, by kernel_rfl⟩⟩


theorem step_pos {s : Src} (h : 0 ≤ s.2) : 0 ≤ (Src.step s).2 := by
  unfold Src.step
  split
  · exact h
  · exact Int.le_trans h (by simp only; omega)

def con16 : Con := { ps := [.p 58 (.pair (.sl (.int .i64)) (.int .i64)), .d false (.int .i64), .d false (.int .i64)], rs := [.d false (.int .i64)], pre := fun x => 0 ≤ x.1.2 ∧ -1000000 ≤ x.2.1 ∧ x.2.1 ≤ x.2.2.1 ∧ x.2.2.1 ≤ 1000000, out := fun x => (x.2.1 + goMod (Src.raw x.1) (x.2.2.1 - x.2.1 + 1), ()), nw := fun x => (Src.step x.1, x.2) }
theorem c16 : CtrOk Try.prog 16 con16.ctr :=
  con_sound (G := ⟨[(10, con10.ctr)], [], []⟩) tab_ok (EnvOk.cons c10 has10 EnvOk.nil) rfl Try.func16 rfl con16 71 (by kernel_rfl) (by decide) (by decide) rfl (by decide) rfl (by
    rintro ⟨⟨(l : List Int), (a : Int)⟩, (lo : Int), (hi : Int), _⟩ hpre hwf X hT hG hk hK
    (simp -implicitDefEqProofs only [go_sem, Prod.eta, Option.isSome_none, Option.isSome_some, Int.toNat_zero, Nat.reduceAdd, Nat.reduceMul, Nat.reduceSub, Nat.reduceEqDiff, Nat.reduceLT, Nat.reduceLeDiff, Nat.reduceShiftRight, Nat.reduceMod, Nat.reduceBEq, reduceCtorEq, reduceIte, reduceDIte, Int.reduceNeg, con16, con10, hT, hG, hk, hK, Try.results16] at hwf ⊢); (try simp (disch := decide +kernel) only [drawn, true_and, and_true])
    obtain ⟨h1, h2, h3, h4⟩ : 0 ≤ a ∧ -1000000 ≤ lo ∧ lo ≤ hi ∧ hi ≤ 1000000 := hpre
    have := goMod_bd (Src.raw (l, a)) (hi - lo + 1) (by omega)
    refine ⟨⟨by omega, by omega⟩, ⟨by omega, by omega⟩, h1, fun _ => ⟨by omega, by omega⟩⟩)

def con22 : Con := { ps := [.d false (.sl (.int .i64)), .d false (.sl (.int .i64))], rs := [.d false .bool], pre := fun x => True, out := fun x => (decide (x.1 = x.2.1), ()), nw := id }
theorem c22 : CtrOk Try.prog 22 con22.ctr :=
  con_sound (G := ⟨[], [], []⟩) tab_ok EnvOk.nil rfl Try.func22 rfl con22 33571891 (by kernel_rfl) (by decide) (by decide) rfl (by decide) rfl (by
    rintro ⟨(a : List Int), (b : List Int), _⟩ hpre hwf X hT hG hk hK
    (simp -implicitDefEqProofs only [go_sem, Prod.eta, Option.isSome_none, Option.isSome_some, Int.toNat_zero, Nat.reduceAdd, Nat.reduceMul, Nat.reduceSub, Nat.reduceEqDiff, Nat.reduceLT, Nat.reduceLeDiff, Nat.reduceShiftRight, Nat.reduceMod, Nat.reduceBEq, reduceCtorEq, reduceIte, reduceDIte, Int.reduceNeg, con22, hT, hG, hk, hK, Try.results22] at hwf ⊢); (try simp (disch := decide +kernel) only [drawn, true_and, and_true])
    intro hla hlb
    refine ⟨fun h => (decide_eq_false (fun e => h (by rw [e]))).symm, fun h => ?_⟩
    have hab : a.length = b.length := by omega
    refine evk_loop ⟨{ i : Nat // i ≤ a.length ∧ a.take i = b.take i }, 1000, fun q => [(0, .one (.sl (.int .i64) a false)), (1, .one (.sl (.int .i64) b false)), (5, .one (.int .i64 q.1))], fun _ => [], fun q => a.length - q.1⟩ ⟨0, by simp⟩ ?_ ?_
    · simp only [go_sem, Prod.eta, Option.isSome_none, Option.isSome_some, Int.toNat_zero, Nat.reduceAdd, Nat.reduceMul, Nat.reduceSub, Nat.reduceEqDiff, Nat.reduceLT, Nat.reduceLeDiff, Nat.reduceShiftRight, Nat.reduceMod, Nat.reduceBEq, reduceCtorEq, reduceIte, reduceDIte, Int.reduceNeg]
      rfl
    · rintro ⟨i, hi, he⟩
      (simp -implicitDefEqProofs only [go_sem, Prod.eta, Option.isSome_none, Option.isSome_some, Int.toNat_zero, Nat.reduceAdd, Nat.reduceMul, Nat.reduceSub, Nat.reduceEqDiff, Nat.reduceLT, Nat.reduceLeDiff, Nat.reduceShiftRight, Nat.reduceMod, Nat.reduceBEq, reduceCtorEq, reduceIte, reduceDIte, Int.reduceNeg, con22, hT, hG, hk, hK, Try.results22]); (try simp (disch := decide +kernel) only [drawn, true_and, and_true])
      intro _
      have hi0 : i ≤ a.length := hi
      have he0 : a.take i = b.take i := he
      refine ⟨fun hlt => ?_, fun hge => ?_⟩
      · have hi1 : i < a.length := by omega
        have hi2 : i < b.length := by omega
        have ea : a.getD (i : Int).toNat 0 = a[i] := by simp [hi1]
        have eb : b.getD (i : Int).toNat 0 = b[i] := by simp [hi2]
        rw [ea, eb]
        refine ⟨⟨by omega, hlt⟩, fun _ _ => ⟨⟨by omega, by omega⟩, fun _ _ => ⟨fun hne => ?_, fun hq => ⟨by simp only [maxLen] at hla; omega, fin_lp ⟨i + 1, by omega, ?_⟩ ?_ ?_⟩⟩⟩⟩
        · refine (decide_eq_false (fun e => hne ?_)).symm
          subst e; rfl
        · rw [List.take_succ_eq_append_getElem hi1, List.take_succ_eq_append_getElem hi2, he0, Classical.not_not.1 hq]
        · simp only [go_sem, Prod.eta, Option.isSome_none, Option.isSome_some, Int.toNat_zero, Nat.reduceAdd, Nat.reduceMul, Nat.reduceSub, Nat.reduceEqDiff, Nat.reduceLT, Nat.reduceLeDiff, Nat.reduceShiftRight, Nat.reduceMod, Nat.reduceBEq, reduceCtorEq, reduceIte, reduceDIte, Int.reduceNeg]
          rfl
        · show a.length - (i + 1) < a.length - i
          omega
      · rw [List.take_of_length_le (by omega), List.take_of_length_le (by omega)] at he0
        exact (decide_eq_true he0).symm)

def con43 : Con := { ps := [.p 58 (.pair (.sl (.int .i64)) (.int .i64)), .d false (.sl (.int .i64))], rs := [.d false (.int .i64)], pre := fun (x : Src × List Int × Unit) => 0 ≤ x.1.2 ∧ 0 < x.2.1.length, out := fun (x : Src × List Int × Unit) => (x.2.1.getD (goMod (Src.raw x.1) x.2.1.length).toNat 0, ()), nw := fun x => (Src.step x.1, x.2) }
theorem c43 : CtrOk Try.prog 43 con43.ctr :=
  con_sound (G := ⟨[(10, con10.ctr)], [], []⟩) tab_ok (EnvOk.cons c10 has10 EnvOk.nil) rfl Try.func43 rfl con43 19 (by kernel_rfl) (by decide) (by decide) rfl (by decide) rfl (by
    rintro ⟨⟨(s : List Int), (a : Int)⟩, (l : List Int), _⟩ hpre hwf X hT hG hk hK
    (simp -implicitDefEqProofs only [go_sem, Prod.eta, Option.isSome_none, Option.isSome_some, Int.toNat_zero, Nat.reduceAdd, Nat.reduceMul, Nat.reduceSub, Nat.reduceEqDiff, Nat.reduceLT, Nat.reduceLeDiff, Nat.reduceShiftRight, Nat.reduceMod, Nat.reduceBEq, reduceCtorEq, reduceIte, reduceDIte, Int.reduceNeg, Bool.not_eq_true', Bool.not_eq_false', Bool.or_eq_true, Bool.or_eq_false_iff, Bool.and_eq_true, Bool.and_eq_false_iff, decide_eq_true_eq, decide_eq_false_iff_not, Classical.not_not, not_or, maxLen, con43, con10, hT, hG, hk, hK, Try.results43] at hwf ⊢); (try simp (disch := decide +kernel) only [drawn, true_and, and_true])
    obtain ⟨h1, h2⟩ : 0 ≤ a ∧ 0 < l.length := hpre
    have := goMod_bd (Src.raw (s, a)) l.length (by omega)
    (repeat' (with_reducible (first | refine And.intro ?_ ?_ | intro _))) <;> (try (first | with_reducible (first | done | assumption | omega | contradiction) | decide)))

def othL (l : List Int) (n : Int) : List Int := l.filter (fun x => decide (x ≠ n))
def othV (s : Src) (l : List Int) (n : Int) : Int := if othL l n = [] then -1 else (othL l n).getD (goMod (Src.raw s) (othL l n).length).toNat 0
def con44 : Con := { ps := [.p 58 (.pair (.sl (.int .i64)) (.int .i64)), .d false (.sl (.int .i64)), .d false (.int .i64)], rs := [.d false (.int .i64)], pre := fun (x : Src × List Int × Int × Unit) => 0 ≤ x.1.2 ∧ x.2.1.length ≤ 1000, out := fun (x : Src × List Int × Int × Unit) => (othV x.1 x.2.1 x.2.2.1, ()), nw := fun (x : Src × List Int × Int × Unit) => (if othL x.2.1 x.2.2.1 = [] then x.1 else Src.step x.1, x.2) }
theorem othL_snoc (l : List Int) (n : Int) (i : Nat) (h : i < l.length) : othL (l.take (i + 1)) n = othL (l.take i) n ++ if l[i] = n then [] else [l[i]] := by
  unfold othL
  rw [List.take_succ_eq_append_getElem h, List.filter_append]
  by_cases k : l[i] = n <;> simp [k]
theorem othL_len (l : List Int) (n : Int) : (othL l n).length ≤ l.length := List.length_filter_le _ _
theorem c44 : CtrOk Try.prog 44 con44.ctr :=
  con_sound (G := ⟨[(10, con10.ctr)], [], []⟩) tab_ok (EnvOk.cons c10 has10 EnvOk.nil) rfl Try.func44 rfl con44 1074794951 (by kernel_rfl) (by decide) (by decide) rfl (by decide) rfl (by
    rintro ⟨⟨(s : List Int), (a : Int)⟩, (l : List Int), (n : Int), _⟩ hpre hwf X hT hG hk hK
    (simp -implicitDefEqProofs only [go_sem, Prod.eta, Option.isSome_none, Option.isSome_some, Int.toNat_zero, Nat.reduceAdd, Nat.reduceMul, Nat.reduceSub, Nat.reduceEqDiff, Nat.reduceLT, Nat.reduceLeDiff, Nat.reduceShiftRight, Nat.reduceMod, Nat.reduceBEq, reduceCtorEq, reduceIte, reduceDIte, Int.reduceNeg, Bool.not_eq_true', Bool.not_eq_false', Bool.or_eq_true, Bool.or_eq_false_iff, Bool.and_eq_true, Bool.and_eq_false_iff, decide_eq_true_eq, decide_eq_false_iff_not, Classical.not_not, not_or, maxLen, con44, con10, hT, hG, hk, hK, Try.results44] at hwf ⊢); (try simp (disch := decide +kernel) only [drawn, true_and, and_true])
    obtain ⟨h1, h2⟩ : 0 ≤ a ∧ l.length ≤ 1000 := hpre
    refine evk_loop ⟨{ i : Nat // i ≤ l.length }, 1000, fun q => [(0, .one (.loc 0 0)), (1, .one (.sl (.int .i64) l false)), (2, .one (.int .i64 n)), (7, .one (.row 64)), (8, .one (.int .i64 q.1))], fun q => [(0, .cells 58 [.sl (.int .i64) s false, .int .i64 a]), (64, .row 3 (.int .i64) (othL (l.take q.1) n))], fun q => l.length - q.1⟩ ⟨0, by simp⟩ ?_ ?_
    · simp only [go_sem, Prod.eta, Option.isSome_none, Option.isSome_some, Int.toNat_zero, Nat.reduceAdd, Nat.reduceMul, Nat.reduceSub, Nat.reduceEqDiff, Nat.reduceLT, Nat.reduceLeDiff, Nat.reduceShiftRight, Nat.reduceMod, Nat.reduceBEq, reduceCtorEq, reduceIte, reduceDIte, Int.reduceNeg]
      first | rfl | exact ⟨rfl, rfl⟩
    · rintro ⟨i, (hi : i ≤ l.length)⟩
      (simp -implicitDefEqProofs only [go_sem, Prod.eta, Option.isSome_none, Option.isSome_some, Int.toNat_zero, Nat.reduceAdd, Nat.reduceMul, Nat.reduceSub, Nat.reduceEqDiff, Nat.reduceLT, Nat.reduceLeDiff, Nat.reduceShiftRight, Nat.reduceMod, Nat.reduceBEq, reduceCtorEq, reduceIte, reduceDIte, Int.reduceNeg, Bool.not_eq_true', Bool.not_eq_false', Bool.or_eq_true, Bool.or_eq_false_iff, Bool.and_eq_true, Bool.and_eq_false_iff, decide_eq_true_eq, decide_eq_false_iff_not, Classical.not_not, not_or, maxLen, con44, con10, hT, hG, hk, hK, Try.results44]); (try simp (disch := decide +kernel) only [drawn, true_and, and_true])
      have hol := othL_len (l.take i) n
      rw [List.length_take] at hol
      refine fun _ => ⟨fun hlt => ?_, fun hge => ?_⟩
      · have hi1 : i < l.length := by omega
        have ea : l.getD (i : Int).toNat 0 = l[i] := by simp [hi1]
        have hsn := othL_snoc l n i hi1
        rw [ea]
        by_cases hc : l[i] = n
        · rw [if_pos hc, List.append_nil] at hsn
          (repeat' (with_reducible (first | refine And.intro ?_ ?_ | intro _))) <;> (try (first | with_reducible (first | done | assumption | omega | contradiction) | decide))
          all_goals (refine fin_lp ⟨i + 1, by omega⟩ ?_ (by dsimp only; omega))
          all_goals (simp only [go_sem, Prod.eta, Option.isSome_none, Option.isSome_some, Int.toNat_zero, Nat.reduceAdd, Nat.reduceMul, Nat.reduceSub, Nat.reduceEqDiff, Nat.reduceLT, Nat.reduceLeDiff, Nat.reduceShiftRight, Nat.reduceMod, Nat.reduceBEq, reduceCtorEq, reduceIte, reduceDIte, Int.reduceNeg]; rw [hsn]; exact ⟨rfl, by omega⟩)
        · rw [if_neg hc] at hsn
          (repeat' (with_reducible (first | refine And.intro ?_ ?_ | intro _))) <;> (try (first | with_reducible (first | done | assumption | omega | contradiction) | decide))
          all_goals (refine fin_lp ⟨i + 1, by omega⟩ ?_ (by dsimp only; omega))
          all_goals (simp only [go_sem, Prod.eta, Option.isSome_none, Option.isSome_some, Int.toNat_zero, Nat.reduceAdd, Nat.reduceMul, Nat.reduceSub, Nat.reduceEqDiff, Nat.reduceLT, Nat.reduceLeDiff, Nat.reduceShiftRight, Nat.reduceMod, Nat.reduceBEq, reduceCtorEq, reduceIte, reduceDIte, Int.reduceNeg]; rw [hsn]; exact ⟨rfl, by omega⟩)
      · rw [List.take_of_length_le (show l.length ≤ i by omega)]
        unfold othV
        by_cases ho : othL l n = []
        · have hz : (othL l n).length = 0 := by rw [ho]; rfl
          simp only [if_pos ho]
          (repeat' (with_reducible (first | refine And.intro ?_ ?_ | intro _))) <;> (try (first | with_reducible (first | done | assumption | omega | contradiction) | decide))
        · have hz : 0 < (othL l n).length := List.length_pos_iff.2 ho
          have hb := goMod_bd (Src.raw (s, a)) (othL l n).length (by omega)
          simp only [if_neg ho]
          (repeat' (with_reducible (first | refine And.intro ?_ ?_ | intro _))) <;> (try (first | with_reducible (first | done | assumption | omega | contradiction) | decide)))
end Go.Proofs.Ythbcniifeeoplaa
