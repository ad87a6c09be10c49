/- The contracts of the functions that the statements about the crane reach: costs, checks, comparisons. -/
import Derived.Test.YtjghgckdndggoaaCrA
set_option linter.unusedSimpArgs false
set_option linter.unusedVariables false
set_option maxRecDepth 100000
set_option maxHeartbeats 4000000
namespace Go.Proofs.Ytjghgckdndggoaa
open Go.Ev

abbrev Jobs := List (Int × Int)
def costV (p : Int) : Int := if p < 0 ∨ p > 99 then -1 else 2 * p + 2
def con14 : Con := { ps := [.d false (.int .i64)], rs := [.d false (.int .i64)], pre := fun _ => True, out := fun x => (costV x.1, ()), nw := id }
theorem c14 : CtrOk Try.prog 14 con14.ctr :=
  con_sound (G := ⟨[], [], []⟩) tab_ok EnvOk.nil rfl Try.func14 rfl con14 261 (by kernel_rfl) (by decide) (by decide) rfl (by decide) rfl (by
    rintro ⟨(p : Int), _⟩ hpre hwf X hT hG hk hK
    (simp only [go_sem, Nat.reduceAdd, Nat.reduceMul, Nat.reduceSub, Nat.reduceEqDiff, Nat.reduceLT, Nat.reduceLeDiff, Nat.reduceShiftRight, Nat.reduceMod, Nat.reduceBEq, reduceCtorEq, reduceIte, reduceDIte, Int.reduceNeg, con14, hT, hG, hk, hK, Try.results14] at hwf ⊢); (try simp (disch := decide +kernel) only [drawn, true_and, and_true])
    unfold costV
    refine ⟨fun h => by simpa using h, fun h => ?_, fun h => ?_⟩
    · rw [if_pos (by simpa using h)]
    · simp only [Bool.or_eq_false_iff, decide_eq_false_iff_not] at h
      refine ⟨by omega, by omega, ?_⟩
      rw [if_neg (by omega)])
theorem costV_bd (p : Int) : -1 ≤ costV p ∧ costV p ≤ 200 := by
  unfold costV
  split <;> omega
def con42 : Con := { ps := [.d false (.int .i64)], rs := [.d false .bool], pre := fun _ => True, out := fun x => (false, ()), nw := id }
theorem c42 : CtrOk Try.prog 42 con42.ctr :=
  con_sound (G := ⟨[], [], []⟩) tab_ok EnvOk.nil rfl Try.func42 rfl con42 5 (by kernel_rfl) (by decide) (by decide) rfl (by decide) rfl (by
    rintro ⟨(p : Int), _⟩ hpre hwf X hT hG hk hK
    (simp only [go_sem, Nat.reduceAdd, Nat.reduceMul, Nat.reduceSub, Nat.reduceEqDiff, Nat.reduceLT, Nat.reduceLeDiff, Nat.reduceShiftRight, Nat.reduceMod, Nat.reduceBEq, reduceCtorEq, reduceIte, reduceDIte, Int.reduceNeg, con42, hT, hG, hk, hK, Try.results42] at hwf ⊢); (try simp (disch := decide +kernel) only [drawn, true_and, and_true]))
def cmpV (a b : Int) : Int := if a < b then -1 else if a > b then 1 else 0
def con38 : Con := { ps := [.d false (.int .i64), .d false (.int .i64)], rs := [.d false (.int .i64)], pre := fun _ => True, out := fun x => (cmpV x.1 x.2.1, ()), nw := id }
theorem c38 : CtrOk Try.prog 38 con38.ctr :=
  con_sound (G := ⟨[(42, con42.ctr)], [], []⟩) tab_ok (EnvOk.cons c42 has42 EnvOk.nil) rfl Try.func38 rfl con38 604275 (by kernel_rfl) (by decide) (by decide) rfl (by decide) rfl (by
    rintro ⟨(a : Int), (b : Int), _⟩ hpre hwf X hT hG hk hK
    (simp only [go_sem, Nat.reduceAdd, Nat.reduceMul, Nat.reduceSub, Nat.reduceEqDiff, Nat.reduceLT, Nat.reduceLeDiff, Nat.reduceShiftRight, Nat.reduceMod, Nat.reduceBEq, reduceCtorEq, reduceIte, reduceDIte, Int.reduceNeg, con38, con42, hT, hG, hk, hK, Try.results38] at hwf ⊢); (try simp (disch := decide +kernel) only [drawn, true_and, and_true])
    unfold cmpV
    refine ⟨fun h => h.elim, fun h => h.elim, fun h => by rw [if_pos h], fun h => ⟨fun k => by rw [if_neg h, if_pos k], fun k => by rw [if_neg h, if_neg k]⟩⟩)
def dueOf (js : Jobs) (i : Int) : Int := (js.getD i.toNat (0, 0)).2
def con37 : Con := { ps := [.d false (.int .i64), .d false (.int .i64), .p 23 (.sl (.pair (.int .i64) (.int .i64)))], rs := [.d false (.int .i64)], pre := fun x => 0 ≤ x.1 ∧ x.1 < x.2.2.1.length ∧ 0 ≤ x.2.1 ∧ x.2.1 < x.2.2.1.length, out := fun x => (cmpV (dueOf x.2.2.1 x.1) (dueOf x.2.2.1 x.2.1), ()), nw := id }
theorem c37 : CtrOk Try.prog 37 con37.ctr :=
  con_sound (G := ⟨[(38, con38.ctr)], [], []⟩) tab_ok (EnvOk.cons c38 has38 EnvOk.nil) rfl Try.func37 rfl con37 39 (by kernel_rfl) (by decide) (by decide) rfl (by decide) rfl (by
    rintro ⟨(a : Int), (b : Int), (js : Jobs), _⟩ hpre hwf X hT hG hk hK
    (simp only [go_sem, Nat.reduceAdd, Nat.reduceMul, Nat.reduceSub, Nat.reduceEqDiff, Nat.reduceLT, Nat.reduceLeDiff, Nat.reduceShiftRight, Nat.reduceMod, Nat.reduceBEq, reduceCtorEq, reduceIte, reduceDIte, Int.reduceNeg, con37, con38, hT, hG, hk, hK, Try.results37] at hwf ⊢); (try simp (disch := decide +kernel) only [drawn, true_and, and_true])
    obtain ⟨h1, h2, h3, h4⟩ : 0 ≤ a ∧ a < js.length ∧ 0 ≤ b ∧ b < js.length := hpre
    exact ⟨⟨h1, h2⟩, fun _ _ => ⟨⟨h3, h4⟩, fun _ _ _ => rfl⟩⟩)
def okJob (j : Int × Int) : Bool := decide (0 ≤ costV j.1) && decide (0 ≤ j.2) && decide (j.2 ≤ 1048576)
def checkedV (now : Int) (js : Jobs) : Int := if js.length > 200 then 2 else if now < 0 ∨ now > 1048576 then 1 else if js.all okJob then 0 else 1
def con27 : Con := { ps := [.d false (.int .i64), .d false (.sl (.pair (.int .i64) (.int .i64)))], rs := [.d false (.int .i64)], pre := fun _ => True, out := fun x => (checkedV x.1 x.2.1, ()), nw := id }
theorem c27 : CtrOk Try.prog 27 con27.ctr :=
  con_sound (G := ⟨[(14, con14.ctr)], [], []⟩) tab_ok (EnvOk.cons c14 has14 EnvOk.nil) rfl Try.func27 rfl con27 34360754771 (by kernel_rfl) (by decide) (by decide) rfl (by decide) rfl (by
    rintro ⟨(now : Int), (js : Jobs), _⟩ hpre hwf X hT hG hk hK
    (simp only [go_sem, Nat.reduceAdd, Nat.reduceMul, Nat.reduceSub, Nat.reduceEqDiff, Nat.reduceLT, Nat.reduceLeDiff, Nat.reduceShiftRight, Nat.reduceMod, Nat.reduceBEq, reduceCtorEq, reduceIte, reduceDIte, Int.reduceNeg, con27, con14, hT, hG, hk, hK, Try.results27] at hwf ⊢); (try simp (disch := decide +kernel) only [drawn, true_and, and_true])
    intro hl
    refine ⟨fun h => by unfold checkedV; rw [if_pos (by omega)], fun h => ⟨fun k => by simpa using k, fun k => ?_, fun k _ => ?_⟩⟩
    · unfold checkedV; rw [if_neg (by omega), if_pos (by simpa using k)]
    · have e : checkedV now js = if js.all okJob then 0 else 1 := by
        simp only [Bool.or_eq_false_iff, decide_eq_false_iff_not] at k
        unfold checkedV; rw [if_neg (by omega), if_neg (by omega)]
      refine evk_loop ⟨{ i : Nat // i ≤ js.length ∧ (js.take i).all okJob = true }, 1000, fun i => [(16, .one (.sl (.pair (.int .i64) (.int .i64)) js false)), (17, .one (.int .i64 js.length)), (18, .one (.int .i64 i.1))], fun _ => [], fun i => js.length - i.1⟩ ⟨0, by simp⟩ ?_ ?_
      · simp only [go_sem, Nat.reduceAdd, Nat.reduceMul, Nat.reduceSub, Nat.reduceEqDiff, Nat.reduceLT, Nat.reduceLeDiff, Nat.reduceShiftRight, Nat.reduceMod, Nat.reduceBEq, reduceCtorEq, reduceIte, reduceDIte, Int.reduceNeg]
        rfl
      · rintro ⟨i, hi, hx⟩
        (simp only [go_sem, Nat.reduceAdd, Nat.reduceMul, Nat.reduceSub, Nat.reduceEqDiff, Nat.reduceLT, Nat.reduceLeDiff, Nat.reduceShiftRight, Nat.reduceMod, Nat.reduceBEq, reduceCtorEq, reduceIte, reduceDIte, Int.reduceNeg, con27, con14, hT, hG, hk, hK, Try.results27]); (try simp (disch := decide +kernel) only [drawn, true_and, and_true])
        rw [e]
        refine ⟨fun hlt => ⟨⟨by omega, hlt⟩, fun _ _ _ => ?_⟩, fun hge => ?_⟩
        · have hi' : i < js.length := by omega
          have ej : js.getD (i : Int).toNat (0, 0) = js[i] := by simp [hi']
          rw [ej]
          have hm : js[i] ∈ js := List.getElem_mem hi'
          have ha : (decide (costV js[i].1 < 0) || decide (js[i].2 < 0) || decide (js[i].2 > 1048576)) = !okJob js[i] := by
            have q : ∀ (a b c : Prop) [Decidable a] [Decidable b] [Decidable c] (a' b' c' : Prop) [Decidable a'] [Decidable b'] [Decidable c'], (a' ↔ ¬a) → (b' ↔ ¬b) → (c' ↔ ¬c) → (decide a || decide b || decide c) = !(decide a' && decide b' && decide c') := by
              intro a b c _ _ _ a' b' c' _ _ _ h1 h2 h3
              simp only [h1, h2, h3, decide_not]
              cases decide a <;> cases decide b <;> cases decide c <;> rfl
            exact q _ _ _ _ _ _ (by omega) (by omega) (by omega)
          rw [ha]
          refine ⟨fun h => by simpa using h, fun h => by rw [h]; rfl, fun h => ?_, fun h => ⟨by omega, fin_lp ⟨i + 1, by omega, ?_⟩ ?_ ?_⟩⟩
          · rw [if_neg]
            intro hall
            rw [List.all_eq_true.1 hall _ hm] at h
            cases h
          · rw [List.take_succ_eq_append_getElem hi', List.all_append, hx]
            simpa using h
          · simp only [go_sem, Nat.reduceAdd, Nat.reduceMul, Nat.reduceSub, Nat.reduceEqDiff, Nat.reduceLT, Nat.reduceLeDiff, Nat.reduceShiftRight, Nat.reduceMod, Nat.reduceBEq, reduceCtorEq, reduceIte, reduceDIte, Int.reduceNeg]
            rfl
          · show js.length - (i + 1) < js.length - i
            omega
        · rw [List.take_of_length_le (by omega)] at hx
          rw [if_pos hx])

/-- The finish times. -/
def finV (js : Jobs) : Int → List Int → List Int
  | _, [] => []
  | t, k :: ks => (t + costV (js.getD k.toNat (0, 0)).1) :: finV js (t + costV (js.getD k.toNat (0, 0)).1) ks
def con31 : Con := { ps := [.d false (.int .i64), .d false (.sl (.pair (.int .i64) (.int .i64))), .d false (.sl (.int .i64))], rs := [.o 3 (.int .i64)], pre := fun x => 0 ≤ x.1 ∧ x.1 ≤ 1048576 ∧ x.2.2.1.length ≤ 1048576 ∧ ∀ k ∈ x.2.2.1, 0 ≤ k ∧ k < x.2.1.length, out := fun x => (finV x.2.1 x.1 x.2.2.1, ()), nw := id }
theorem c31 : CtrOk Try.prog 31 con31.ctr :=
  con_sound (G := ⟨[(14, con14.ctr)], [], []⟩) tab_ok (EnvOk.cons c14 has14 EnvOk.nil) rfl Try.func31 rfl con31 17351 (by kernel_rfl) (by decide) (by decide) rfl (by decide) rfl (by
    rintro ⟨(now : Int), (js : Jobs), (ks : List Int), _⟩ hpre hwf X hT hG hk hK
    (simp only [go_sem, Nat.reduceAdd, Nat.reduceMul, Nat.reduceSub, Nat.reduceEqDiff, Nat.reduceLT, Nat.reduceLeDiff, Nat.reduceShiftRight, Nat.reduceMod, Nat.reduceBEq, reduceCtorEq, reduceIte, reduceDIte, Int.reduceNeg, con31, con14, hT, hG, hk, hK, Try.results31] at hwf ⊢); (try simp (disch := decide +kernel) only [drawn, true_and, and_true])
    obtain ⟨h1, h2, h3, h4⟩ : 0 ≤ now ∧ now ≤ 1048576 ∧ ks.length ≤ 1048576 ∧ ∀ k ∈ ks, 0 ≤ k ∧ k < js.length := hpre
    refine evk_loop ⟨{ q : Nat × List Int × Int // q.1 ≤ ks.length ∧ finV js now ks = q.2.1 ++ finV js q.2.2 (ks.drop q.1) ∧ q.2.1.length = q.1 ∧ -(q.1 : Int) ≤ q.2.2 ∧ q.2.2 ≤ 1048576 + 200 * q.1 }, 1000,
      fun q => [(1, .one (.sl (.pair (.int .i64) (.int .i64)) js false)), (2, .one (.sl (.int .i64) ks false)), (7, .one (.row 64)), (8, .one (.int .i64 q.1.1)), (9, .one (.int .i64 q.1.2.2))],
      fun q => [(64, .row 3 (.int .i64) q.1.2.1)], fun q => ks.length - q.1.1⟩ ⟨(0, [], now), by simp, by simp, rfl, by simp; omega, by simp; omega⟩ ?_ ?_
    · simp only [go_sem, Nat.reduceAdd, Nat.reduceMul, Nat.reduceSub, Nat.reduceEqDiff, Nat.reduceLT, Nat.reduceLeDiff, Nat.reduceShiftRight, Nat.reduceMod, Nat.reduceBEq, reduceCtorEq, reduceIte, reduceDIte, Int.reduceNeg]
      rfl
    · rintro ⟨⟨i, out, t⟩, hi, he, hl, hb1, hb2⟩
      (simp only [go_sem, Nat.reduceAdd, Nat.reduceMul, Nat.reduceSub, Nat.reduceEqDiff, Nat.reduceLT, Nat.reduceLeDiff, Nat.reduceShiftRight, Nat.reduceMod, Nat.reduceBEq, reduceCtorEq, reduceIte, reduceDIte, Int.reduceNeg, con31, con14, hT, hG, hk, hK, Try.results31]); (try simp (disch := decide +kernel) only [drawn, true_and, and_true])
      intro _
      have hi0 : i ≤ ks.length := hi
      have hb1' : -(i : Int) ≤ t := hb1
      have hb2' : t ≤ 1048576 + 200 * (i : Int) := hb2
      have hl' : out.length = i := hl
      have he' : finV js now ks = out ++ finV js t (ks.drop i) := he
      refine ⟨fun hlt => ?_, fun hge => ?_⟩
      · have hi' : i < ks.length := by omega
        have ek : ks.getD (i : Int).toNat 0 = ks[i] := by simp [hi']
        rw [ek]
        have hk4 := h4 _ (List.getElem_mem hi')
        generalize hc : costV (List.getD js (Int.toNat ks[i]) (0, 0)).1 = c
        have hcb : -1 ≤ c ∧ c ≤ 200 := by rw [← hc]; exact costV_bd _
        refine ⟨⟨by omega, hlt⟩, fun _ _ => ⟨hk4, fun _ _ _ => ⟨⟨by omega, by omega⟩, by omega, ⟨by omega, by omega⟩, fin_lp ⟨(i + 1, out ++ [t + c], t + c), by omega, ?_, ?_, ?_, ?_⟩ ?_ ?_⟩⟩⟩
        · show finV js now ks = (out ++ [t + c]) ++ finV js (t + c) (ks.drop (i + 1))
          rw [he', List.drop_eq_getElem_cons hi', finV, hc]
          simp
        · show (out ++ [t + c]).length = i + 1
          rw [List.length_append, hl']; rfl
        · show -((i + 1 : Nat) : Int) ≤ t + c
          omega
        · show t + c ≤ 1048576 + 200 * ((i + 1 : Nat) : Int)
          omega
        · simp only [go_sem, Nat.reduceAdd, Nat.reduceMul, Nat.reduceSub, Nat.reduceEqDiff, Nat.reduceLT, Nat.reduceLeDiff, Nat.reduceShiftRight, Nat.reduceMod, Nat.reduceBEq, reduceCtorEq, reduceIte, reduceDIte, Int.reduceNeg]
          rfl
        · show ks.length - (i + 1) < ks.length - i
          omega
      · rw [he', List.drop_of_length_le (by omega), finV, List.append_nil])
theorem finV_len (js : Jobs) : ∀ (ks : List Int) (t : Int), (finV js t ks).length = ks.length
  | [], _ => rfl
  | k :: ks, t => by rw [finV, List.length_cons, List.length_cons, finV_len js ks]
def firstLate (js : Jobs) : Int → List Int → List Int → Int
  | i, t :: ts, k :: ks => if t > dueOf js k then i else firstLate js (i + 1) ts ks
  | _, _, _ => -1
def con29 : Con := { ps := [.d false (.int .i64), .d false (.sl (.pair (.int .i64) (.int .i64))), .d false (.sl (.int .i64))], rs := [.d false (.int .i64)], pre := fun x => 0 ≤ x.1 ∧ x.1 ≤ 1048576 ∧ x.2.2.1.length ≤ 1048576 ∧ ∀ k ∈ x.2.2.1, 0 ≤ k ∧ k < x.2.1.length, out := fun x => (firstLate x.2.1 0 (finV x.2.1 x.1 x.2.2.1) x.2.2.1, ()), nw := id }
theorem c29 : CtrOk Try.prog 29 con29.ctr :=
  con_sound (G := ⟨[(31, con31.ctr)], [], []⟩) tab_ok (EnvOk.cons c31 has31 EnvOk.nil) rfl Try.func29 rfl con29 268497351 (by kernel_rfl) (by decide) (by decide) rfl (by decide) rfl (by
    rintro ⟨(now : Int), (js : Jobs), (ks : List Int), _⟩ hpre hwf X hT hG hk hK
    (simp only [go_sem, Nat.reduceAdd, Nat.reduceMul, Nat.reduceSub, Nat.reduceEqDiff, Nat.reduceLT, Nat.reduceLeDiff, Nat.reduceShiftRight, Nat.reduceMod, Nat.reduceBEq, reduceCtorEq, reduceIte, reduceDIte, Int.reduceNeg, con29, con31, hT, hG, hk, hK, Try.results29] at hwf ⊢); (try simp (disch := decide +kernel) only [drawn, true_and, and_true])
    have h := hpre
    obtain ⟨h1, h2, h3, h4⟩ : 0 ≤ now ∧ now ≤ 1048576 ∧ ks.length ≤ 1048576 ∧ ∀ k ∈ ks, 0 ≤ k ∧ k < js.length := hpre
    refine ⟨⟨h1, h2, h3, h4⟩, fun _ hl => ?_⟩
    have hfl := finV_len js ks now
    generalize hfe : finV js now ks = fs at hfl hl
    refine evk_loop ⟨{ i : Nat // i ≤ fs.length ∧ firstLate js 0 fs ks = firstLate js i (fs.drop i) (ks.drop i) }, 1000,
      fun q => [(1, .one (.sl (.pair (.int .i64) (.int .i64)) js false)), (2, .one (.sl (.int .i64) ks false)), (12, .one (.row 64)), (13, .one (.int .i64 fs.length)), (14, .one (.int .i64 q.1))],
      fun q => [(64, .row 3 (.int .i64) fs)], fun q => fs.length - q.1⟩ ⟨0, by simp, by simp⟩ ?_ ?_
    · simp only [go_sem, Nat.reduceAdd, Nat.reduceMul, Nat.reduceSub, Nat.reduceEqDiff, Nat.reduceLT, Nat.reduceLeDiff, Nat.reduceShiftRight, Nat.reduceMod, Nat.reduceBEq, reduceCtorEq, reduceIte, reduceDIte, Int.reduceNeg]
      rfl
    · rintro ⟨i, hi, he⟩
      (simp only [go_sem, Nat.reduceAdd, Nat.reduceMul, Nat.reduceSub, Nat.reduceEqDiff, Nat.reduceLT, Nat.reduceLeDiff, Nat.reduceShiftRight, Nat.reduceMod, Nat.reduceBEq, reduceCtorEq, reduceIte, reduceDIte, Int.reduceNeg, con29, con31, hT, hG, hk, hK, Try.results29]); (try simp (disch := decide +kernel) only [drawn, true_and, and_true])
      have hi0 : i ≤ fs.length := hi
      refine ⟨fun hlt => ?_, fun hge => ?_⟩
      · have hi' : i < fs.length := by omega
        have hi2 : i < ks.length := by omega
        have ek : ks.getD (i : Int).toNat 0 = ks[i] := by simp [hi2]
        have ef : fs.getD (i : Int).toNat 0 = fs[i] := by simp [hi']
        have hst : firstLate js 0 fs ks = if fs[i] > dueOf js ks[i] then (i : Int) else firstLate js ((i + 1 : Nat) : Int) (fs.drop (i + 1)) (ks.drop (i + 1)) := by
          rw [he, List.drop_eq_getElem_cons hi', List.drop_eq_getElem_cons hi2, firstLate]; rfl
        rw [ek, ef]
        have hk4 := h4 _ (List.getElem_mem hi2)
        refine ⟨⟨by omega, hlt⟩, fun _ => ⟨⟨by omega, hlt⟩, fun _ => ⟨⟨by omega, by omega⟩, fun _ _ => ⟨hk4, fun _ _ => ⟨fun hc => ?_, fun hc => ⟨by omega, fin_lp ⟨i + 1, by omega, ?_⟩ ?_ ?_⟩⟩⟩⟩⟩⟩
        · rw [hfe, hst]
          exact (if_pos hc).symm
        · rw [hst]
          exact if_neg hc
        · simp only [go_sem, Nat.reduceAdd, Nat.reduceMul, Nat.reduceSub, Nat.reduceEqDiff, Nat.reduceLT, Nat.reduceLeDiff, Nat.reduceShiftRight, Nat.reduceMod, Nat.reduceBEq, reduceCtorEq, reduceIte, reduceDIte, Int.reduceNeg]
          rfl
        · show fs.length - (i + 1) < fs.length - i
          omega
      · rw [hfe, he, List.drop_of_length_le (by omega)]
        rfl)
end Go.Proofs.Ytjghgckdndggoaa
