/- The contracts of the functions that the statements about the crane reach: lists compared, overload, the examples. -/
import Derived.Test.YtjghgckdndggoaaCrE
set_option linter.unusedSimpArgs false
set_option linter.unusedVariables false
set_option maxRecDepth 100000
set_option maxHeartbeats 4000000
namespace Go.Proofs.Ytjghgckdndggoaa
open Go.Ev

def con21 : Con := { ps := [.d false (.sl (.int .i64)), .d false (.sl (.int .i64))], rs := [.d false .bool], pre := fun x => True, out := fun x => (decide (x.1 = x.2.1), ()), nw := id }
theorem c21 : CtrOk Try.prog 21 con21.ctr :=
  con_sound (G := ⟨[], [], []⟩) tab_ok EnvOk.nil rfl Try.func21 rfl con21 33571891 (by kernel_rfl) (by decide) (by decide) rfl (by decide) rfl (by
    rintro ⟨(a : List Int), (b : List Int), _⟩ hpre hwf X hT hG hk hK
    (simp only [go_sem, Nat.reduceAdd, Nat.reduceMul, Nat.reduceSub, Nat.reduceEqDiff, Nat.reduceLT, Nat.reduceLeDiff, Nat.reduceShiftRight, Nat.reduceMod, Nat.reduceBEq, reduceCtorEq, reduceIte, reduceDIte, Int.reduceNeg, con21, hT, hG, hk, hK, Try.results21] at hwf ⊢); (try simp (disch := decide +kernel) only [drawn, true_and, and_true])
    intro hla hlb
    refine ⟨fun h => (decide_eq_false (fun e => h (by rw [e]))).symm, fun h => ?_⟩
    have hab : a.length = b.length := by omega
    refine evk_loop ⟨{ i : Nat // i ≤ a.length ∧ a.take i = b.take i }, 1000, fun q => [(0, .one (.sl (.int .i64) a false)), (1, .one (.sl (.int .i64) b false)), (5, .one (.int .i64 q.1))], fun _ => [], fun q => a.length - q.1⟩ ⟨0, by simp⟩ ?_ ?_
    · simp only [go_sem, Nat.reduceAdd, Nat.reduceMul, Nat.reduceSub, Nat.reduceEqDiff, Nat.reduceLT, Nat.reduceLeDiff, Nat.reduceShiftRight, Nat.reduceMod, Nat.reduceBEq, reduceCtorEq, reduceIte, reduceDIte, Int.reduceNeg]
      rfl
    · rintro ⟨i, hi, he⟩
      (simp only [go_sem, Nat.reduceAdd, Nat.reduceMul, Nat.reduceSub, Nat.reduceEqDiff, Nat.reduceLT, Nat.reduceLeDiff, Nat.reduceShiftRight, Nat.reduceMod, Nat.reduceBEq, reduceCtorEq, reduceIte, reduceDIte, Int.reduceNeg, con21, hT, hG, hk, hK, Try.results21]); (try simp (disch := decide +kernel) only [drawn, true_and, and_true])
      intro _
      have hi0 : i ≤ a.length := hi
      have he0 : a.take i = b.take i := he
      refine ⟨fun hlt => ?_, fun hge => ?_⟩
      · have hi1 : i < a.length := by omega
        have hi2 : i < b.length := by omega
        have ea : a.getD (i : Int).toNat 0 = a[i] := by simp [hi1]
        have eb : b.getD (i : Int).toNat 0 = b[i] := by simp [hi2]
        rw [ea, eb]
        refine ⟨⟨by omega, hlt⟩, fun _ _ => ⟨⟨by omega, by omega⟩, fun _ _ => ⟨fun hne => ?_, fun hq => ⟨by simp only [maxLen] at hla; omega, fin_lp ⟨i + 1, by omega, ?_⟩ ?_ ?_⟩⟩⟩⟩
        · refine (decide_eq_false (fun e => hne ?_)).symm
          subst e; rfl
        · rw [List.take_succ_eq_append_getElem hi1, List.take_succ_eq_append_getElem hi2, he0, Classical.not_not.1 hq]
        · simp only [go_sem, Nat.reduceAdd, Nat.reduceMul, Nat.reduceSub, Nat.reduceEqDiff, Nat.reduceLT, Nat.reduceLeDiff, Nat.reduceShiftRight, Nat.reduceMod, Nat.reduceBEq, reduceCtorEq, reduceIte, reduceDIte, Int.reduceNeg]
          rfl
        · show a.length - (i + 1) < a.length - i
          omega
      · rw [List.take_of_length_le (by omega), List.take_of_length_le (by omega)] at he0
        exact (decide_eq_true he0).symm)
theorem firstLate_bd (js : Jobs) : ∀ (ts ks : List Int) (i : Int), firstLate js i ts ks = -1 ∨ (i ≤ firstLate js i ts ks ∧ firstLate js i ts ks < i + ks.length)
  | [], _, _ => .inl (by unfold firstLate; rfl)
  | _ :: _, [], _ => .inl (by unfold firstLate; rfl)
  | t :: ts, k :: ks, i => by
    unfold firstLate
    split
    · right; simp only [List.length_cons]; omega
    · rcases firstLate_bd js ts ks (i + 1) with h | h
      · exact .inl h
      · right; simp only [List.length_cons]; omega
def overV (now : Int) (js : Jobs) : List Int := if checkedV now js ≠ 0 then [] else (isort (dueLt js) (idxs js.length)).take (lateV now js (isort (dueLt js) (idxs js.length)) + 1).toNat
def con15 : Con := { ps := [.d false (.int .i64), .d false (.sl (.pair (.int .i64) (.int .i64)))], rs := [.d false (.sl (.int .i64))], pre := fun x => x.2.1.length ≤ 19, out := fun x => (overV x.1 x.2.1, ()), nw := id }
theorem c15 : CtrOk Try.prog 15 con15.ctr :=
  con_sound (G := ⟨[(27, con27.ctr), (28, con28.ctr), (29, con29.ctr)], [], []⟩) tab_ok (EnvOk.cons c27 has27 (EnvOk.cons c28 has28 (EnvOk.cons c29 has29 EnvOk.nil))) rfl Try.func15 rfl con15 563 (by kernel_rfl) (by decide) (by decide) rfl (by decide) rfl (by
    rintro ⟨(now : Int), (js : Jobs), _⟩ hpre hwf X hT hG hk hK
    have h3 : js.length ≤ 19 := hpre
    (simp only [go_sem, Nat.reduceAdd, Nat.reduceMul, Nat.reduceSub, Nat.reduceEqDiff, Nat.reduceLT, Nat.reduceLeDiff, Nat.reduceShiftRight, Nat.reduceMod, Nat.reduceBEq, reduceCtorEq, reduceIte, reduceDIte, Int.reduceNeg, con15, con27, con28, con29, hT, hG, hk, hK, Try.results15] at hwf ⊢); (try simp (disch := decide +kernel) only [drawn, true_and, and_true])
    intro _
    refine ⟨fun h => by unfold overV; rw [if_pos h], fun h => ⟨h3, fun _ => ?_⟩⟩
    have h0 : checkedV now js = 0 := Classical.not_not.1 h
    have hb : 0 ≤ now ∧ now ≤ 1048576 := by
      unfold checkedV at h0
      split at h0
      · cases h0
      · split at h0
        · cases h0
        · omega
    have hpm := isort_perm (dueLt js) (idxs js.length)
    have hln : (isort (dueLt js) (idxs js.length)).length = js.length := by rw [isort_len, idxs_len]
    have hfb := firstLate_bd js (finV js now (isort (dueLt js) (idxs js.length))) (isort (dueLt js) (idxs js.length)) 0
    refine ⟨⟨hb.1, hb.2, by omega, fun k hk => idxs_mem (hpm.mem_iff.1 hk)⟩, fun _ => ⟨by omega, by omega, ?_⟩⟩
    unfold overV lateV
    rw [if_neg h]
    rfl)
def con10 : Con := { ps := [], rs := [.d false .bool], pre := fun _ => True, out := fun _ => (true, ()), nw := id }
theorem c10 : CtrOk Try.prog 10 con10.ctr :=
  con_sound (G := ⟨[(9, con9.ctr), (14, con14.ctr), (15, con15.ctr), (21, con21.ctr)], [], []⟩) tab_ok (EnvOk.cons c9 has9 (EnvOk.cons c14 has14 (EnvOk.cons c15 has15 (EnvOk.cons c21 has21 EnvOk.nil)))) rfl Try.func10 rfl con10 23 (by kernel_rfl) (by decide) (by decide) rfl (by decide) rfl (by
    rintro ⟨⟩ hpre hwf X hT hG hk hK
    (simp only [go_sem, Nat.reduceAdd, Nat.reduceMul, Nat.reduceSub, Nat.reduceEqDiff, Nat.reduceLT, Nat.reduceLeDiff, Nat.reduceShiftRight, Nat.reduceMod, Nat.reduceBEq, reduceCtorEq, reduceIte, reduceDIte, Int.reduceNeg, con10, con9, con14, con15, con21, hT, hG, hk, hK, Try.results10] at hwf ⊢); (try simp (disch := decide +kernel) only [drawn, true_and, and_true])
    intro _ _ _ _
    decide)
end Go.Proofs.Ytjghgckdndggoaa
