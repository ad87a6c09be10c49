/- The contracts of the functions that the statements about the crane reach: the order by due times, the plan. -/
import Derived.Test.YtjghgckdndggoaaCrC
set_option linter.unusedSimpArgs false
set_option linter.unusedVariables false
set_option maxRecDepth 100000
set_option maxHeartbeats 4000000
namespace Go.Proofs.Ytjghgckdndggoaa
open Go.Ev

/-- A function that is not called. -/
structure NoC where
  ctr : Ctr
def con46 : NoC := ⟨fun _ _ _ => ⟨False, .one .undef, [], True⟩⟩
theorem c46 : CtrOk Try.prog 46 con46.ctr := by
  intro cx σ N m w fr avs vs _ _ _ h
  exact h.elim
def con41 : Con := { ps := [.o 3 (.int .i64), .d false (.int .i64), .cl 37 [.p 23 (.sl (.pair (.int .i64) (.int .i64)))]], rs := [], pre := fun x => x.2.1 = x.1.length ∧ x.1.length ≤ 19 ∧ ∀ k ∈ x.1, 0 ≤ k ∧ k < x.2.2.1.1.length, out := fun x => (), nw := fun x => (isort (dueLt x.2.2.1.1) x.1, x.2) }
theorem c41 : CtrOk Try.prog 41 con41.ctr :=
  con_sound (G := ⟨[(45, con45.ctr), (46, con46.ctr)], [], []⟩) tab_ok (EnvOk.cons c45 has45 (EnvOk.cons c46 has46 EnvOk.nil)) rfl Try.func41 rfl con41 18014433942971335 (by kernel_rfl) (by decide) (by decide) rfl (by decide) rfl (by
    rintro ⟨(l : List Int), (n : Int), ⟨(js : Jobs), _⟩, _⟩ hpre hwf X hT hG hk hK
    obtain ⟨rfl, h3, h4⟩ : n = l.length ∧ l.length ≤ 19 ∧ ∀ k ∈ l, 0 ≤ k ∧ k < js.length := hpre
    (simp only [go_sem, Nat.reduceAdd, Nat.reduceMul, Nat.reduceSub, Nat.reduceEqDiff, Nat.reduceLT, Nat.reduceLeDiff, Nat.reduceShiftRight, Nat.reduceMod, Nat.reduceBEq, reduceCtorEq, reduceIte, reduceDIte, Int.reduceNeg, con41, con45, con46, hT, hG, hk, hK, Try.results41] at hwf ⊢); (try simp (disch := decide +kernel) only [drawn, true_and, and_true])
    refine evk_loop ⟨Unit, 1000,
      fun q => [(0, .one (.row 0)), (1, .one (.int .i64 l.length)), (2, .one (.fn 37 [.loc 16 0])), (6, .one (.int .i64 20)), (7, .one (.int .i64 0)), (8, .one (.int .i64 20))],
      fun q => [(0, .row 3 (.int .i64) l), (16, .cells 23 [.sl (.pair (.int .i64) (.int .i64)) js false])], fun q => 0⟩ () ?_ ?_
    · simp only [go_sem, Nat.reduceAdd, Nat.reduceMul, Nat.reduceSub, Nat.reduceEqDiff, Nat.reduceLT, Nat.reduceLeDiff, Nat.reduceShiftRight, Nat.reduceMod, Nat.reduceBEq, reduceCtorEq, reduceIte, reduceDIte, Int.reduceNeg]
    · rintro ⟨⟩
      (simp only [go_sem, Nat.reduceAdd, Nat.reduceMul, Nat.reduceSub, Nat.reduceEqDiff, Nat.reduceLT, Nat.reduceLeDiff, Nat.reduceShiftRight, Nat.reduceMod, Nat.reduceBEq, reduceCtorEq, reduceIte, reduceDIte, Int.reduceNeg, con41, con45, con46, hT, hG, hk, hK, Try.results41]); (try simp (disch := decide +kernel) only [drawn, true_and, and_true])
      refine ⟨fun h => absurd h (by omega), fun _ => ⟨⟨by omega, h4⟩, ?_⟩⟩
      refine evk_loop ⟨Unit, 2000,
        fun q => [(0, .one (.row 0)), (1, .one (.int .i64 l.length)), (2, .one (.fn 37 [.loc 16 0])), (6, .one (.int .i64 20)), (7, .one (.int .i64 0)), (8, .one (.int .i64 20))],
        fun q => [(0, .row 3 (.int .i64) (isort (dueLt js) l)), (16, .cells 23 [.sl (.pair (.int .i64) (.int .i64)) js false])], fun q => 0⟩ () ?_ ?_
      · simp only [go_sem, Nat.reduceAdd, Nat.reduceMul, Nat.reduceSub, Nat.reduceEqDiff, Nat.reduceLT, Nat.reduceLeDiff, Nat.reduceShiftRight, Nat.reduceMod, Nat.reduceBEq, reduceCtorEq, reduceIte, reduceDIte, Int.reduceNeg]
      · rintro ⟨⟩
        (simp only [go_sem, Nat.reduceAdd, Nat.reduceMul, Nat.reduceSub, Nat.reduceEqDiff, Nat.reduceLT, Nat.reduceLeDiff, Nat.reduceShiftRight, Nat.reduceMod, Nat.reduceBEq, reduceCtorEq, reduceIte, reduceDIte, Int.reduceNeg, con41, con45, con46, hT, hG, hk, hK, Try.results41]); (try simp (disch := decide +kernel) only [drawn, true_and, and_true])
        exact fun h => absurd h (by omega))
def con36 : Con := { ps := [.o 3 (.int .i64), .cl 37 [.p 23 (.sl (.pair (.int .i64) (.int .i64)))]], rs := [], pre := fun x => x.1.length ≤ 19 ∧ ∀ k ∈ x.1, 0 ≤ k ∧ k < x.2.1.1.length, out := fun x => (), nw := fun x => (isort (dueLt x.2.1.1) x.1, x.2) }
theorem c36 : CtrOk Try.prog 36 con36.ctr :=
  con_sound (G := ⟨[(41, con41.ctr)], [], []⟩) tab_ok (EnvOk.cons c41 has41 EnvOk.nil) rfl Try.func36 rfl con36 3 (by kernel_rfl) (by decide) (by decide) rfl (by decide) rfl (by
    rintro ⟨(l : List Int), ⟨(js : Jobs), _⟩, _⟩ hpre hwf X hT hG hk hK
    obtain ⟨h3, h4⟩ : l.length ≤ 19 ∧ ∀ k ∈ l, 0 ≤ k ∧ k < js.length := hpre
    (simp only [go_sem, Nat.reduceAdd, Nat.reduceMul, Nat.reduceSub, Nat.reduceEqDiff, Nat.reduceLT, Nat.reduceLeDiff, Nat.reduceShiftRight, Nat.reduceMod, Nat.reduceBEq, reduceCtorEq, reduceIte, reduceDIte, Int.reduceNeg, con36, con41, hT, hG, hk, hK, Try.results36] at hwf ⊢); (try simp (disch := decide +kernel) only [drawn, true_and, and_true])
    exact fun _ => ⟨h3, h4⟩)
/-- The numbers of the jobs. -/
def idxs (n : Nat) : List Int := (List.range n).map Int.ofNat
theorem idxs_succ (n : Nat) : idxs (n + 1) = idxs n ++ [(n : Int)] := by simp [idxs, List.range_succ]
theorem idxs_len (n : Nat) : (idxs n).length = n := by simp [idxs]
theorem idxs_mem {n : Nat} {k : Int} (h : k ∈ idxs n) : 0 ≤ k ∧ k < n := by
  simp only [idxs, List.mem_map, List.mem_range] at h
  obtain ⟨a, h1, rfl⟩ := h
  simp; omega
def con28 : Con := { ps := [.d false (.sl (.pair (.int .i64) (.int .i64)))], rs := [.o 3 (.int .i64)], pre := fun x => x.1.length ≤ 19, out := fun x => (isort (dueLt x.1) (idxs x.1.length), ()), nw := id }
theorem c28 : CtrOk Try.prog 28 con28.ctr :=
  con_sound (G := ⟨[(36, con36.ctr)], [], []⟩) tab_ok (EnvOk.cons c36 has36 EnvOk.nil) rfl Try.func28 rfl con28 479 (by kernel_rfl) (by decide) (by decide) rfl (by decide) rfl (by
    rintro ⟨(js : Jobs), _⟩ hpre hwf X hT hG hk hK
    have h3 : js.length ≤ 19 := hpre
    (simp only [go_sem, Nat.reduceAdd, Nat.reduceMul, Nat.reduceSub, Nat.reduceEqDiff, Nat.reduceLT, Nat.reduceLeDiff, Nat.reduceShiftRight, Nat.reduceMod, Nat.reduceBEq, reduceCtorEq, reduceIte, reduceDIte, Int.reduceNeg, con28, con36, hT, hG, hk, hK, Try.results28] at hwf ⊢); (try simp (disch := decide +kernel) only [drawn, true_and, and_true])
    intro hl
    refine evk_loop ⟨{ i : Nat // i ≤ js.length }, 1000,
      fun q => [(1, .one (.loc 40 0)), (3, .one (.row 64)), (6, .one (.int .i64 js.length)), (7, .one (.int .i64 q.1))],
      fun q => [(40, .cells 23 [.sl (.pair (.int .i64) (.int .i64)) js false]), (64, .row 3 (.int .i64) (idxs q.1))], fun q => js.length - q.1⟩ ⟨0, Nat.zero_le _⟩ ?_ ?_
    · simp only [go_sem, Nat.reduceAdd, Nat.reduceMul, Nat.reduceSub, Nat.reduceEqDiff, Nat.reduceLT, Nat.reduceLeDiff, Nat.reduceShiftRight, Nat.reduceMod, Nat.reduceBEq, reduceCtorEq, reduceIte, reduceDIte, Int.reduceNeg]
      exact ⟨rfl, rfl⟩
    · rintro ⟨i, hi⟩
      (simp only [go_sem, Nat.reduceAdd, Nat.reduceMul, Nat.reduceSub, Nat.reduceEqDiff, Nat.reduceLT, Nat.reduceLeDiff, Nat.reduceShiftRight, Nat.reduceMod, Nat.reduceBEq, reduceCtorEq, reduceIte, reduceDIte, Int.reduceNeg, con28, con36, hT, hG, hk, hK, Try.results28]); (try simp (disch := decide +kernel) only [drawn, true_and, and_true])
      refine ⟨fun hlt => ?_, fun hge => ?_⟩
      · have hl2 := idxs_len i
        refine ⟨by omega, ⟨by omega, by omega⟩, fin_lp ⟨i + 1, by omega⟩ ?_ ?_⟩
        · simp only [go_sem, Nat.reduceAdd, Nat.reduceMul, Nat.reduceSub, Nat.reduceEqDiff, Nat.reduceLT, Nat.reduceLeDiff, Nat.reduceShiftRight, Nat.reduceMod, Nat.reduceBEq, reduceCtorEq, reduceIte, reduceDIte, Int.reduceNeg]
          exact ⟨by rw [idxs_succ], by omega⟩
        · show js.length - (i + 1) < js.length - i
          omega
      · have hi0 : i ≤ js.length := hi
        obtain rfl : i = js.length := by omega
        exact ⟨⟨by rw [idxs_len]; omega, fun k hk => idxs_mem hk⟩, rfl⟩)
def lateV (now : Int) (js : Jobs) (ks : List Int) : Int := firstLate js 0 (finV js now ks) ks
def planE (now : Int) (js : Jobs) : Int := if checkedV now js ≠ 0 then checkedV now js else if lateV now js (isort (dueLt js) (idxs js.length)) ≥ 0 then 12 else 0
def con9 : Con := { ps := [.d false (.int .i64), .d false (.sl (.pair (.int .i64) (.int .i64)))], rs := [.d false (.sl (.int .i64)), .d false (.int .i64)], pre := fun x => x.2.1.length ≤ 19, out := fun x => (if planE x.1 x.2.1 = 0 then isort (dueLt x.2.1) (idxs x.2.1.length) else [], planE x.1 x.2.1, ()), nw := id }
theorem c9 : CtrOk Try.prog 9 con9.ctr :=
  con_sound (G := ⟨[(27, con27.ctr), (28, con28.ctr), (29, con29.ctr)], [], []⟩) tab_ok (EnvOk.cons c27 has27 (EnvOk.cons c28 has28 (EnvOk.cons c29 has29 EnvOk.nil))) rfl Try.func9 rfl con9 1052915 (by kernel_rfl) (by decide) (by decide) rfl (by decide) rfl (by
    rintro ⟨(now : Int), (js : Jobs), _⟩ hpre hwf X hT hG hk hK
    have h3 : js.length ≤ 19 := hpre
    (simp only [go_sem, Nat.reduceAdd, Nat.reduceMul, Nat.reduceSub, Nat.reduceEqDiff, Nat.reduceLT, Nat.reduceLeDiff, Nat.reduceShiftRight, Nat.reduceMod, Nat.reduceBEq, reduceCtorEq, reduceIte, reduceDIte, Int.reduceNeg, con9, con27, con28, con29, hT, hG, hk, hK, Try.results9] at hwf ⊢); (try simp (disch := decide +kernel) only [drawn, true_and, and_true])
    intro _
    have hz : ∀ {e : Int}, planE now js = e → e ≠ 0 → ([] : List Int) = if planE now js = 0 then isort (dueLt js) (idxs js.length) else [] := fun h1 h2 => by rw [if_neg (by rw [h1]; exact h2)]
    refine ⟨fun h => ?_, fun h => ⟨h3, fun _ => ?_⟩⟩
    · have e : planE now js = checkedV now js := by unfold planE; rw [if_pos h]
      exact ⟨e.symm, hz e h⟩
    · have h0 : checkedV now js = 0 := Classical.not_not.1 h
      have hb : 0 ≤ now ∧ now ≤ 1048576 := by
        unfold checkedV at h0
        split at h0
        · cases h0
        · split at h0
          · cases h0
          · omega
      have hpm := isort_perm (dueLt js) (idxs js.length)
      refine ⟨⟨hb.1, hb.2, by rw [isort_len, idxs_len]; omega, fun k hk => idxs_mem (hpm.mem_iff.1 hk)⟩, fun _ => ⟨fun h5 => ?_, fun h5 => ?_⟩⟩
      · have h6 : lateV now js (isort (dueLt js) (idxs js.length)) ≥ 0 := h5
        have e : planE now js = 12 := by unfold planE; rw [if_neg h, if_pos h6]
        exact ⟨e.symm, hz e (by decide)⟩
      · have h6 : ¬ lateV now js (isort (dueLt js) (idxs js.length)) ≥ 0 := h5
        have e : planE now js = 0 := by unfold planE; rw [if_neg h, if_neg h6]
        exact ⟨e.symm, by rw [if_pos e]⟩)
end Go.Proofs.Ytjghgckdndggoaa
