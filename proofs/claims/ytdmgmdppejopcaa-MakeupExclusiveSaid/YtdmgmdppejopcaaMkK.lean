/- The contracts of the functions that the statements about the makeup reach: a day. -/
import Derived.Test.YtdmgmdppejopcaaMkJ
set_option linter.unusedSimpArgs false
set_option linter.unusedVariables false
set_option maxRecDepth 100000
set_option maxHeartbeats 4000000
namespace Go.Proofs.Ytdmgmdppejopcaa
open Go.Ev

theorem chV_mem {l : List All} (hn : (keysOf l).Nodup) {a : All} (h : a ∈ l) : chV l a.1 = (a.2, true) := by
  induction l with
  | nil => cases h
  | cons b l ih =>
    unfold keysOf at hn
    rw [List.map_cons, List.nodup_cons] at hn
    unfold chV
    rcases List.mem_cons.1 h with rfl | h
    · rw [if_pos rfl]
    · rw [if_neg (fun e => hn.1 (List.mem_map.2 ⟨a, h, e.symm⟩))]
      exact ih hn.2 h
theorem chV_not {l : List All} {f : Flt} (h : ∀ a ∈ l, a.1 ≠ f) : chV l f = (0, false) := by
  induction l with
  | nil => rfl
  | cons b l ih =>
    unfold chV
    rw [if_neg (h b (by simp))]
    exact ih (fun a ha => h a (List.mem_cons_of_mem _ ha))
theorem cmpS_self (a : ByteArray) : cmpS a a = 0 := (cmpS_cmp.eq a a).2 rfl
def f0 : Flt := (⟨#[66, 65]⟩, 1, ByteArray.empty, 1)
def f1 : Flt := (⟨#[66, 65]⟩, 1, ByteArray.empty, 2)
def f2 : Flt := (⟨#[66, 65]⟩, 1, ByteArray.empty, 3)
theorem flts0 : fltsV (0 : Nat) = f0 := rfl
theorem flts1 : fltsV (1 : Nat) = f1 := rfl
theorem flts2 : fltsV (2 : Nat) = f2 := rfl
theorem day_pk : peakV dayV = (15, 2) := by decide +kernel
theorem day_valid : validateV dayV = 0 := by
  have v0 : validV (day1 0 10) = true := by decide +kernel
  have v1 : validV (day1 1 15) = true := by decide +kernel
  have v2 : validV (day1 2 20) = true := by decide +kernel
  have c1 : fltC f0 f1 = -1 := by simp [fltC, f0, f1, cmpS_self, orV, cmpV]
  have c2 : fltC f1 f2 = -1 := by simp [fltC, f1, f2, cmpS_self, orV, cmpV]
  have d1 : fltC (day1 0 10).1 (day1 1 15).1 = -1 := c1
  have d2 : fltC (day1 1 15).1 (day1 2 20).1 = -1 := c2
  unfold validateV dayV
  simp [valF, v0, v1, v2, d1, d2]
theorem day_plan : planV dayV = dayV := rfl
theorem day_sort : isort dayV = dayV := rfl
theorem day_args (cs : List Int) (h1 : cs.length ≤ 6) (h2 : cs.all (fun c => decide (0 ≤ c)) = true) (h3 : ascI cs = true) : argsV dayV cs = 0 := by
  unfold argsV
  rw [day_valid, day_plan]
  have : dayV.length = 3 := rfl
  rw [if_neg (by omega), if_neg (by omega), if_neg (by rw [h2]; simp), if_neg (by rw [h3]; simp)]
theorem day_greedy : greedyV dayV [4, 7] = [(f0, 4), (f1, 7), (f2, 4)] := by
  unfold greedyV
  rw [day_plan, day_sort]
  rfl
theorem day_two : planO dayV [4, 7] = ((sortAl [(f0, 4), (f1, 7), (f2, 4)], 0, []), 0) := by
  unfold planO
  rw [day_args [4, 7] (by decide) (by decide) (by decide), day_pk, day_greedy]
  rfl
theorem day_one : planO dayV [4] = (([], 15, [f0, f1]), 0) := by
  unfold planO
  rw [day_args [4] (by decide) (by decide) (by decide), day_pk]
  have : openV dayV 15 = [f0, f1] := rfl
  dsimp only
  rw [this]
  rfl
theorem day_ch : chV (sortAl [(f0, 4), (f1, 7), (f2, 4)]) f1 = (7, true) := by
  have hk := (plan_keys (day_args [4, 7] (by decide) (by decide) (by decide))).1
  rw [day_greedy] at hk
  have hp := sortAl_perm [(f0, 4), (f1, 7), (f2, 4)]
  exact chV_mem (a := (f1, 7)) (((hp.map _).nodup_iff).2 hk) (hp.mem_iff.2 (by simp))
theorem day_len : (sortAl [(f0, 4), (f1, 7), (f2, 4)]).length = 3 := (sortAl_perm _).length_eq
def con15 : Con := { ps := [], rs := [.d false .bool], pre := fun _ => True, out := fun _ => (true, ()), nw := id }
theorem c15 : CtrOk Try.prog 15 con15.ctr :=
  con_sound (G := ⟨[(12, con12.ctr), (18, con18.ctr), (23, con23.ctr), (30, con30.ctr)], [], []⟩) tab_ok (EnvOk.cons c12 has12 (EnvOk.cons c18 has18 (EnvOk.cons c23 has23 (EnvOk.cons c30 has30 EnvOk.nil)))) rfl Try.func15 rfl con15 1023 (by kernel_rfl) (by decide) (by decide) rfl (by decide) rfl (by
    rintro _ hpre hwf X hT hG hk hK
    have e1 : dayV[1].1 = f1 := rfl
    have hlen : dayV.length = 3 := rfl
    have e2 : ∀ z, dayV.getD (Int.toNat 1) z = day1 1 15 := fun z => rfl
    have e3 : (day1 1 15).1 = f1 := rfl
    (simp only [go_sem, Prod.eta, Option.isSome_none, Option.isSome_some, Int.toNat_zero, Nat.reduceAdd, Nat.reduceMul, Nat.reduceSub, Nat.reduceEqDiff, Nat.reduceLT, Nat.reduceLeDiff, Nat.reduceShiftRight, Nat.reduceMod, Nat.reduceBEq, reduceCtorEq, reduceIte, reduceDIte, Int.reduceNeg, Bool.not_eq_true', Bool.not_eq_false', Bool.or_eq_true, Bool.or_eq_false_iff, Bool.and_eq_true, Bool.and_eq_false_iff, decide_eq_true_eq, decide_eq_false_iff_not, Classical.not_not, not_or, maxLen, con15, con12, con18, con23, con30, hT, hG, hk, hK, Try.results15, day_pk, day_two, day_one, hlen, e2, e3, day_ch, day_len] at hwf ⊢); (try simp (disch := decide +kernel) only [drawn, true_and, and_true])
    (repeat' (with_reducible (first | refine And.intro ?_ ?_ | intro _))) <;> (try (first | with_reducible (first | done | assumption | omega | contradiction) | decide)))
end Go.Proofs.Ytdmgmdppejopcaa
