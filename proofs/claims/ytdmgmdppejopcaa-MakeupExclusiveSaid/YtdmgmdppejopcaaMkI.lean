/- The contracts of the functions that the statements about the makeup reach: the order of flights. -/
import Derived.Test.YtdmgmdppejopcaaMkH
import Derived.Test.YtdmgmdppejopcaaEvSortF
set_option linter.unusedSimpArgs false
set_option linter.unusedVariables false
set_option maxRecDepth 100000
set_option maxHeartbeats 4000000
namespace Go.Proofs.Ytdmgmdppejopcaa
open Go.Ev
open Go.Sort (SWO)

/-- What a comparison is. -/
structure Cmp {α : Type} (c : α → α → Int) : Prop where
  eq : ∀ a b, c a b = 0 ↔ a = b
  anti : ∀ a b, c a b < 0 ↔ 0 < c b a
  trans : ∀ a b d, c a b < 0 → c b d < 0 → c a d < 0
  unit : ∀ a b, -1 ≤ c a b ∧ c a b ≤ 1
theorem cmpV_cmp : Cmp cmpV := by
  refine ⟨fun a b => ?_, fun a b => ?_, fun a b d => ?_, fun a b => ?_⟩ <;> unfold cmpV
  · split
    · omega
    · split <;> omega
  · (repeat' split) <;> omega
  · intro h1 h2
    have a1 : a < b := by
      apply Classical.byContradiction
      intro h
      rw [if_neg h] at h1
      split at h1 <;> omega
    have a2 : b < d := by
      apply Classical.byContradiction
      intro h
      rw [if_neg h] at h2
      split at h2 <;> omega
    rw [if_pos (by omega)]; omega
  · split
    · omega
    · split <;> omega
theorem strLt_iff (a b : ByteArray) : strLt a b = true ↔ a.toList < b.toList := by
  unfold strLt
  rw [Go.Proofs.bytesLess_eq, decide_eq_true_eq]
theorem str_inj {a b : ByteArray} (h : a.toList = b.toList) : a = b := by
  have := bytes_eq a b
  rw [h] at this
  simpa using this.symm
theorem cmpS_cmp : Cmp cmpS := by
  have hlt : ∀ a b, cmpS a b = if a.toList < b.toList then -1 else if a = b then 0 else 1 := fun a b => by
    unfold cmpS
    by_cases h : a.toList < b.toList
    · rw [if_pos ((strLt_iff a b).2 h), if_pos h]
    · have h2 : strLt a b = false := by
        cases hh : strLt a b
        · rfl
        · exact absurd ((strLt_iff a b).1 hh) h
      rw [if_neg h, h2]
      by_cases e : a = b
      · simp [e]
      · simp [e]
  have tri : ∀ a b : ByteArray, a ≠ b → ¬ a.toList < b.toList → b.toList < a.toList := fun a b e h => by
    have h2 : b.toList ≤ a.toList := List.not_lt.1 h
    rcases List.le_iff_lt_or_eq.1 h2 with h3 | h3
    · exact h3
    · exact absurd (str_inj h3.symm) e
  refine ⟨fun a b => ?_, fun a b => ?_, fun a b d => ?_, fun a b => ?_⟩ <;> simp only [hlt]
  · by_cases h : a.toList < b.toList
    · rw [if_pos h]
      refine ⟨fun k => by omega, fun k => ?_⟩
      subst k
      exact absurd h (List.lt_irrefl _)
    · rw [if_neg h]
      by_cases e : a = b <;> simp [e]
  · by_cases h : a.toList < b.toList
    · rw [if_pos h, if_neg (fun k => List.lt_asymm h k), if_neg (fun e => by subst e; exact List.lt_irrefl _ h)]
      omega
    · rw [if_neg h]
      by_cases e : a = b
      · subst e; simp [h]
      · rw [if_neg e, if_pos (tri a b e h)]; omega
  · intro h1 h2
    have a1 : a.toList < b.toList := by
      apply Classical.byContradiction
      intro h
      rw [if_neg h] at h1
      split at h1 <;> omega
    have a2 : b.toList < d.toList := by
      apply Classical.byContradiction
      intro h
      rw [if_neg h] at h2
      split at h2 <;> omega
    rw [if_pos (List.lt_trans a1 a2)]; omega
  · split
    · omega
    · split <;> omega
def lexC {α β : Type} (c : α → α → Int) (d : β → β → Int) (x y : α × β) : Int := if c x.1 y.1 = 0 then d x.2 y.2 else c x.1 y.1
theorem Cmp.lex {α β : Type} {c : α → α → Int} {d : β → β → Int} (hc : Cmp c) (hd : Cmp d) : Cmp (lexC c d) := by
  have sym : ∀ a b, c a b = 0 → c b a = 0 := fun a b h => (hc.eq b a).2 ((hc.eq a b).1 h).symm
  refine ⟨fun a b => ?_, fun a b => ?_, fun a b e => ?_, fun a b => ?_⟩ <;> unfold lexC
  · by_cases h : c a.1 b.1 = 0
    · rw [if_pos h, hd.eq]
      have := (hc.eq _ _).1 h
      exact ⟨fun k => Prod.ext this k, fun k => by rw [k]⟩
    · rw [if_neg h]
      exact ⟨fun k => absurd k h, fun k => absurd ((hc.eq _ _).2 (by rw [k])) h⟩
  · by_cases h : c a.1 b.1 = 0
    · rw [if_pos h, if_pos (sym _ _ h)]; exact hd.anti _ _
    · rw [if_neg h, if_neg (fun k => h (sym _ _ k))]; exact hc.anti _ _
  · by_cases h : c a.1 b.1 = 0
    · have e1 := (hc.eq _ _).1 h
      rw [if_pos h, e1]
      by_cases h2 : c b.1 e.1 = 0
      · simp only [h2, if_true]; exact hd.trans _ _ _
      · simp only [h2, if_false]; exact fun _ k => k
    · rw [if_neg h]
      by_cases h2 : c b.1 e.1 = 0
      · rw [if_pos h2, ← (hc.eq _ _).1 h2, if_neg h]; exact fun k _ => k
      · rw [if_neg h2]
        intro k1 k2
        have := hc.trans _ _ _ k1 k2
        rw [if_neg (by omega)]; exact this
  · split
    · exact hd.unit _ _
    · exact hc.unit _ _
theorem fltC_eq (a b : Flt) : fltC a b = lexC cmpS (lexC cmpV (lexC cmpS cmpV)) a b := by
  unfold fltC lexC
  simp only [orV]
  split
  · split
    · split
      · split
        · omega
        · rfl
      · rfl
    · rfl
  · rfl
theorem fltC_cmp : Cmp fltC := by
  have : fltC = lexC cmpS (lexC cmpV (lexC cmpS cmpV)) := by funext a b; exact fltC_eq a b
  rw [this]
  exact cmpS_cmp.lex (cmpV_cmp.lex (cmpS_cmp.lex cmpV_cmp))
theorem all_swo : SWO (fun x y : All => decide (fltC x.1 y.1 < 0)) := by
  refine ⟨fun x => ?_, fun x y z h1 h2 => ?_, fun x y z h1 h2 => ?_⟩
  · have := (fltC_cmp.eq x.1 x.1).2 rfl
    exact decide_eq_false (by omega)
  · exact decide_eq_true (fltC_cmp.trans _ y.1 _ (of_decide_eq_true h1) (of_decide_eq_true h2))
  · have a1 := of_decide_eq_false h1
    have a2 := of_decide_eq_false h2
    refine decide_eq_false fun h => ?_
    by_cases e : fltC y.1 x.1 = 0
    · rw [(fltC_cmp.eq _ _).1 e] at a2; exact a2 h
    · have : fltC y.1 x.1 < 0 := by
        have := fltC_cmp.anti x.1 y.1
        have b := fltC_cmp.anti y.1 x.1
        have e2 : fltC x.1 y.1 ≠ 0 := fun k => e ((fltC_cmp.eq _ _).2 ((fltC_cmp.eq _ _).1 k).symm)
        omega
      exact a2 (fltC_cmp.trans _ _ _ this h)
def con51 : RCon := sortFCon 53 (.pair (.pair .str (.pair (.int .i64) (.pair .str (.int .i64)))) (.int .i64)) 52 (fun a b => fltC a.1 b.1)
theorem c51 : RCtrOk Try.prog 51 con51.rctr := sort_func (e := 53) (t := (.pair (.pair .str (.pair (.int .i64) (.pair .str (.int .i64)))) (.int .i64))) Try.sortF (by decide) Try.isAgg53 Try.sizeOf53 (c := fun (a b : All) => fltC a.1 b.1) c52 has52 all_swo
/-- In the order of the flights. -/
def sortAl (l : List All) : List All := l.mergeSort (fun a b => decide (fltC a.1 b.1 ≤ 0))
theorem sortAl_perm (l : List All) : (sortAl l).Perm l := List.mergeSort_perm l _
theorem fltC_tot (a b : Flt) : ¬ fltC a b ≤ 0 → fltC b a < 0 := fun h => (fltC_cmp.anti b a).2 (by omega)
theorem sortAl_sorted (l : List All) : (sortAl l).Pairwise (fun a b => fltC a.1 b.1 ≤ 0) := by
  have h := List.pairwise_mergeSort (le := fun a b : All => decide (fltC a.1 b.1 ≤ 0)) (fun a b c h1 h2 => by
    have h1 := of_decide_eq_true h1
    have h2 := of_decide_eq_true h2
    refine decide_eq_true ?_
    by_cases e1 : fltC a.1 b.1 = 0
    · rw [(fltC_cmp.eq _ _).1 e1]; exact h2
    · by_cases e2 : fltC b.1 c.1 = 0
      · rw [← (fltC_cmp.eq _ _).1 e2]; exact h1
      · have := fltC_cmp.trans a.1 b.1 c.1 (by omega) (by omega)
        omega) (fun a b => by
    simp only [Bool.or_eq_true, decide_eq_true_eq]
    by_cases h : fltC a.1 b.1 ≤ 0
    · exact .inl h
    · have := fltC_tot _ _ h
      exact .inr (by omega)) l
  exact h.imp (fun h => by simpa using h)
theorem sortAl_eq {l z : List All} (hn : (l.map (·.1)).Nodup) (hp : z.Perm l) (hs : z.Pairwise (fun a b => ¬ fltC b.1 a.1 < 0)) : z = sortAl l := by
  have hnz : (z.map (·.1)).Nodup := (hp.map _).nodup_iff.2 hn
  refine List.Perm.eq_of_pairwise (le := fun a b : All => ¬ fltC b.1 a.1 < 0) (fun a b ha hb h1 h2 => ?_) hs ((sortAl_sorted l).imp (fun {a b} h k => by
    have := (fltC_cmp.anti b.1 a.1).1 k; omega)) (hp.trans (sortAl_perm l).symm)
  have e0 : fltC a.1 b.1 = 0 := by
    have := fltC_cmp.anti b.1 a.1
    omega
  have e := (fltC_cmp.eq _ _).1 e0
  have ha' : a ∈ l := hp.mem_iff.1 ha
  have hb' : b ∈ l := (sortAl_perm l).mem_iff.1 hb
  clear hs hp hnz ha hb
  induction l with
  | nil => cases ha'
  | cons c l ih =>
    rw [List.map_cons, List.nodup_cons] at hn
    rcases List.mem_cons.1 ha' with h1 | h1 <;> rcases List.mem_cons.1 hb' with h2 | h2
    · rw [h1, h2]
    · exact absurd (List.mem_map.2 ⟨b, h2, by rw [← e, h1]⟩) hn.1
    · exact absurd (List.mem_map.2 ⟨a, h1, by rw [e, h2]⟩) hn.1
    · exact ih hn.2 h1 h2
def keysOf (l : List All) : List Flt := l.map (·.1)
def con37 : Con := { ps := [.o 53 (.pair (.pair .str (.pair (.int .i64) (.pair .str (.int .i64)))) (.int .i64))], rs := [], pre := fun (x : List All × Unit) => x.1.length ≤ 1048576 ∧ (keysOf x.1).Nodup, out := fun x => (), nw := fun (x : List All × Unit) => (sortAl x.1, x.2) }
theorem c37 : CtrOk Try.prog 37 con37.ctr :=
  con_sound (G := ⟨[], [(51, con51.rctr)], []⟩) tab_ok (EnvOk.rcons c51 has51 EnvOk.nil) rfl Try.func37 rfl con37 1 (by kernel_rfl) (by decide) (by decide) rfl (by decide) rfl (by
    rintro ⟨(l : List All), _⟩ hpre hwf X hT hG hk hK
    obtain ⟨h1, h2⟩ : l.length ≤ 1048576 ∧ (keysOf l).Nodup := hpre
    (simp only [go_sem, Prod.eta, Option.isSome_none, Option.isSome_some, Int.toNat_zero, Nat.reduceAdd, Nat.reduceMul, Nat.reduceSub, Nat.reduceEqDiff, Nat.reduceLT, Nat.reduceLeDiff, Nat.reduceShiftRight, Nat.reduceMod, Nat.reduceBEq, reduceCtorEq, reduceIte, reduceDIte, Int.reduceNeg, Bool.not_eq_true', Bool.not_eq_false', Bool.or_eq_true, Bool.or_eq_false_iff, Bool.and_eq_true, Bool.and_eq_false_iff, decide_eq_true_eq, decide_eq_false_iff_not, Classical.not_not, not_or, maxLen, con37, con51, hT, hG, hk, hK, Try.results37, sortFCon] at hwf ⊢); (try simp (disch := decide +kernel) only [drawn, true_and, and_true])
    exact ⟨by omega, fun a h => sortAl_eq h2 h.1 h.2⟩)
end Go.Proofs.Ytdmgmdppejopcaa
