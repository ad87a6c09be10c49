/- The plain law: Check accepts what Plan returns. -/
import Derived.Test.YtdmgmdppejopcaaMkQ
set_option linter.unusedSimpArgs false
set_option linter.unusedVariables false
set_option maxRecDepth 100000
set_option maxHeartbeats 4000000
namespace Go.Proofs.Ytdmgmdppejopcaa
open Go.Ev

theorem ascF_of : ∀ {q : List Flt}, q.Pairwise (fun a b => fltC a b < 0) → ascF q = true
  | [], _ => rfl
  | [_], _ => rfl
  | a :: b :: l, h => by
    obtain ⟨h1, h2⟩ := List.pairwise_cons.1 h
    show (decide (fltC a b < 0) && ascF (b :: l)) = true
    rw [decide_eq_true (h1 b (by simp)), ascF_of h2]
    rfl
theorem of_ascF : ∀ {q : List Flt}, ascF q = true → q.Pairwise (fun a b => fltC a b < 0)
  | [], _ => List.Pairwise.nil
  | [a], _ => List.pairwise_singleton _ a
  | a :: b :: l, h => by
    have h' : (decide (fltC a b < 0) && ascF (b :: l)) = true := h
    rw [Bool.and_eq_true, decide_eq_true_eq] at h'
    have ih := of_ascF h'.2
    refine List.pairwise_cons.2 ⟨fun x hx => ?_, ih⟩
    rcases List.mem_cons.1 hx with rfl | hx
    · exact h'.1
    · exact fltC_cmp.trans _ _ _ h'.1 ((List.pairwise_cons.1 ih).1 x hx)
theorem of_ascI : ∀ {cs : List Int}, ascI cs = true → cs.Pairwise (· < ·)
  | [], _ => List.Pairwise.nil
  | [a], _ => List.pairwise_singleton _ a
  | a :: b :: l, h => by
    have h' : (decide (a < b) && ascI (b :: l)) = true := h
    rw [Bool.and_eq_true, decide_eq_true_eq] at h'
    have ih := of_ascI h'.2
    refine List.pairwise_cons.2 ⟨fun x hx => ?_, ih⟩
    rcases List.mem_cons.1 hx with rfl | hx
    · exact h'.1
    · have := (List.pairwise_cons.1 ih).1 x hx; omega
/-- One departure with a flight. -/
def One (P : List Dep) : Prop := ∀ d ∈ P, ∀ e ∈ P, d.1 = e.1 → d = e
theorem one_of {P : List Dep} (h : P.Pairwise (fun a b => fltC a.1 b.1 < 0)) : One P := by
  intro d hd e he h1
  induction P with
  | nil => cases hd
  | cons c P ih =>
    obtain ⟨g1, g2⟩ := List.pairwise_cons.1 h
    have hz : ∀ x : Flt, ¬ fltC x x < 0 := fun x => by have := (fltC_cmp.eq x x).2 rfl; omega
    rcases List.mem_cons.1 hd with h2 | h2 <;> rcases List.mem_cons.1 he with h3 | h3
    · rw [h2, h3]
    · have := g1 e h3; rw [← h2, h1] at this; exact absurd this (hz _)
    · have := g1 d h2; rw [← h3, h1] at this; exact absurd this (hz _)
    · exact ih g2 h2 h3
theorem idxF_mem {c : Int} : ∀ {cs : List Int} {k : Int}, 0 ≤ k → c ∈ cs → idxF (fun y : Int => decide (c = y)) cs k ≥ 0
  | y :: cs, k, hk, h => by
    unfold idxF
    split
    · omega
    · rename_i hn
      rcases List.mem_cons.1 h with rfl | h
      · exact absurd (decide_eq_true rfl) hn
      · exact idxF_mem (by omega) h
theorem mem_idxF {c : Int} : ∀ {cs : List Int} {k : Int}, idxF (fun y : Int => decide (c = y)) cs k ≥ 0 → c ∈ cs
  | [], k, h => by unfold idxF at h; omega
  | y :: cs, k, h => by
    unfold idxF at h
    split at h
    · rename_i hy
      rw [of_decide_eq_true hy]; exact List.mem_cons_self
    · exact List.mem_cons_of_mem _ (mem_idxF h)
theorem place_at {d : Dep} : ∀ {cs fr : List Int} {c : Int} {fr' : List Int}, place d cs fr = some (c, fr') → ∃ (j : Nat) (h : j < cs.length) (h' : j < fr.length), cs[j] = c ∧ fr[j] ≤ d.opens ∧ fr' = fr.set j d.closes
  | c :: cs, f :: fs, x, fr', h => by
    unfold place at h
    split at h
    · rename_i hf
      cases h
      exact ⟨0, by simp, by simp, rfl, hf, rfl⟩
    · cases hp : place d cs fs with
      | none => rw [hp] at h; cases h
      | some r =>
        obtain ⟨r1, r2⟩ := r
        rw [hp] at h
        cases h
        obtain ⟨j, h1, h2, h3, h4, h5⟩ := place_at hp
        exact ⟨j + 1, by simpa using h1, by simpa using h2, by simpa using h3, by simpa using h4, by rw [h5]; rfl⟩
  | [], _, _, _, h => by simp [place] at h
  | _ :: _, [], _, _, h => by simp [place] at h
/-- No two at one chute at one time. -/
def Free (P : List Dep) (a b : All) : Prop := a.2 = b.2 → ∀ d ∈ P, ∀ e ∈ P, d.1 = a.1 → e.1 = b.1 → overV d e = false ∧ overV e d = false
theorem over_not {d e : Dep} (h : d.closes ≤ e.opens) : overV d e = false ∧ overV e d = false := by
  unfold overV
  constructor
  · refine decide_eq_false ?_
    (repeat' split) <;> omega
  · refine decide_eq_false ?_
    (repeat' split) <;> omega
theorem greedy_free (P : List Dep) (hP : One P) (cs : List Int) (hcs : cs.Pairwise (· < ·)) : ∀ (ds : List Dep) (fr : List Int), fr.length = cs.length → (∀ d ∈ ds, d ∈ P ∧ d.opens < d.closes) →
    (∀ a ∈ greedy ds cs fr, ∃ d ∈ ds, d.1 = a.1 ∧ ∃ (j : Nat) (h : j < cs.length) (h' : j < fr.length), cs[j] = a.2 ∧ fr[j] ≤ d.opens) ∧ (greedy ds cs fr).Pairwise (Free P)
  | [], _, _, _ => ⟨by intro a h; simp [greedy] at h, List.Pairwise.nil⟩
  | d :: ds, fr, hl, hd => by
    have hd0 := hd d (by simp)
    have hds : ∀ e ∈ ds, e ∈ P ∧ e.opens < e.closes := fun e he => hd e (List.mem_cons_of_mem _ he)
    unfold greedy
    cases hp : place d cs fr with
    | none =>
      obtain ⟨u, v⟩ := greedy_free P hP cs hcs ds fr hl hds
      exact ⟨fun a ha => by obtain ⟨e, he, x⟩ := u a ha; exact ⟨e, List.mem_cons_of_mem _ he, x⟩, v⟩
    | some r =>
      obtain ⟨c, fr'⟩ := r
      dsimp only
      obtain ⟨j, j1, j2, j3, j4, j5⟩ := place_at hp
      have hl' : fr'.length = cs.length := (place_len hp).trans hl
      obtain ⟨u, v⟩ := greedy_free P hP cs hcs ds fr' hl' hds
      refine ⟨fun a ha => ?_, List.pairwise_cons.2 ⟨fun b hb => ?_, v⟩⟩
      · rcases List.mem_cons.1 ha with rfl | ha
        · exact ⟨d, by simp, rfl, j, j1, j2, j3, j4⟩
        · obtain ⟨e, he, x1, k, k1, k2, k3, k4⟩ := u a ha
          refine ⟨e, List.mem_cons_of_mem _ he, x1, k, k1, by omega, k3, ?_⟩
          subst j5
          rw [List.getElem_set] at k4
          split at k4
          · rename_i e1
            subst e1
            omega
          · exact k4
      · obtain ⟨e, he, x1, k, k1, k2, k3, k4⟩ := u b hb
        intro hc d' hd' e' he' y1 y2
        dsimp only at hc y1
        have ed : d' = d := hP d' hd' d hd0.1 y1
        have ee : e' = e := hP e' he' e (hds e he).1 (y2.trans x1.symm)
        have hjk : j = k := by
          have h1 : cs[j] = cs[k] := by rw [j3, k3]; exact hc
          rcases Nat.lt_trichotomy j k with h | h | h
          · have := List.pairwise_iff_getElem.1 hcs j k j1 k1 h; omega
          · exact h
          · have := List.pairwise_iff_getElem.1 hcs k j k1 j1 h; omega
        subst hjk
        subst j5
        rw [List.getElem_set_self] at k4
        rw [ed, ee]
        exact over_not k4
theorem find_dep {l : List Dep} (hone : One l) {d : Dep} (hd : d ∈ l) : 0 ≤ findV l d.1 ∧ depAt l (findV l d.1) = d := by
  unfold findV
  rcases idxF_spec (fun e : Dep => decide (e.1 = d.1)) l 0 (Int.le_refl _) with ⟨_, h⟩ | ⟨i, hi, h1, h2, _⟩
  · have := h d hd
    simp at this
  · rw [h1]
    refine ⟨by omega, ?_⟩
    unfold depAt
    rw [show ((0 : Int) + (i : Int)).toNat = i by omega]
    have e : l[i] = d := hone _ (List.getElem_mem hi) _ hd (by simpa using h2)
    simp [hi, e]
theorem free_symm {P : List Dep} {a b : All} (h : Free P a b) : Free P b a := fun hc d hd e he h1 h2 => (h hc.symm e he d hd h2 h1).symm
theorem keys_eq {l : List Dep} {G : List All} (hp : l.Pairwise (fun a b => fltC a.1 b.1 < 0)) (h : (keysOf G).Perm (l.map (fun d => d.1))) : keysOf (sortAl G) = l.map (fun d => d.1) := by
  have h1 : (keysOf (sortAl G)).Perm (l.map (fun d => d.1)) := ((sortAl_perm G).map _).trans h
  refine List.Perm.eq_of_pairwise (le := fun a b => fltC a b ≤ 0) (fun a b _ _ u v => ?_) ?_ ?_ h1
  · have := fltC_cmp.anti a b
    have e : fltC a b = 0 := by omega
    exact (fltC_cmp.eq _ _).1 e
  · unfold keysOf
    rw [List.pairwise_map]
    exact sortAl_sorted G
  · rw [List.pairwise_map]
    exact hp.imp (fun h => by omega)
theorem sound {l : List Dep} {cs : List Int} (ha : argsV l cs = 0) : checkV l cs (planO l cs).1.1 (planO l cs).1.2.1 (planO l cs).1.2.2 = 0 := by
  obtain ⟨a1, a2, a3, a4, a5⟩ := args_ok ha
  obtain ⟨g1, g2, g3⟩ := valid_ok a1
  have hone := one_of g3
  have hsub : (planV l).Sublist l := List.filter_sublist
  by_cases hp : (peakV l).2 > (cs.length : Int)
  · have hv : planO l cs = (([], (peakV l).1, openV l (peakV l).1), 0) := by
      unfold planO; rw [if_neg (by omega), if_pos hp]
    rw [hv]
    dsimp only
    have f := pk_facts l
    have f4 := f.2.2.2.1 (peakV l).1
    generalize (peakV l).1 = t at f f4 ⊢
    have hq : ((openV l t).length : Int) > cs.length := by omega
    have hmem : ∀ x ∈ openV l t, ∃ d ∈ l, isOpenV d t = true ∧ d.1 = x := fun x hx => by
      unfold openV at hx
      obtain ⟨d, hd, e⟩ := List.mem_map.1 hx
      obtain ⟨h1, h2⟩ := List.mem_filter.1 hd
      exact ⟨d, h1, h2, e⟩
    unfold checkV
    rw [if_neg (by omega), if_pos (by omega)]
    unfold proofV
    have s1 : ascF (openV l t) = true := by
      refine ascF_of ?_
      unfold openV
      rw [List.pairwise_map]
      exact g3.sublist List.filter_sublist
    have s2 : (openV l t).all (isPlanned l) = true := by
      rw [List.all_eq_true]
      intro x hx
      obtain ⟨d, hd, ho, rfl⟩ := hmem x hx
      obtain ⟨u, v⟩ := find_dep hone hd
      unfold isPlanned
      rw [v, decide_eq_true u, decide_eq_true ((isOpenV_iff _ _).1 ho).1]
      rfl
    have s3 : (openV l t).all (fun f => isOpenV (depAt l (findV l f)) t) = true := by
      rw [List.all_eq_true]
      intro x hx
      obtain ⟨d, hd, ho, rfl⟩ := hmem x hx
      rw [(find_dep hone hd).2]
      exact ho
    rw [if_neg (by simp), if_neg (by rw [s1]; simp), if_neg (by rw [s2]; simp), if_neg (by rw [s3]; simp), if_neg (by omega)]
  · have hv : planO l cs = ((sortAl (greedyV l cs), 0, []), 0) := by
      unfold planO; rw [if_neg (by omega), if_neg hp]
    rw [hv]
    dsimp only
    obtain ⟨k1, k2, k3, k4⟩ := plan_keys ha
    have hPp := g3.sublist hsub
    have hk := keys_eq hPp (plan_full ha hp)
    have hPone := one_of hPp
    obtain ⟨u, v⟩ := greedy_free (planV l) hPone cs (of_ascI a5) (isort (planV l)) (List.replicate cs.length 0) (by simp) (fun d hd => by
      have := (isort_perm _).mem_iff.1 hd
      exact ⟨this, (k4 d this).2.1⟩)
    have hperm := sortAl_perm (greedyV l cs)
    have v2 : (sortAl (greedyV l cs)).Pairwise (Free (planV l)) := (List.Perm.pairwise_iff (fun h => free_symm h) hperm).2 v
    have u2 : ∀ a ∈ sortAl (greedyV l cs), a.2 ∈ cs := fun a h => by
      obtain ⟨d, _, _, j, j1, _, j3, _⟩ := u a (hperm.mem_iff.1 h)
      rw [← j3]; exact List.getElem_mem j1
    generalize sortAl (greedyV l cs) = p at hk v2 u2 ⊢
    unfold checkV
    rw [if_neg (by omega), if_neg (by simp), if_neg (by simp)]
    unfold planC
    have hlen : p.length = (planV l).length := by
      have := congrArg List.length hk
      unfold keysOf at this
      rwa [List.length_map, List.length_map] at this
    have s1 : ascF (keysOf p) = true := by
      rw [hk]
      refine ascF_of ?_
      rw [List.pairwise_map]
      exact hPp
    have s3 : p.all (fun a => decide (idxF (fun y : Int => decide (a.2 = y)) cs 0 ≥ 0)) = true := by
      rw [List.all_eq_true]
      intro a h
      exact decide_eq_true (idxF_mem (Int.le_refl _) (u2 a h))
    have s4 : (List.range (planV l).length).all (noClash p (planV l)) = true := by
      rw [List.all_eq_true]
      intro i hi
      rw [List.mem_range] at hi
      unfold noClash
      rw [List.all_eq_true]
      intro k hki
      rw [List.mem_range] at hki
      have hi2 : i < p.length := by omega
      have hk2 : k < p.length := by omega
      have hk3 : k < (planV l).length := by omega
      have hat : ∀ (j : Nat) (h1 : j < p.length) (h2 : j < (planV l).length), ((planV l)[j]).1 = (p[j]).1 := fun j h1 h2 => by
        have e1 : (keysOf p)[j]'(by unfold keysOf; rwa [List.length_map]) = (p[j]).1 := by unfold keysOf; rw [List.getElem_map]
        have e2 : ((planV l).map (fun d => d.1))[j]'(by rwa [List.length_map]) = ((planV l)[j]).1 := by rw [List.getElem_map]
        rw [← e1, ← e2]
        simp only [hk]
      unfold clashAt depAt
      have ep : ∀ (j : Nat) (h : j < p.length), p.getD j ((ByteArray.empty, 0, ByteArray.empty, 0), 0) = p[j] := fun j h => by simp [h]
      have ea : ∀ (j : Nat) (h : j < (planV l).length), (planV l).getD ((j : Int)).toNat ((ByteArray.empty, 0, ByteArray.empty, 0), ByteArray.empty, 0, 0, 0, 0, 0) = (planV l)[j] := fun j h => by simp [h]
      rw [ep i hi2, ep k hk2, ea i hi, ea k hk3]
      have hf := List.pairwise_iff_getElem.1 v2 k i hk2 hi2 hki
      by_cases hc : (p[i]).2 = (p[k]).2
      · have := hf hc.symm _ (List.getElem_mem hk3) _ (List.getElem_mem hi) (hat k hk2 hk3) (hat i hi2 hi)
        rw [this.2, Bool.and_false]
        rfl
      · rw [decide_eq_false hc]
        rfl
    rw [if_neg (by rw [s1]; simp), if_neg (fun h => h hk), if_neg (by rw [s3]; simp), if_neg (by rw [s4]; simp)]
end Go.Proofs.Ytdmgmdppejopcaa
