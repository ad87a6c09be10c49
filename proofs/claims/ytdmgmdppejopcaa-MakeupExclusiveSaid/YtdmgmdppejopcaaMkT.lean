/- The plain law: no plan and proof at once. -/
import Derived.Test.YtdmgmdppejopcaaMkR
set_option linter.unusedSimpArgs false
set_option linter.unusedVariables false
set_option maxRecDepth 100000
set_option maxHeartbeats 4000000
namespace Go.Proofs.Ytdmgmdppejopcaa
open Go.Ev

/-- As many as there are places. -/
theorem pigeon : ∀ {xs cs : List Int}, xs.Nodup → (∀ x ∈ xs, x ∈ cs) → xs.length ≤ cs.length
  | [], _, _, _ => Nat.zero_le _
  | x :: xs, cs, h1, h2 => by
    obtain ⟨g1, g2⟩ := List.nodup_cons.1 h1
    have hx := h2 x (by simp)
    have := pigeon (xs := xs) (cs := cs.erase x) g2 (fun y hy => (List.mem_erase_of_ne (by rintro rfl; exact g1 hy)).2 (h2 y (List.mem_cons_of_mem _ hy)))
    rw [List.length_erase_of_mem hx] at this
    have hpos := List.length_pos_of_mem hx
    rw [List.length_cons]
    omega
theorem exclusive {l : List Dep} {cs : List Int} {p p2 : List All} {t t2 : Int} {q q2 : List Flt} (hq : q2.length > 0) (h1 : checkV l cs p t [] = 0) (h2 : checkV l cs p2 t2 q2 = 0) : False := by
  unfold checkV at h1 h2
  by_cases ha : argsV l cs = 0
  · rw [if_neg (by omega), if_neg (by simp)] at h1
    rw [if_neg (by omega), if_pos (by omega)] at h2
    obtain ⟨a1, a2, a3, a4, a5⟩ := args_ok ha
    obtain ⟨g1, g2, g3⟩ := valid_ok a1
    have hone := one_of g3
    have hsub : (planV l).Sublist l := List.filter_sublist
    by_cases ht : t = 0
    · rw [if_neg (by omega)] at h1
      unfold planC at h1
      by_cases b1 : ascF (keysOf p) = false
      · rw [if_pos b1] at h1; omega
      rw [if_neg b1] at h1
      by_cases b2' : ¬ keysOf p = (planV l).map (fun d => d.1)
      · rw [if_pos b2'] at h1; omega
      rw [if_neg b2'] at h1
      have b2 := Classical.not_not.1 b2'
      by_cases b3 : p.all (fun a => decide (idxF (fun y : Int => decide (a.2 = y)) cs 0 ≥ 0)) = false
      · rw [if_pos b3] at h1; omega
      rw [if_neg b3] at h1
      by_cases b4 : (List.range (planV l).length).all (noClash p (planV l)) = false
      · rw [if_pos b4] at h1; omega
      have b3' := List.all_eq_true.1 (by simpa using b3 : p.all (fun a => decide (idxF (fun y : Int => decide (a.2 = y)) cs 0 ≥ 0)) = true)
      have b4' := List.all_eq_true.1 (by simpa using b4 : (List.range (planV l).length).all (noClash p (planV l)) = true)
      unfold proofV at h2
      by_cases c0 : (p2.length : Int) > 0
      · rw [if_pos c0] at h2; omega
      rw [if_neg c0] at h2
      by_cases c1 : ascF q2 = false
      · rw [if_pos c1] at h2; omega
      rw [if_neg c1] at h2
      by_cases c2 : q2.all (isPlanned l) = false
      · rw [if_pos c2] at h2; omega
      rw [if_neg c2] at h2
      by_cases c3 : q2.all (fun f => isOpenV (depAt l (findV l f)) t2) = false
      · rw [if_pos c3] at h2; omega
      rw [if_neg c3] at h2
      by_cases c4 : (q2.length : Int) ≤ cs.length
      · rw [if_pos c4] at h2; omega
      have c1' := of_ascF (by simpa using c1 : ascF q2 = true)
      have c2' := List.all_eq_true.1 (by simpa using c2 : q2.all (isPlanned l) = true)
      have c3' := List.all_eq_true.1 (by simpa using c3 : q2.all (fun f => isOpenV (depAt l (findV l f)) t2) = true)
      have hlen : p.length = (planV l).length := by
        have := congrArg List.length b2
        unfold keysOf at this
        rwa [List.length_map, List.length_map] at this
      -- each flight of the proof has a place in the plan
      have hat : ∀ f ∈ q2, ∃ (i : Nat) (h : i < p.length) (h' : i < (planV l).length), ((planV l)[i]).1 = f ∧ isOpenV ((planV l)[i]) t2 = true := fun f hf => by
        have u := c2' f hf
        have v := c3' f hf
        unfold isPlanned at u
        rw [Bool.and_eq_true, decide_eq_true_eq, decide_eq_true_eq] at u
        have hfd : depAt l (findV l f) ∈ l ∧ (depAt l (findV l f)).1 = f := by
          rcases idxF_spec (fun e : Dep => decide (e.1 = f)) l 0 (Int.le_refl _) with ⟨k, _⟩ | ⟨i, hi, k1, k2, _⟩
          · have : findV l f = -1 := k
            omega
          · have e : findV l f = 0 + (i : Int) := k1
            unfold depAt
            rw [e, show ((0 : Int) + (i : Int)).toNat = i by omega]
            have e2 : l.getD i ((ByteArray.empty, 0, ByteArray.empty, 0), ByteArray.empty, 0, 0, 0, 0, 0) = l[i] := by simp [hi]
            rw [e2]
            exact ⟨List.getElem_mem hi, by simpa using k2⟩
        have hm : depAt l (findV l f) ∈ planV l := List.mem_filter.2 ⟨hfd.1, by simpa using u.2⟩
        obtain ⟨i, hi, e⟩ := List.mem_iff_getElem.1 hm
        exact ⟨i, by omega, hi, by rw [e]; exact hfd.2, by rw [e]; exact v⟩
      let ch : Flt → Int := fun f => (chV p f).2 |> fun _ => (chV p f).1
      have hkn : (keysOf p).Nodup := by rw [b2]; exact nodup_flts (g3.sublist hsub)
      have hkey : ∀ (i : Nat) (h : i < p.length) (h' : i < (planV l).length), ((planV l)[i]).1 = (p[i]).1 := fun j h1 h2 => by
        have e1 : (keysOf p)[j]'(by unfold keysOf; rwa [List.length_map]) = (p[j]).1 := by unfold keysOf; rw [List.getElem_map]
        have e2 : ((planV l).map (fun d => d.1))[j]'(by rwa [List.length_map]) = ((planV l)[j]).1 := by rw [List.getElem_map]
        rw [← e1, ← e2]
        simp only [b2]
      have hch : ∀ (i : Nat) (h : i < p.length), (chV p (p[i]).1).1 = (p[i]).2 := fun i h => by rw [chV_mem hkn (List.getElem_mem h)]
      have hno : ∀ (i k : Nat) (hi : i < p.length) (hi' : i < (planV l).length) (hk : k < p.length) (hk' : k < (planV l).length), k < i → (p[i]).2 = (p[k]).2 → overV ((planV l)[i]) ((planV l)[k]) = false := fun i k hi hi' hk hk' hki hc => by
        have u := b4' i (List.mem_range.2 hi')
        unfold noClash at u
        have v := List.all_eq_true.1 u k (List.mem_range.2 hki)
        unfold clashAt depAt at v
        have ep : ∀ (j : Nat) (h : j < p.length), p.getD j ((ByteArray.empty, 0, ByteArray.empty, 0), 0) = p[j] := fun j h => by simp [h]
        have ea : ∀ (j : Nat) (h : j < (planV l).length), (planV l).getD ((j : Int)).toNat ((ByteArray.empty, 0, ByteArray.empty, 0), ByteArray.empty, 0, 0, 0, 0, 0) = (planV l)[j] := fun j h => by simp [h]
        rw [ep i hi, ep k hk, ea i hi', ea k hk', decide_eq_true hc, Bool.true_and] at v
        simpa using v
      have hover : ∀ d e : Dep, isOpenV d t2 = true → isOpenV e t2 = true → overV d e = true := fun d e h1 h2 => by
        rw [isOpenV_iff] at h1 h2
        unfold overV
        refine decide_eq_true ?_
        (repeat' split) <;> omega
      have hnd : (q2.map (fun f => (chV p f).1)).Nodup := by
        unfold List.Nodup
        rw [List.pairwise_map, List.pairwise_iff_getElem]
        rw [List.pairwise_iff_getElem] at c1'
        intro x y hx hy hxy hc
        have hlt := c1' x y hx hy hxy
        obtain ⟨i, i1, i2, i3, i4⟩ := hat _ (List.getElem_mem hx)
        obtain ⟨k, k1, k2, k3, k4⟩ := hat _ (List.getElem_mem hy)
        rw [← i3, ← k3, hkey i i1 i2, hkey k k1 k2, hch i i1, hch k k1] at hc
        rcases Nat.lt_trichotomy i k with h | h | h
        · have u := hno k i k1 k2 i1 i2 h hc.symm
          rw [hover _ _ k4 i4] at u; cases u
        · subst h
          rw [← i3, ← k3] at hlt
          have := (fltC_cmp.eq ((planV l)[i]).1 ((planV l)[i]).1).2 rfl
          omega
        · have u := hno i k i1 i2 k1 k2 h hc
          rw [hover _ _ i4 k4] at u; cases u
      have := pigeon hnd (fun x hx => by
        obtain ⟨f, hf, e⟩ := List.mem_map.1 hx
        obtain ⟨i, i1, i2, i3, i4⟩ := hat f hf
        rw [← e, ← i3, hkey i i1 i2, hch i i1]
        exact mem_idxF (of_decide_eq_true (b3' _ (List.getElem_mem i1))))
      rw [List.length_map] at this
      omega
    · rw [if_pos ht] at h1; omega
  · rw [if_pos ha] at h1
    exact ha h1
end Go.Proofs.Ytdmgmdppejopcaa
