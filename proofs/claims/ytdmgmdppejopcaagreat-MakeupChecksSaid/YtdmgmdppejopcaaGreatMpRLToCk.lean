/- The plain laws: the reference's plan is the program's. -/
import Derived.Test.YtdmgmdppejopcaaGreatMpZToY
import Derived.Test.YtdmgmdppejopcaaGreatMpMToR
import Derived.Test.YtdmgmdppejopcaaGreatMpFToV
import Derived.Test.YtdmgmdppejopcaaGreatEvSortFToL
import Derived.Test.YtdmgmdppejopcaaGreatMpSToX
set_option linter.unusedSimpArgs false
set_option linter.unusedVariables false
set_option maxRecDepth 100000
set_option maxHeartbeats 4000000
namespace Go.Proofs.YtdmgmdppejopcaaGreat
open Go.Ev

theorem place_inv {d : Dep} : ∀ {cs fr : List Int} {c : Int} {fr' : List Int}, place d cs fr = some (c, fr') → ∃ (j : Nat) (h1 : j < cs.length) (h2 : j < fr.length), c = cs[j] ∧ fr' = fr.set j d.closes ∧ fr[j] ≤ d.opens ∧ ∀ k (h : k < fr.length), k < j → ¬ fr[k] ≤ d.opens
  | c :: cs, f :: fs, x, fr', h => by
    unfold place at h
    by_cases hf : f ≤ d.opens
    · rw [if_pos hf] at h
      cases h
      exact ⟨0, by simp, by simp, rfl, rfl, hf, by intro k _ hk; omega⟩
    · rw [if_neg hf] at h
      cases hp : place d cs fs with
      | none => rw [hp] at h; cases h
      | some r =>
        rw [hp] at h
        cases h
        obtain ⟨j, h1, h2, e1, e2, e3, e4⟩ := place_inv hp
        refine ⟨j + 1, by simpa using h1, by simpa using h2, by simpa using e1, by rw [e2]; rfl, by simpa using e3, ?_⟩
        intro k hk hkj
        cases k with
        | zero => simpa using hf
        | succ k => simpa using e4 k (by simpa using hk) (by omega)
  | [], _, _, _, h => by simp [place] at h
  | _ :: _, [], _, _, h => by simp [place] at h
theorem chV_of : ∀ (p : List All) (a : All), (keysOf p).Nodup → a ∈ p → chV p a.1 = (a.2, true)
  | [], a, _, h => by cases h
  | b :: p, a, hn, h => by
    unfold keysOf at hn
    rw [List.map_cons, List.nodup_cons] at hn
    unfold chV
    rcases List.mem_cons.1 h with rfl | h
    · rw [if_pos rfl]
    · rw [if_neg (fun e => hn.1 (List.mem_map.2 ⟨a, h, e.symm⟩))]
      exact chV_of p a hn.2 h
theorem placeV_perm (p : List All) (a : All) : (placeV p a).Perm (a :: p) := by
  unfold placeV
  refine List.perm_middle.trans ?_
  rw [List.takeWhile_append_dropWhile]
theorem placeV_sorted {p : List All} {a : All} (h : p.Pairwise (fun x y => fltC x.1 y.1 < 0)) (hn : ∀ x ∈ p, x.1 ≠ a.1) : (placeV p a).Pairwise (fun x y => fltC x.1 y.1 < 0) := by
  unfold placeV
  induction p with
  | nil => simp
  | cons b p ih =>
    obtain ⟨g1, g2⟩ := List.pairwise_cons.1 h
    have hb := hn b (by simp)
    by_cases hc : fltC b.1 a.1 < 0
    · rw [List.takeWhile_cons_of_pos (by simpa using hc), List.dropWhile_cons_of_pos (by simpa using hc), List.cons_append]
      refine List.pairwise_cons.2 ⟨fun x hx => ?_, ih g2 (fun x hx => hn x (by simp [hx]))⟩
      have hx' : x ∈ placeV p a := hx
      rcases List.mem_cons.1 ((placeV_perm p a).mem_iff.1 hx') with rfl | hx'
      · exact hc
      · exact g1 x hx'
    · rw [List.takeWhile_cons_of_neg (by simpa using hc), List.dropWhile_cons_of_neg (by simpa using hc), List.nil_append]
      have h0 : fltC b.1 a.1 ≠ 0 := fun e => hb ((fltC_cmp.eq _ _).1 e)
      have hab : fltC a.1 b.1 < 0 := (fltC_cmp.anti _ _).2 (by omega)
      refine List.pairwise_cons.2 ⟨fun x hx => ?_, h⟩
      rcases List.mem_cons.1 hx with rfl | hx
      · exact hab
      · exact fltC_cmp.trans _ _ _ hab (g1 x hx)
theorem asc_inj : ∀ {cs : List Int}, ascI cs = true → ∀ i j (h1 : i < cs.length) (h2 : j < cs.length), i < j → cs[i] < cs[j] := by
  intro cs
  induction cs with
  | nil => intro _ i j h1; simp at h1
  | cons a cs ih =>
    cases cs with
    | nil => intro _ i j h1 h2 hij; simp at h1 h2; omega
    | cons b cs =>
      intro h i j h1 h2 hij
      unfold ascI at h
      rw [Bool.and_eq_true, decide_eq_true_eq] at h
      have ihh := ih h.2
      cases j with
      | zero => omega
      | succ j =>
        cases i with
        | zero =>
          have hj2 : j < (b :: cs).length := by simpa using h2
          show a < (b :: cs)[j]
          cases j with
          | zero => exact h.1
          | succ j =>
            have := ihh 0 (j + 1) (by simp) (by simpa using h2) (by omega)
            have h3 : (b :: cs)[0] = b := rfl
            omega
        | succ i => exact ihh i j (by simpa using h1) (by simpa using h2) (by omega)
theorem asc_eq {cs : List Int} (h : ascI cs = true) {i j : Nat} (h1 : i < cs.length) (h2 : j < cs.length) (e : cs[i] = cs[j]) : i = j := by
  rcases Nat.lt_trichotomy i j with hij | hij | hij
  · have := asc_inj h i j h1 h2 hij; omega
  · exact hij
  · have := asc_inj h j i h2 h1 hij; omega
/-- What the reference's plan and the free times of the program have in common. -/
structure Both (cs : List Int) (D : List Dep) (A : List All) (fr : List Int) (p : List All) : Prop where
  keys : keysOf A = D.map (·.1)
  perm : p.Perm A
  sorted : p.Pairwise (fun x y => fltC x.1 y.1 < 0)
  len : fr.length = cs.length
  le : ∀ j (h1 : j < cs.length) (h2 : j < fr.length), ∀ e ∈ D, (e.1, cs[j]) ∈ A → e.closes ≤ fr[j]
  is : ∀ j (h1 : j < cs.length) (h2 : j < fr.length), fr[j] = 0 ∨ ∃ e ∈ D, (e.1, cs[j]) ∈ A ∧ e.closes = fr[j]
theorem both_free {cs : List Int} {D : List Dep} {A : List All} {fr : List Int} {p : List All} (b : Both cs D A fr p) (hn : (D.map (·.1)).Nodup) {d : Dep} (hd : d.state = 0 ∧ 0 ≤ d.opens ∧ d.opens < d.closes)
    (hD : ∀ e ∈ D, e.state = 0 ∧ 0 ≤ e.opens ∧ e.opens < e.closes ∧ e.opens ≤ d.opens) (j : Nat) (h1 : j < cs.length) (h2 : j < fr.length) : freeR D p d cs[j] = decide (fr[j] ≤ d.opens) := by
  have hnp : (keysOf p).Nodup := by
    have : (keysOf p).Perm (keysOf A) := b.perm.map _
    rw [this.nodup_iff, b.keys]; exact hn
  have hover : ∀ e ∈ D, overR e d = decide (d.opens < e.closes) := fun e he => by
    have he' := hD e he
    rw [overR_eq he'.1 hd.1 he'.2.2.1 hd.2.2]
    unfold overV
    rw [decide_eq_decide]
    (repeat' split) <;> omega
  have hch : ∀ e ∈ D, ((chV p e.1).1 = cs[j] ↔ (e.1, cs[j]) ∈ A) := fun e he => by
    have hm : e.1 ∈ keysOf A := by rw [b.keys]; exact List.mem_map.2 ⟨e, he, rfl⟩
    obtain ⟨a, ha, hae⟩ := List.mem_map.1 hm
    have hc := chV_of p a hnp (b.perm.mem_iff.2 ha)
    rw [hae] at hc
    rw [hc]
    constructor
    · intro h
      have : a = (e.1, cs[j]) := Prod.ext hae h
      rw [← this]; exact ha
    · intro h
      have hc2 := chV_of p (e.1, cs[j]) hnp (b.perm.mem_iff.2 h)
      rw [hc] at hc2
      exact congrArg Prod.fst hc2
  rw [Bool.eq_iff_iff, decide_eq_true_eq]
  unfold freeR
  rw [List.all_eq_true]
  unfold frq
  constructor
  · intro h
    rcases b.is j h1 h2 with h0 | ⟨e, he, ha, hf⟩
    · omega
    · have := h e he
      rw [decide_eq_true ((hch e he).2 ha), hover e he] at this
      simp at this
      omega
  · intro h e he
    by_cases hc : (e.1, cs[j]) ∈ A
    · have := b.le j h1 h2 e he hc
      rw [hover e he, decide_eq_false (p := d.opens < e.closes) (by omega)]
      simp
    · rw [decide_eq_false (p := (chV p e.1).1 = cs[j]) (fun k => hc ((hch e he).1 k))]
      rfl
theorem refG_greedy {cs : List Int} (hcs : ascI cs = true) : ∀ (ds D : List Dep) (A : List All) (fr : List Int) (p : List All), Both cs D A fr p → (greedy ds cs fr).length = ds.length → ((D ++ ds).map (·.1)).Nodup →
    (∀ e ∈ D ++ ds, e.state = 0 ∧ 0 ≤ e.opens ∧ e.opens < e.closes) → (∀ e ∈ D, ∀ d ∈ ds, e.opens ≤ d.opens) → ds.Pairwise (fun a b => a.opens ≤ b.opens) →
    (refG cs D ds p).Perm (A ++ greedy ds cs fr) ∧ (refG cs D ds p).Pairwise (fun x y => fltC x.1 y.1 < 0)
  | [], D, A, fr, p, b, _, _, _, _, _ => by
    unfold refG greedy
    rw [List.append_nil]
    exact ⟨b.perm, b.sorted⟩
  | d :: ds, D, A, fr, p, b, hg, hn, hs, hle, hpw => by
    obtain ⟨g1, g2⟩ := List.pairwise_cons.1 hpw
    have hd := hs d (by simp)
    have hnD : (D.map (·.1)).Nodup := by
      rw [List.map_append] at hn
      exact (List.nodup_append.1 hn).1
    have hdD : ∀ e ∈ D, e.1 ≠ d.1 := fun e he k => by
      rw [List.map_append] at hn
      exact (List.nodup_append.1 hn).2.2 e.1 (List.mem_map.2 ⟨e, he, rfl⟩) d.1 (by simp) k
    have hD : ∀ e ∈ D, e.state = 0 ∧ 0 ≤ e.opens ∧ e.opens < e.closes ∧ e.opens ≤ d.opens := fun e he => by
      have := hs e (by simp [he])
      exact ⟨this.1, this.2.1, this.2.2, hle e he d (by simp)⟩
    unfold greedy at hg ⊢
    unfold refG
    cases hp : place d cs fr with
    | none =>
      rw [hp] at hg
      dsimp only at hg
      have := greedy_len ds cs fr
      rw [List.length_cons] at hg
      omega
    | some r =>
      obtain ⟨c, fr'⟩ := r
      rw [hp] at hg
      dsimp only at hg ⊢
      obtain ⟨j, j1, j2, e1, e2, e3, e4⟩ := place_inv hp
      have hfind : cs.find? (freeR D p d) = some cs[j] := by
        rw [List.find?_eq_some_iff_getElem]
        refine ⟨?_, j, j1, rfl, fun m hm => ?_⟩
        · rw [both_free b hnD hd hD j j1 j2]; exact decide_eq_true e3
        · have hm2 : m < fr.length := by omega
          rw [both_free b hnD hd hD m (by omega) hm2, decide_eq_false (e4 m hm2 hm)]; rfl
      have hstep : stepR cs D p d = placeV p (d.1, cs[j]) := by unfold stepR; rw [hfind]
      rw [hstep]
      have hpk : ∀ x ∈ p, x.1 ≠ d.1 := fun x hx => by
        have : x.1 ∈ keysOf A := List.mem_map.2 ⟨x, b.perm.mem_iff.1 hx, rfl⟩
        rw [b.keys] at this
        obtain ⟨e, he, hee⟩ := List.mem_map.1 this
        rw [← hee]
        exact hdD e he
      have hAd : ∀ e ∈ D, ∀ x, ((e.1, x) ∈ A ++ [(d.1, cs[j])] ↔ (e.1, x) ∈ A) := fun e he x => by
        rw [List.mem_append, List.mem_singleton]
        exact ⟨fun h => h.elim id (fun k => absurd (congrArg Prod.fst k) (hdD e he)), .inl⟩
      have hdA : ∀ x, ((d.1, x) ∈ A ++ [(d.1, cs[j])] ↔ x = cs[j]) := fun x => by
        rw [List.mem_append, List.mem_singleton]
        constructor
        · rintro (h | h)
          · exact absurd rfl (hpk _ (b.perm.mem_iff.2 h))
          · exact congrArg Prod.snd h
        · intro h; right; rw [h]
      have b' : Both cs (D ++ [d]) (A ++ [(d.1, cs[j])]) fr' (placeV p (d.1, cs[j])) := by
        refine ⟨?_, ?_, placeV_sorted b.sorted hpk, ?_, ?_, ?_⟩
        · have := b.keys
          unfold keysOf at this ⊢
          rw [List.map_append, List.map_append, this]; rfl
        · refine (placeV_perm _ _).trans ?_
          refine (b.perm.cons _).trans ?_
          exact List.perm_append_comm (l₁ := [(d.1, cs[j])])
        · rw [e2, List.length_set]; exact b.len
        · intro m m1 m2 e he hm
          subst e2
          rw [List.length_set] at m2
          rw [List.getElem_set]
          rcases List.mem_append.1 he with he | he
          · rw [hAd e he] at hm
            have := b.le m m1 m2 e he hm
            split
            · rename_i hjm
              subst hjm
              omega
            · exact this
          · rw [List.mem_singleton] at he
            subst he
            rw [hdA] at hm
            have := asc_eq hcs m1 j1 hm
            subst this
            rw [if_pos rfl]
            exact Int.le_refl _
        · intro m m1 m2
          subst e2
          rw [List.length_set] at m2
          rw [List.getElem_set]
          split
          · rename_i hjm
            subst hjm
            exact .inr ⟨d, by simp, by rw [hdA], rfl⟩
          · rcases b.is m m1 m2 with h | ⟨e, he, ha, hf⟩
            · exact .inl h
            · exact .inr ⟨e, by simp [he], (hAd e he _).2 ha, hf⟩
      have e : D ++ d :: ds = (D ++ [d]) ++ ds := by simp
      rw [e] at hn hs
      have ih := refG_greedy hcs ds (D ++ [d]) (A ++ [(d.1, cs[j])]) fr' (placeV p (d.1, cs[j])) b' (by
        rw [List.length_cons] at hg
        simpa using hg) hn hs (fun x hx y hy => by
        rcases List.mem_append.1 hx with hx | hx
        · exact hle x hx y (List.mem_cons_of_mem _ hy)
        · rw [List.mem_singleton.1 hx]; exact g1 y hy) g2
      rw [e1]
      have e9 : A ++ (d.1, cs[j]) :: greedy ds cs fr' = A ++ [(d.1, cs[j])] ++ greedy ds cs fr' := by simp
      rw [e9]
      exact ih
theorem refP_eq (l : List Dep) (cs : List Int) : refP l cs = planO l cs := by
  unfold refP planO
  by_cases ha : argsV l cs = 0
  · have ha2 : ¬ argsV l cs ≠ 0 := by omega
    rw [if_neg ha2, if_neg ha2]
    by_cases hp : (peakV l).2 > (cs.length : Int)
    · rw [if_pos hp, if_pos hp]
    · rw [if_neg hp, if_neg hp]
      obtain ⟨k1, k2, k3, k4⟩ := plan_keys ha
      obtain ⟨a1, a2, a3, a4, a5⟩ := args_ok ha
      have hperm := isort_perm (planV l)
      have hfull := plan_full ha hp
      have hlen : (greedy (isort (planV l)) cs (List.replicate cs.length 0)).length = (isort (planV l)).length := by
        have := hfull.length_eq
        unfold keysOf greedyV at this
        rw [List.length_map, List.length_map] at this
        rw [this, isort_len]
      obtain ⟨g1, g2, g3⟩ := valid_ok a1
      have hnd := nodup_flts (g3.sublist (List.filter_sublist : (planV l).Sublist l))
      have hnd2 : ((isort (planV l)).map (fun d => d.1)).Nodup := (hperm.map _).nodup_iff.2 hnd
      obtain ⟨r1, r2⟩ := refG_greedy a5 (isort (planV l)) [] [] (List.replicate cs.length 0) [] ⟨rfl, List.Perm.refl _, List.Pairwise.nil, by simp, (by intro j _ _ e he; cases he), fun j h1 h2 => .inl (by simp)⟩ hlen (by simpa using hnd2) (fun e he => by
        have he' : e ∈ planV l := hperm.mem_iff.1 (by simpa using he)
        have h1 := k4 e he'
        have h2 : e.state = 0 := by
          unfold planV at he'
          have := (List.mem_filter.1 he').2
          simpa using this
        exact ⟨h2, h1.1, h1.2.1⟩) (by simp) (isort_sorted _)
      rw [List.nil_append] at r1
      have := sortAl_eq (l := greedyV l cs) (z := refG cs [] (isort (planV l)) []) k1 r1 (r2.imp (fun {a b} h k => by
        have := (fltC_cmp.anti a.1 b.1).1 h
        omega))
      rw [this]
  · rw [if_pos ha, if_pos ha]
end Go.Proofs.YtdmgmdppejopcaaGreat

/- The plain laws: the reference's check is the program's. -/
set_option linter.unusedSimpArgs false
set_option linter.unusedVariables false
set_option maxRecDepth 100000
set_option maxHeartbeats 4000000
namespace Go.Proofs.YtdmgmdppejopcaaGreat
open Go.Ev

theorem find_in (l : List Dep) (f : Flt) (h : 0 ≤ findV l f) : depAt l (findV l f) ∈ l ∧ (depAt l (findV l f)).1 = f := by
  unfold findV at h ⊢
  rcases idxF_spec (fun d : Dep => decide (d.1 = f)) l 0 (Int.le_refl _) with ⟨h1, _⟩ | ⟨i, hi, h1, h2, _⟩
  · omega
  · rw [h1]
    have e : depAt l (0 + (i : Int)) = l[i] := by
      unfold depAt
      rw [show ((0 : Int) + (i : Int)).toNat = i by omega]
      simp [hi]
    rw [e]
    exact ⟨List.getElem_mem hi, of_decide_eq_true h2⟩
theorem find_ex {l : List Dep} {f : Flt} {d : Dep} (hd : d ∈ l) (hf : d.1 = f) : 0 ≤ findV l f := by
  unfold findV
  rcases idxF_spec (fun d : Dep => decide (d.1 = f)) l 0 (Int.le_refl _) with ⟨_, h2⟩ | ⟨i, hi, h1, _, _⟩
  · have := h2 d hd
    rw [decide_eq_true hf] at this
    cases this
  · omega
theorem flt_uniq {l : List Dep} (hn : (l.map (fun d => d.1)).Nodup) {d e : Dep} (hd : d ∈ l) (he : e ∈ l) (h : d.1 = e.1) : d = e := by
  induction l with
  | nil => cases hd
  | cons c l ih =>
    rw [List.map_cons, List.nodup_cons] at hn
    rcases List.mem_cons.1 hd with h1 | h1 <;> rcases List.mem_cons.1 he with h2 | h2
    · rw [h1, h2]
    · exact absurd (List.mem_map.2 ⟨e, h2, by rw [← h, h1]⟩) hn.1
    · exact absurd (List.mem_map.2 ⟨d, h1, by rw [h, h2]⟩) hn.1
    · exact ih hn.2 h1 h2
theorem plan_mem {l : List Dep} {d : Dep} : d ∈ planV l ↔ d ∈ l ∧ d.state = 0 := by
  unfold planV
  rw [List.mem_filter, decide_eq_true_eq]
theorem has_eq {l : List Dep} (hn : (l.map (fun d => d.1)).Nodup) (f : Flt) : hasF (planV l) f = isPlanned l f := by
  unfold hasF isPlanned
  rw [Bool.eq_iff_iff, Bool.and_eq_true, decide_eq_true_eq, decide_eq_true_eq, decide_eq_true_eq]
  constructor
  · intro h
    obtain ⟨h1, h2⟩ := find_in _ _ h
    obtain ⟨h3, h4⟩ := plan_mem.1 h1
    have h5 := find_ex h3 h2
    refine ⟨h5, ?_⟩
    obtain ⟨h6, h7⟩ := find_in _ _ h5
    rw [flt_uniq hn h6 h3 (by rw [h7, h2])]
    exact h4
  · rintro ⟨h1, h2⟩
    obtain ⟨h3, h4⟩ := find_in _ _ h1
    exact find_ex (plan_mem.2 ⟨h3, h2⟩) h4
theorem op_eq {l : List Dep} (hn : (l.map (fun d => d.1)).Nodup) (t : Int) (f : Flt) (h : isPlanned l f = true) : opF (planV l) t f = isOpenV (depAt l (findV l f)) t := by
  have h0 := h
  rw [← has_eq hn] at h
  unfold hasF at h
  unfold isPlanned at h0
  rw [Bool.and_eq_true, decide_eq_true_eq, decide_eq_true_eq] at h0
  obtain ⟨h1, h2⟩ := find_in _ _ (of_decide_eq_true h)
  obtain ⟨h3, h4⟩ := find_in _ _ h0.1
  unfold opF
  rw [flt_uniq hn (plan_mem.1 h1).1 h3 (by rw [h2, h4])]
theorem proofR_eq {l : List Dep} (hn : (l.map (fun d => d.1)).Nodup) (cs : List Int) (p : List All) (t : Int) (q : List Flt) : proofR (planV l) cs p t q = proofV l cs p t q := by
  unfold proofR proofV
  have e1 : q.all (hasF (planV l)) = q.all (isPlanned l) := by
    congr 1
    exact funext (has_eq hn)
  rw [e1]
  by_cases h : q.all (isPlanned l) = false
  · rw [if_pos h, if_pos h]
  · have e2 : q.all (opF (planV l) t) = q.all (fun f => isOpenV (depAt l (findV l f)) t) := by
      have h' : q.all (isPlanned l) = true := by simpa using h
      rw [Bool.eq_iff_iff, List.all_eq_true, List.all_eq_true]
      exact ⟨fun k f hf => by rw [← op_eq hn t f (List.all_eq_true.1 h' f hf)]; exact k f hf, fun k f hf => by rw [op_eq hn t f (List.all_eq_true.1 h' f hf)]; exact k f hf⟩
    rw [if_neg h, if_neg h, e2]
theorem inCs_eq (cs : List Int) (a : All) : inCs cs a = decide (idxF (fun y : Int => decide (a.2 = y)) cs 0 ≥ 0) := by
  unfold inCs
  rw [Bool.eq_iff_iff, List.any_eq_true, decide_eq_true_eq]
  rcases idxF_spec (fun y : Int => decide (a.2 = y)) cs 0 (Int.le_refl _) with ⟨h1, h2⟩ | ⟨i, hi, h1, h2, _⟩
  · constructor
    · rintro ⟨c, hc, h⟩
      rw [h2 c hc] at h
      cases h
    · intro h; omega
  · exact ⟨fun _ => by omega, fun _ => ⟨cs[i], List.getElem_mem hi, h2⟩⟩
theorem clash_eq {l : List Dep} (ht : ∀ d ∈ planV l, 0 ≤ d.opens ∧ d.opens < d.closes ∧ d.closes ≤ 1048576) (p : List All) {i k : Nat} (hi : i < (planV l).length) (hk : k < (planV l).length) : clashR p (planV l) i k = clashAt p (planV l) i k := by
  have e : ∀ j (h : j < (planV l).length), depAt (planV l) (j : Int) = (planV l)[j] := fun j h => by
    unfold depAt
    rw [show ((j : Int)).toNat = j by omega]
    simp [h]
  unfold clashR clashAt
  rw [e i hi, e k hk]
  have mi := List.getElem_mem hi
  have mk := List.getElem_mem hk
  rw [overR_eq (plan_mem.1 mi).2 (plan_mem.1 mk).2 (ht _ mi).2.1 (ht _ mk).2.1]
theorem planR_eq {l : List Dep} (ht : ∀ d ∈ planV l, 0 ≤ d.opens ∧ d.opens < d.closes ∧ d.closes ≤ 1048576) (cs : List Int) (p : List All) : planR (planV l) cs p = planC l cs p := by
  unfold planR planC
  have e1 : p.all (inCs cs) = p.all (fun a => decide (idxF (fun y : Int => decide (a.2 = y)) cs 0 ≥ 0)) := by
    congr 1
    exact funext (inCs_eq cs)
  have e2 : (List.range (planV l).length).all (noClashR p (planV l)) = (List.range (planV l).length).all (noClash p (planV l)) := by
    have key : ∀ i < (planV l).length, noClashR p (planV l) i = noClash p (planV l) i := fun i hi => by
      unfold noClashR noClash
      rw [Bool.eq_iff_iff, List.all_eq_true, List.all_eq_true]
      exact ⟨fun h k hk => by rw [← clash_eq ht p hi (Nat.lt_trans (List.mem_range.1 hk) hi)]; exact h k hk, fun h k hk => by rw [clash_eq ht p hi (Nat.lt_trans (List.mem_range.1 hk) hi)]; exact h k hk⟩
    rw [Bool.eq_iff_iff, List.all_eq_true, List.all_eq_true]
    exact ⟨fun h i hi => by rw [← key i (List.mem_range.1 hi)]; exact h i hi, fun h i hi => by rw [key i (List.mem_range.1 hi)]; exact h i hi⟩
  rw [e1, e2]
theorem checkR_eq (l : List Dep) (cs : List Int) (p : List All) (t : Int) (q : List Flt) : checkR l cs p t q = checkV l cs p t q := by
  unfold checkR checkV
  by_cases ha : argsV l cs = 0
  · obtain ⟨a1, _, _, _, _⟩ := args_ok ha
    obtain ⟨_, _, g3⟩ := valid_ok a1
    obtain ⟨_, _, _, k4⟩ := plan_keys ha
    have hn : ¬ ¬ argsV l cs = 0 := fun h => h ha
    rw [if_neg hn, if_neg hn, proofR_eq (nodup_flts g3), planR_eq k4]
  · rw [if_pos ha, if_pos ha]
end Go.Proofs.YtdmgmdppejopcaaGreat

/- The contracts of the functions that the statements reach: a schedule in which one thing is changed. -/
set_option linter.unusedSimpArgs false
set_option linter.unusedVariables false
set_option maxRecDepth 100000
set_option maxHeartbeats 4000000
namespace Go.Proofs.YtdmgmdppejopcaaGreat
open Go.Ev

def zDep : Dep := ((ByteArray.empty, 0, ByteArray.empty, 0), ByteArray.empty, 0, 0, 0, 0, 0)
def spoiltB (s : Src) (l : List Dep) (i : Nat) (k : Int) (d e : Dep) : List Dep × Src :=
  if k = 0 then (l.set i (d.1, d.2.1, d.2.2.2.1, d.2.2.2), s.step.step)
  else if k = 1 then (l.set i (d.1, d.2.1, d.2.2.1, d.2.2.2.1, d.2.2.2.1 - 1, d.2.2.2.2.2), s.step.step)
  else if k = 2 then (l.set i (d.1, d.2.1, d.2.2.1, d.2.2.2.1, d.2.2.2.2.1, s.step.step.raw, d.2.2.2.2.2.2), s.step.step.step)
  else if k = 3 then (l.set i (d.1, d.2.1, d.2.2.1, d.2.2.2.1, d.2.2.2.2.1, d.2.2.2.2.2.1, s.step.step.raw), s.step.step.step)
  else if k = 4 then (l.set i (e.1, d.2), s.step.step)
  else if k = 5 then ((l.set i e).set 0 d, s.step.step)
  else if k = 6 then (l.set i (d.1, d.2.1, s.step.step.raw, d.2.2.2), s.step.step.step)
  else if k = 7 then (l.set i (d.1, ByteArray.mk #[120], d.2.2), s.step.step)
  else (l.set i ((d.1.1, s.step.step.raw, d.1.2.2), d.2), s.step.step.step)
def spoiltV (s : Src) (l : List Dep) : List Dep × Src :=
  if (l.length : Int) = 0 then (l ++ [zDep], s) else spoiltB s l (goMod s.raw l.length).toNat (goMod s.step.raw 9) (l.getD (goMod s.raw l.length).toNat zDep) (l.getD 0 zDep)
theorem spoiltV_len (s : Src) (l : List Dep) : (spoiltV s l).1.length ≤ l.length + 1 := by
  unfold spoiltV
  split
  · simp
  · unfold spoiltB
    (repeat' split) <;> simp
theorem spoiltV_src (s : Src) (l : List Dep) (h : 0 ≤ s.2) : 0 ≤ (spoiltV s l).2.2 := by
  have h1 := Src.step_pos s h
  have h2 := Src.step_pos _ h1
  have h3 := Src.step_pos _ h2
  unfold spoiltV
  split
  · exact h
  · unfold spoiltB
    (repeat' split) <;> assumption
def con8 : Con := { ps := [.p 48 (.pair (.sl (.int .i64)) (.int .i64)), .d false (.sl (.pair (.pair .str (.pair (.int .i64) (.pair .str (.int .i64)))) (.pair .str (.pair (.int .i64) (.pair (.int .i64) (.pair (.int .i64) (.pair (.int .i64) (.int .i64))))))))], rs := [.d false (.sl (.pair (.pair .str (.pair (.int .i64) (.pair .str (.int .i64)))) (.pair .str (.pair (.int .i64) (.pair (.int .i64) (.pair (.int .i64) (.pair (.int .i64) (.int .i64))))))))], pre := fun (x : Src × List Dep × Unit) => 0 ≤ x.1.2 ∧ x.2.1.length ≤ 1000 ∧ ∀ d ∈ x.2.1, 0 ≤ d.closes, out := fun (x : Src × List Dep × Unit) => ((spoiltV x.1 x.2.1).1, ()), nw := fun (x : Src × List Dep × Unit) => ((spoiltV x.1 x.2.1).2, x.2) }
theorem c8 : CtrOk Tryz.prog 8 con8.ctr :=
  con_sound (G := ⟨[(15, con15.ctr), (21, con21.ctr)], [], []⟩) tab_ok (EnvOk.cons c15 has15 (EnvOk.cons c21 has21 EnvOk.nil)) rfl Tryz.func8 rfl con8 2545205325826262315274462040179 (by kernel_rfl) (by decide) (by decide) rfl (by decide) rfl (by
    rintro ⟨(s : Src), (l : List Dep), _⟩ hpre hwf X hT hG hk hK
    obtain ⟨hs, hl, hc⟩ : 0 ≤ s.2 ∧ l.length ≤ 1000 ∧ ∀ d ∈ l, 0 ≤ d.closes := hpre
    (simp only [go_sem, Prod.eta, Option.isSome_none, Option.isSome_some, Int.toNat_zero, Nat.reduceAdd, Nat.reduceMul, Nat.reduceSub, Nat.reduceEqDiff, Nat.reduceLT, Nat.reduceLeDiff, Nat.reduceShiftRight, Nat.reduceMod, Nat.reduceBEq, reduceCtorEq, reduceIte, reduceDIte, Int.reduceNeg, Bool.not_eq_true', Bool.not_eq_false', Bool.or_eq_true, Bool.or_eq_false_iff, Bool.and_eq_true, Bool.and_eq_false_iff, decide_eq_true_eq, decide_eq_false_iff_not, Classical.not_not, not_or, maxLen, con8, con15, con21, hT, hG, hk, hK, Tryz.results8] at hwf ⊢); (try simp (disch := decide +kernel) only [drawn, true_and, and_true])
    by_cases h0 : (l.length : Int) = 0
    · have hv : spoiltV s l = (l ++ [((ByteArray.empty, 0, ByteArray.empty, 0), ByteArray.empty, 0, 0, 0, 0, 0)], s) := by
        unfold spoiltV; rw [if_pos h0]; rfl
      rw [hv]
      (repeat' (with_reducible (first | refine And.intro ?_ ?_ | intro _))) <;> (try (first | with_reducible (first | done | assumption | omega | contradiction) | decide))
      all_goals rfl
    · have hv : spoiltV s l = spoiltB s l (goMod s.raw l.length).toNat (goMod s.step.raw 9) (l.getD (goMod s.raw l.length).toNat ((ByteArray.empty, 0, ByteArray.empty, 0), ByteArray.empty, 0, 0, 0, 0, 0)) (l.getD 0 ((ByteArray.empty, 0, ByteArray.empty, 0), ByteArray.empty, 0, 0, 0, 0, 0)) := by
        unfold spoiltV; rw [if_neg h0]; rfl
      rw [hv]
      have hi := goMod_bd s.raw l.length (by omega)
      have hk := goMod_bd s.step.raw 9 (by omega)
      have hs1 := Src.step_pos s hs
      have hs2 := Src.step_pos _ hs1
      have hc1 : 0 ≤ (l.getD (goMod s.raw l.length).toNat ((ByteArray.empty, 0, ByteArray.empty, 0), ByteArray.empty, 0, 0, 0, 0, 0)).2.2.2.1 := by
        have hlt : (goMod s.raw l.length).toNat < l.length := by omega
        have := hc _ (List.getElem_mem hlt)
        have e : ∀ z, l.getD (goMod s.raw l.length).toNat z = l[(goMod s.raw l.length).toNat] := fun z => by simp [hlt]
        rw [e]
        exact this
      generalize goMod s.raw l.length = i at *
      generalize goMod s.step.raw 9 = k at *
      generalize l.getD i.toNat ((ByteArray.empty, 0, ByteArray.empty, 0), ByteArray.empty, 0, 0, 0, 0, 0) = d at *
      (repeat' (with_reducible (first | refine And.intro ?_ ?_ | intro _))) <;> (try (first | with_reducible (first | done | assumption | omega | contradiction) | decide))

      all_goals (try simp (disch := assumption) only [spoiltB, if_pos, if_neg])
      all_goals (rw [List.length_set]; omega))
end Go.Proofs.YtdmgmdppejopcaaGreat

/- The contracts of the functions that the statements reach: a plan in which one thing is changed. -/
set_option linter.unusedSimpArgs false
set_option linter.unusedVariables false
set_option maxRecDepth 100000
set_option maxHeartbeats 4000000
namespace Go.Proofs.YtdmgmdppejopcaaGreat
open Go.Ev

def zAll : All := ((ByteArray.empty, 0, ByteArray.empty, 0), 0)
/-- One thing changed: which, where, the allocation there and the first. -/
def bentB (s : Src) (p : List All) (t : Int) (q : List Flt) (k : Int) (i : Nat) (d e : All) : Mk × Src :=
  if k = 0 then ((p, goMod s.raw 70, q), s.step)
  else if k = 1 then ((p, t, q ++ [flightV s]), s.step.step.step)
  else if k = 2 then (if (q.length : Int) > 0 then ((p, t, q.drop 1), s) else ((p, t, q), s))
  else if k = 3 then (if (p.length : Int) > 0 then ((p.take ((p.length : Int) - 1).toNat, t, q), s) else ((p, t, q), s))
  else if k = 4 then (if (p.length : Int) > 0 then ((p.set i (d.1, goMod s.step.raw 12), t, q), s.step.step) else ((p, t, q), s))
  else if k = 5 then (if (p.length : Int) > 0 then ((p.set i (d.1, goMod s.step.raw 12), t, q), s.step.step) else ((p, t, q), s))
  else if k = 6 then (if (p.length : Int) > 1 then (((p.set i e).set 0 d, t, q), s.step) else ((p, t, q), s))
  else if k = 7 then (if (p.length : Int) > 0 then ((p.set i (flightV s.step, d.2), t, q), s.step.step.step.step) else ((p, t, q), s))
  else ((p, t, q), s)
def bentV (s : Src) (m : Mk) : Mk × Src :=
  bentB s.step m.1 m.2.1 m.2.2 (goMod s.raw 8) (goMod s.step.raw m.1.length).toNat (m.1.getD (goMod s.step.raw m.1.length).toNat zAll) (m.1.getD 0 zAll)
def con14 : Con := { ps := [.p 48 (.pair (.sl (.int .i64)) (.int .i64)), .d true (.pair (.sl (.pair (.pair .str (.pair (.int .i64) (.pair .str (.int .i64)))) (.int .i64))) (.pair (.int .i64) (.sl (.pair .str (.pair (.int .i64) (.pair .str (.int .i64)))))))], rs := [.d true (.pair (.sl (.pair (.pair .str (.pair (.int .i64) (.pair .str (.int .i64)))) (.int .i64))) (.pair (.int .i64) (.sl (.pair .str (.pair (.int .i64) (.pair .str (.int .i64)))))))], pre := fun (x : Src × Mk × Unit) => 0 ≤ x.1.2 ∧ x.2.1.1.length ≤ 1048576 ∧ x.2.1.2.2.length ≤ 1048576, out := fun (x : Src × Mk × Unit) => ((bentV x.1 x.2.1).1, ()), nw := fun (x : Src × Mk × Unit) => ((bentV x.1 x.2.1).2, x.2) }
theorem c14 : CtrOk Tryz.prog 14 con14.ctr :=
  con_sound (G := ⟨[(15, con15.ctr), (40, con40.ctr)], [], []⟩) tab_ok (EnvOk.cons c15 has15 (EnvOk.cons c40 has40 EnvOk.nil)) rfl Tryz.func14 rfl con14 334659760953680800505861290590331 (by kernel_rfl) (by decide) (by decide) rfl (by decide) rfl (by
    rintro ⟨(s : Src), ⟨(p : List All), (t : Int), (q : List Flt)⟩, _⟩ hpre hwf X hT hG hk hK
    obtain ⟨hs, hpl, hql⟩ : 0 ≤ s.2 ∧ p.length ≤ 1048576 ∧ q.length ≤ 1048576 := hpre
    (simp only [go_sem, Prod.eta, Option.isSome_none, Option.isSome_some, Int.toNat_zero, Nat.reduceAdd, Nat.reduceMul, Nat.reduceSub, Nat.reduceEqDiff, Nat.reduceLT, Nat.reduceLeDiff, Nat.reduceShiftRight, Nat.reduceMod, Nat.reduceBEq, reduceCtorEq, reduceIte, reduceDIte, Int.reduceNeg, Bool.not_eq_true', Bool.not_eq_false', Bool.or_eq_true, Bool.or_eq_false_iff, Bool.and_eq_true, Bool.and_eq_false_iff, decide_eq_true_eq, decide_eq_false_iff_not, Classical.not_not, not_or, maxLen, con14, con15, con40, hT, hG, hk, hK, Tryz.results14] at hwf ⊢); (try simp (disch := decide +kernel) only [drawn, true_and, and_true])
    have hv : bentV s (p, t, q) = bentB s.step p t q (goMod s.raw 8) (goMod s.step.raw p.length).toNat (p.getD (goMod s.step.raw p.length).toNat ((ByteArray.empty, 0, ByteArray.empty, 0), 0)) (p.getD 0 ((ByteArray.empty, 0, ByteArray.empty, 0), 0)) := rfl
    rw [hv]
    have hk := goMod_bd s.raw 8 (by omega)
    have hi : (p.length : Int) > 0 → 0 ≤ goMod s.step.raw p.length ∧ goMod s.step.raw p.length < p.length := fun h => goMod_bd s.step.raw p.length h
    have hi2 : (p.length : Int) > 0 → (goMod s.step.raw p.length).toNat < p.length := fun h => by have := hi h; omega
    have hs1 := Src.step_pos s hs
    have hs2 := Src.step_pos _ hs1
    have hs3 := Src.step_pos _ hs2
    generalize goMod s.step.raw p.length = i at *
    generalize goMod s.raw 8 = k at *
    generalize p.getD i.toNat ((ByteArray.empty, 0, ByteArray.empty, 0), 0) = d at *
    generalize s.step = s1 at *
    (repeat' (with_reducible (first | refine And.intro ?_ ?_ | intro _))) <;> (try (first | with_reducible (first | done | assumption | omega | contradiction) | decide))
    all_goals (try simp (disch := assumption) only [bentB, if_pos, if_neg])
    all_goals first
      | (rw [List.take_of_length_le (by omega)]; rfl)
      | (rw [List.length_set]; omega)
      | trace_state)
end Go.Proofs.YtdmgmdppejopcaaGreat

/- The law: the plan. -/
set_option linter.unusedSimpArgs false
set_option linter.unusedVariables false
set_option maxRecDepth 100000
set_option maxHeartbeats 4000000
namespace Go.Proofs.YtdmgmdppejopcaaGreat
open Go.Ev

theorem schedL_pos : ∀ (n : Nat) (s : Src) (k : Int), 0 ≤ s.2 → 0 ≤ (schedL n s k).2.2
  | 0, _, _, h => h
  | n + 1, s, k, h => by
    have h1 := Src.step_pos s h
    unfold schedL
    split
    · split
      · exact h1
      · exact schedL_pos n _ _ (Src.step_pos _ (Src.step_pos _ (Src.step_pos _ (Src.step_pos _ (Src.step_pos _ (Src.step_pos _ h1))))))
    · exact h
theorem schedV_pos (s : Src) (n : Int) (h : 0 ≤ s.2) : 0 ≤ (schedV s n).2.2 := schedL_pos _ _ _ (Src.step_pos s h)
theorem chL_pos : ∀ (n : Nat) (s : Src) (c : Int), 0 ≤ s.2 → 0 ≤ (chL n s c).2.2
  | 0, _, _, h => h
  | n + 1, s, c, h => chL_pos n s.step _ (Src.step_pos s h)
theorem chutesV_pos (s : Src) (n : Int) (h : 0 ≤ s.2) : 0 ≤ (chutesV s n).2.2 := chL_pos _ _ _ (Src.step_pos s h)
def con3 : Con := { ps := [.d false (.sl (.pair (.pair .str (.pair (.int .i64) (.pair .str (.int .i64)))) (.pair .str (.pair (.int .i64) (.pair (.int .i64) (.pair (.int .i64) (.pair (.int .i64) (.int .i64)))))))), .d false (.sl (.int .i64)), .d false (.sl (.int .i64))], rs := [.d false .bool], pre := fun _ => True, out := fun _ => (true, ()), nw := id }
theorem c3 : CtrOk Tryz.prog 3 con3.ctr :=
  con_sound (G := ⟨[(5, con5.ctr), (6, con6.ctr), (7, con7.ctr), (8, con8.ctr), (9, con9.ctr), (10, con10.ctr), (11, con11.ctr), (12, con12.ctr), (13, con13.ctr)], [], []⟩) tab_ok (EnvOk.cons c5 has5 (EnvOk.cons c6 has6 (EnvOk.cons c7 has7 (EnvOk.cons c8 has8 (EnvOk.cons c9 has9 (EnvOk.cons c10 has10 (EnvOk.cons c11 has11 (EnvOk.cons c12 has12 (EnvOk.cons c13 has13 EnvOk.nil))))))))) rfl Tryz.func3 rfl con3 1180591884608255161799 (by kernel_rfl) (by decide) (by decide) rfl (by decide) rfl (by
    rintro ⟨(l : List Dep), (ns : List Int), (os : List Int), _⟩ hpre hwf X hT hG hk hK
    have h30 : (l.take 30).length ≤ 30 := by rw [List.length_take]; omega
    have hgl := schedV_len (ns.take 2000, 0) 14 (by omega)
    have hg1 : ∀ d ∈ (schedV (ns.take 2000, 0) 14).1, 0 ≤ d.closes := fun d hd => by
      have := validV_times ((sched_asc (ns.take 2000, 0) 14).1 d hd)
      omega
    have hs1 := schedV_pos (ns.take 2000, 0) 14 (by simp)
    (simp only [go_sem, Prod.eta, Option.isSome_none, Option.isSome_some, Int.toNat_zero, Nat.reduceAdd, Nat.reduceMul, Nat.reduceSub, Nat.reduceEqDiff, Nat.reduceLT, Nat.reduceLeDiff, Nat.reduceShiftRight, Nat.reduceMod, Nat.reduceBEq, reduceCtorEq, reduceIte, reduceDIte, Int.reduceNeg, Bool.not_eq_true', Bool.not_eq_false', Bool.or_eq_true, Bool.or_eq_false_iff, Bool.and_eq_true, Bool.and_eq_false_iff, decide_eq_true_eq, decide_eq_false_iff_not, Classical.not_not, not_or, maxLen, con3, con5, con6, con7, con8, con9, con10, con11, con12, con13, hT, hG, hk, hK, Tryz.results3] at hwf ⊢); (try simp (disch := decide +kernel) only [drawn, true_and, and_true])
    generalize schedV (ns.take 2000, 0) 14 = g at *
    have hsl := spoiltV_len g.2 g.1
    have hs2 := spoiltV_src g.2 g.1 hs1
    generalize spoiltV g.2 g.1 = sp at *
    have hgl2 := schedV_len sp.2 24 (by omega)
    have hs3 := schedV_pos sp.2 24 hs2
    generalize schedV sp.2 24 = g2 at *
    (repeat' (with_reducible (first | refine And.intro ?_ ?_ | intro _))) <;> (try (first | with_reducible (first | done | assumption | omega | contradiction) | decide))
    · rename_i d hd
      exact hg1 d hd
    · generalize hxs : [l.take 30, g.1, sp.1, g2.1] = xs
      have hx2 : xs.length = 4 := by rw [← hxs]; rfl
      have hxl : ∀ e ∈ xs, e.length ≤ 1000 := by
        intro e he
        rw [← hxs] at he
        simp only [List.mem_cons, List.not_mem_nil, or_false] at he
        rcases he with rfl | rfl | rfl | rfl <;> omega
      refine evk_loop ⟨{ q : Src × Nat // 0 ≤ q.1.2 ∧ q.2 ≤ 4 }, 1000,
        fun q => [(2, .one (.sl (.int .i64) os false)), (7, .one (.loc 70 0)), (29, .one (.row 66)), (30, .one (.int .i64 4)), (31, .one (.int .i64 q.1.2))],
        fun q => [(70, .cells 48 [.sl (.int .i64) q.1.1.1 false, .int .i64 q.1.1.2]), (66, .row 22 (.sl (.pair (.pair .str (.pair (.int .i64) (.pair .str (.int .i64)))) (.pair .str (.pair (.int .i64) (.pair (.int .i64) (.pair (.int .i64) (.pair (.int .i64) (.int .i64)))))))) xs)], fun q => 4 - q.1.2⟩ ⟨(g2.2, 0), hs3, by simp⟩ ?_ ?_
      · simp only [go_sem, Prod.eta, Option.isSome_none, Option.isSome_some, Int.toNat_zero, Nat.reduceAdd, Nat.reduceMul, Nat.reduceSub, Nat.reduceEqDiff, Nat.reduceLT, Nat.reduceLeDiff, Nat.reduceShiftRight, Nat.reduceMod, Nat.reduceBEq, reduceCtorEq, reduceIte, reduceDIte, Int.reduceNeg]
        first
          | exact ⟨rfl, rfl⟩
          | rfl
      · rintro ⟨⟨⟨sl, sa⟩, i⟩, (hsa : 0 ≤ sa), (hi : i ≤ 4)⟩
        (simp only [go_sem, Prod.eta, Option.isSome_none, Option.isSome_some, Int.toNat_zero, Nat.reduceAdd, Nat.reduceMul, Nat.reduceSub, Nat.reduceEqDiff, Nat.reduceLT, Nat.reduceLeDiff, Nat.reduceShiftRight, Nat.reduceMod, Nat.reduceBEq, reduceCtorEq, reduceIte, reduceDIte, Int.reduceNeg, Bool.not_eq_true', Bool.not_eq_false', Bool.or_eq_true, Bool.or_eq_false_iff, Bool.and_eq_true, Bool.and_eq_false_iff, decide_eq_true_eq, decide_eq_false_iff_not, Classical.not_not, not_or, maxLen, con3, con5, con6, con7, con8, con9, con10, con11, con12, con13, hT, hG, hk, hK, Tryz.results3]); (try simp (disch := decide +kernel) only [drawn, true_and, and_true])
        intro hlt
        have hi' : i < xs.length := by omega
        have ek : ∀ z, xs.getD (i : Int).toNat z = xs[i] := fun z => by simp [hi']
        simp only [ek]
        have hel := hxl _ (List.getElem_mem hi')
        generalize xs[i] = e at hel ⊢
        have b1 := chutesV_pos (sl, sa) 6 hsa
        generalize chutesV (sl, sa) 6 = c1 at *
        have b2 := chutesV_pos c1.2 8 b1
        generalize chutesV c1.2 8 = c2 at *
        (repeat' (with_reducible (first | refine And.intro ?_ ?_ | intro _))) <;> (try (first | with_reducible (first | done | assumption | omega | contradiction) | decide))
        obtain ⟨cc1, sl2, sa2⟩ := c2
        generalize hys : [c1.1, cc1, List.take (if 10 < (os.length : Int) then 10 else (os.length : Int)).toNat os] = ys
        have hy3 : ys.length = 3 := by rw [← hys]; rfl
        refine evk_loop ⟨{ j : Nat // j ≤ 3 }, 2000,
          fun q => [(2, .one (.sl (.int .i64) os false)), (7, .one (.loc 70 0)), (29, .one (.row 66)), (30, .one (.int .i64 4)), (31, .one (.int .i64 i)), (10, .one (.sl (.pair (.pair .str (.pair (.int .i64) (.pair .str (.int .i64)))) (.pair .str (.pair (.int .i64) (.pair (.int .i64) (.pair (.int .i64) (.pair (.int .i64) (.int .i64))))))) e false)), (44, .one (.row 67)), (45, .one (.int .i64 3)), (46, .one (.int .i64 q.1))],
          fun q => [(70, .cells 48 [.sl (.int .i64) sl2 false, .int .i64 sa2]), (66, .row 22 (.sl (.pair (.pair .str (.pair (.int .i64) (.pair .str (.int .i64)))) (.pair .str (.pair (.int .i64) (.pair (.int .i64) (.pair (.int .i64) (.pair (.int .i64) (.int .i64)))))))) xs), (67, .row 23 (.sl (.int .i64)) ys)], fun q => 3 - q.1⟩ ⟨0, by simp⟩ ?_ ?_
        · simp only [go_sem, Prod.eta, Option.isSome_none, Option.isSome_some, Int.toNat_zero, Nat.reduceAdd, Nat.reduceMul, Nat.reduceSub, Nat.reduceEqDiff, Nat.reduceLT, Nat.reduceLeDiff, Nat.reduceShiftRight, Nat.reduceMod, Nat.reduceBEq, reduceCtorEq, reduceIte, reduceDIte, Int.reduceNeg]
          first
            | exact ⟨rfl, rfl⟩
            | rfl
        · rintro ⟨j, (hj : j ≤ 3)⟩
          (simp only [go_sem, Prod.eta, Option.isSome_none, Option.isSome_some, Int.toNat_zero, Nat.reduceAdd, Nat.reduceMul, Nat.reduceSub, Nat.reduceEqDiff, Nat.reduceLT, Nat.reduceLeDiff, Nat.reduceShiftRight, Nat.reduceMod, Nat.reduceBEq, reduceCtorEq, reduceIte, reduceDIte, Int.reduceNeg, Bool.not_eq_true', Bool.not_eq_false', Bool.or_eq_true, Bool.or_eq_false_iff, Bool.and_eq_true, Bool.and_eq_false_iff, decide_eq_true_eq, decide_eq_false_iff_not, Classical.not_not, not_or, maxLen, con3, con5, con6, con7, con8, con9, con10, con11, con12, con13, hT, hG, hk, hK, Tryz.results3]); (try simp (disch := decide +kernel) only [drawn, true_and, and_true])
          refine ⟨fun hlt2 => ?_, fun hge2 => ?_⟩
          · have hj' : j < ys.length := by omega
            have ek2 : ∀ z, ys.getD (j : Int).toNat z = ys[j] := fun z => by simp [hj']
            simp only [ek2, refP_eq]
            generalize ys[j] = c
            generalize hpl : planO e c = m
            (repeat' (with_reducible (first | refine And.intro ?_ ?_ | intro _))) <;> (try (first | with_reducible (first | done | assumption | omega | contradiction) | decide))
            refine fin_lp ⟨j + 1, by omega⟩ (by simp only [go_sem, Prod.eta, Option.isSome_none, Option.isSome_some, Int.toNat_zero, Nat.reduceAdd, Nat.reduceMul, Nat.reduceSub, Nat.reduceEqDiff, Nat.reduceLT, Nat.reduceLeDiff, Nat.reduceShiftRight, Nat.reduceMod, Nat.reduceBEq, reduceCtorEq, reduceIte, reduceDIte, Int.reduceNeg]; first | rfl | ((repeat' apply And.intro) <;> first | rfl | assumption | omega)) (by dsimp only; omega)
          · (repeat' (with_reducible (first | refine And.intro ?_ ?_ | intro _))) <;> (try (first | with_reducible (first | done | assumption | omega | contradiction) | decide))
            refine fin_lp ⟨((sl2, sa2), i + 1), by assumption, by dsimp only; omega⟩ (by simp only [go_sem, Prod.eta, Option.isSome_none, Option.isSome_some, Int.toNat_zero, Nat.reduceAdd, Nat.reduceMul, Nat.reduceSub, Nat.reduceEqDiff, Nat.reduceLT, Nat.reduceLeDiff, Nat.reduceShiftRight, Nat.reduceMod, Nat.reduceBEq, reduceCtorEq, reduceIte, reduceDIte, Int.reduceNeg]; first | rfl | ((repeat' apply And.intro) <;> first | rfl | assumption | omega)) (by dsimp only; omega))
end Go.Proofs.YtdmgmdppejopcaaGreat

/- The law: the check. -/
set_option linter.unusedSimpArgs false
set_option linter.unusedVariables false
set_option maxRecDepth 100000
set_option maxHeartbeats 4000000
namespace Go.Proofs.YtdmgmdppejopcaaGreat
open Go.Ev

theorem greedyV_len (l : List Dep) (cs : List Int) : (greedyV l cs).length ≤ l.length := by
  unfold greedyV
  refine Nat.le_trans (greedy_len _ _ _) ?_
  rw [isort_len]
  exact planV_len l
theorem planO_len (l : List Dep) (cs : List Int) : (planO l cs).1.1.length ≤ l.length ∧ (planO l cs).1.2.2.length ≤ l.length := by
  unfold planO
  split
  · simp
  · split
    · refine ⟨by simp, ?_⟩
      dsimp only
      rw [openV_cnt]
      exact List.countP_le_length
    · refine ⟨?_, by simp⟩
      dsimp only
      rw [(sortAl_perm _).length_eq]
      exact greedyV_len l cs
theorem bentV_len (s : Src) (m : Mk) : (bentV s m).1.1.length ≤ m.1.length ∧ (bentV s m).1.2.2.length ≤ m.2.2.length + 1 := by
  obtain ⟨p, t, q⟩ := m
  unfold bentV bentB
  dsimp only
  (repeat' split) <;> (refine ⟨?_, ?_⟩ <;> simp <;> omega)
theorem flightV_src (s : Src) : True := trivial
theorem bentV_src (s : Src) (m : Mk) (h : 0 ≤ s.2) : 0 ≤ (bentV s m).2.2 := by
  have h1 := Src.step_pos s h
  have h2 := Src.step_pos _ h1
  have h3 := Src.step_pos _ h2
  have h4 := Src.step_pos _ h3
  have h5 := Src.step_pos _ h4
  unfold bentV bentB
  (repeat' split) <;> assumption
def con4 : Con := { ps := [.d false (.sl (.pair (.pair .str (.pair (.int .i64) (.pair .str (.int .i64)))) (.pair .str (.pair (.int .i64) (.pair (.int .i64) (.pair (.int .i64) (.pair (.int .i64) (.int .i64)))))))), .d true (.pair (.sl (.pair (.pair .str (.pair (.int .i64) (.pair .str (.int .i64)))) (.int .i64))) (.pair (.int .i64) (.sl (.pair .str (.pair (.int .i64) (.pair .str (.int .i64))))))), .d false (.sl (.int .i64)), .d false (.sl (.int .i64))], rs := [.d false .bool], pre := fun _ => True, out := fun _ => (true, ()), nw := id }
theorem c4 : CtrOk Tryz.prog 4 con4.ctr :=
  con_sound (G := ⟨[(5, con5.ctr), (6, con6.ctr), (7, con7.ctr), (9, con9.ctr), (11, con11.ctr), (13, con13.ctr), (14, con14.ctr), (15, con15.ctr), (16, con16.ctr), (17, con17.ctr), (18, con18.ctr)], [], []⟩) tab_ok (EnvOk.cons c5 has5 (EnvOk.cons c6 has6 (EnvOk.cons c7 has7 (EnvOk.cons c9 has9 (EnvOk.cons c11 has11 (EnvOk.cons c13 has13 (EnvOk.cons c14 has14 (EnvOk.cons c15 has15 (EnvOk.cons c16 has16 (EnvOk.cons c17 has17 (EnvOk.cons c18 has18 EnvOk.nil))))))))))) rfl Tryz.func4 rfl con4 633825301220919345686857807663 (by kernel_rfl) (by decide) (by decide) rfl (by decide) rfl (by
    rintro ⟨(l : List Dep), ⟨(p : List All), (t : Int), (q : List Flt)⟩, (ns : List Int), (os : List Int), _⟩ hpre hwf X hT hG hk hK
    have h30 : (l.take 30).length ≤ 30 := by rw [List.length_take]; omega
    have hgl := schedV_len (ns.take 2000, 0) 12 (by omega)
    have hs1 := schedV_pos (ns.take 2000, 0) 12 (by simp)
    (simp only [go_sem, Prod.eta, Option.isSome_none, Option.isSome_some, Int.toNat_zero, Nat.reduceAdd, Nat.reduceMul, Nat.reduceSub, Nat.reduceEqDiff, Nat.reduceLT, Nat.reduceLeDiff, Nat.reduceShiftRight, Nat.reduceMod, Nat.reduceBEq, reduceCtorEq, reduceIte, reduceDIte, Int.reduceNeg, Bool.not_eq_true', Bool.not_eq_false', Bool.or_eq_true, Bool.or_eq_false_iff, Bool.and_eq_true, Bool.and_eq_false_iff, decide_eq_true_eq, decide_eq_false_iff_not, Classical.not_not, not_or, maxLen, con4, con5, con6, con7, con9, con11, con13, con14, con15, con16, con17, con18, hT, hG, hk, hK, Tryz.results4] at hwf ⊢); (try simp (disch := decide +kernel) only [drawn, true_and, and_true])
    generalize schedV (ns.take 2000, 0) 12 = g at *
    (repeat' (with_reducible (first | refine And.intro ?_ ?_ | intro _))) <;> (try (first | with_reducible (first | done | assumption | omega | contradiction) | decide))
    have hp40 : ¬ (p.length : Int) > 40 ∧ ¬ (q.length : Int) > 40 := by assumption
    generalize hxs : [l.take 30, g.1] = xs
    have hx2 : xs.length = 2 := by rw [← hxs]; rfl
    have hxl : ∀ e ∈ xs, e.length ≤ 1000 := by
      intro e he
      rw [← hxs] at he
      simp only [List.mem_cons, List.not_mem_nil, or_false] at he
      rcases he with rfl | rfl <;> omega
    refine evk_loop ⟨{ q : Src × Nat // 0 ≤ q.1.2 ∧ q.2 ≤ 2 }, 1000,
      fun z => [(3, .one (.sl (.int .i64) os false)), (5, .one (.loc 70 0)), (9, .one (.loc 71 0)), (35, .one (.row 66)), (36, .one (.int .i64 2)), (37, .one (.int .i64 z.1.2))],
      fun z => [(70, .cells 34 (expl (.pair (.sl (.pair (.pair .str (.pair (.int .i64) (.pair .str (.int .i64)))) (.int .i64))) (.pair (.int .i64) (.sl (.pair .str (.pair (.int .i64) (.pair .str (.int .i64))))))) (p, t, q))), (71, .cells 48 [.sl (.int .i64) z.1.1.1 false, .int .i64 z.1.1.2]), (66, .row 22 (.sl (.pair (.pair .str (.pair (.int .i64) (.pair .str (.int .i64)))) (.pair .str (.pair (.int .i64) (.pair (.int .i64) (.pair (.int .i64) (.pair (.int .i64) (.int .i64)))))))) xs)], fun z => 2 - z.1.2⟩ ⟨(g.2, 0), hs1, by simp⟩ ?_ ?_
    · simp only [go_sem, Prod.eta, Option.isSome_none, Option.isSome_some, Int.toNat_zero, Nat.reduceAdd, Nat.reduceMul, Nat.reduceSub, Nat.reduceEqDiff, Nat.reduceLT, Nat.reduceLeDiff, Nat.reduceShiftRight, Nat.reduceMod, Nat.reduceBEq, reduceCtorEq, reduceIte, reduceDIte, Int.reduceNeg]
      first
        | exact ⟨rfl, rfl⟩
        | rfl
    · rintro ⟨⟨⟨sl, sa⟩, i⟩, (hsa : 0 ≤ sa), (hi : i ≤ 2)⟩
      (simp only [go_sem, Prod.eta, Option.isSome_none, Option.isSome_some, Int.toNat_zero, Nat.reduceAdd, Nat.reduceMul, Nat.reduceSub, Nat.reduceEqDiff, Nat.reduceLT, Nat.reduceLeDiff, Nat.reduceShiftRight, Nat.reduceMod, Nat.reduceBEq, reduceCtorEq, reduceIte, reduceDIte, Int.reduceNeg, Bool.not_eq_true', Bool.not_eq_false', Bool.or_eq_true, Bool.or_eq_false_iff, Bool.and_eq_true, Bool.and_eq_false_iff, decide_eq_true_eq, decide_eq_false_iff_not, Classical.not_not, not_or, maxLen, con4, con5, con6, con7, con9, con11, con13, con14, con15, con16, con17, con18, hT, hG, hk, hK, Tryz.results4]); (try simp (disch := decide +kernel) only [drawn, true_and, and_true])
      intro hlt
      have hi' : i < xs.length := by omega
      have ek : ∀ z, xs.getD (i : Int).toNat z = xs[i] := fun z => by simp [hi']
      simp only [ek]
      have hel := hxl _ (List.getElem_mem hi')
      generalize xs[i] = e at hel ⊢
      have b1 := chutesV_pos (sl, sa) 6 hsa
      generalize chutesV (sl, sa) 6 = c1 at *
      simp only [refP_eq]
      have hpo := planO_len e c1.1
      generalize planO e c1.1 = po at *
      have b2 := bentV_src c1.2 po.1 b1
      have d2 := bentV_len c1.2 po.1
      generalize bentV c1.2 po.1 = r1 at *
      have b3 := bentV_src r1.2 po.1 b2
      have d3 := bentV_len r1.2 po.1
      generalize bentV r1.2 po.1 = r2 at *
      have b4 := bentV_src r2.2 r2.1 b3
      have d4 := bentV_len r2.2 r2.1
      generalize bentV r2.2 r2.1 = r3 at *
      have b5 := Src.step_pos _ b4
      have b6 := Src.step_pos _ b5
      (repeat' (with_reducible (first | refine And.intro ?_ ?_ | intro _))) <;> (try (first | with_reducible (first | done | assumption | omega | contradiction) | decide))
      have hol : (openV e (goMod r3.2.step.raw 40)).length ≤ e.length := by
        rw [openV_cnt]; exact List.countP_le_length
      generalize openV e (goMod r3.2.step.raw 40) = ov at hol ⊢
      generalize goMod r3.2.raw 40 = tt
      generalize hys : [(p, t, q), po.1, r1.1, r3.1, (([] : List All), tt, ov)] = ys
      have hy5 : ys.length = 5 := by rw [← hys]; rfl
      have hyl : ∀ m ∈ ys, m.1.length ≤ 1048576 := by
        intro m hm
        rw [← hys] at hm
        simp only [List.mem_cons, List.not_mem_nil, or_false] at hm
        rcases hm with rfl | rfl | rfl | rfl | rfl
        · dsimp only; omega
        · omega
        · omega
        · omega
        · simp
      generalize r3.2.step.step = s9 at b6 ⊢
      obtain ⟨sl9, sa9⟩ := s9
      refine evk_loop ⟨{ j : Nat // j ≤ 5 }, 2000,
        fun z => [(3, .one (.sl (.int .i64) os false)), (5, .one (.loc 70 0)), (9, .one (.loc 71 0)), (35, .one (.row 66)), (36, .one (.int .i64 2)), (37, .one (.int .i64 i)), (12, .one (.sl (.pair (.pair .str (.pair (.int .i64) (.pair .str (.int .i64)))) (.pair .str (.pair (.int .i64) (.pair (.int .i64) (.pair (.int .i64) (.pair (.int .i64) (.int .i64))))))) e false)), (13, .one (.sl (.int .i64) c1.1 false)), (66, .one (.row 67)), (67, .one (.int .i64 5)), (68, .one (.int .i64 z.1))],
        fun z => [(70, .cells 34 (expl (.pair (.sl (.pair (.pair .str (.pair (.int .i64) (.pair .str (.int .i64)))) (.int .i64))) (.pair (.int .i64) (.sl (.pair .str (.pair (.int .i64) (.pair .str (.int .i64))))))) (p, t, q))), (71, .cells 48 [.sl (.int .i64) sl9 false, .int .i64 sa9]), (66, .row 22 (.sl (.pair (.pair .str (.pair (.int .i64) (.pair .str (.int .i64)))) (.pair .str (.pair (.int .i64) (.pair (.int .i64) (.pair (.int .i64) (.pair (.int .i64) (.int .i64)))))))) xs), (67, .row 34 (.pair (.sl (.pair (.pair .str (.pair (.int .i64) (.pair .str (.int .i64)))) (.int .i64))) (.pair (.int .i64) (.sl (.pair .str (.pair (.int .i64) (.pair .str (.int .i64))))))) ys)], fun z => 5 - z.1⟩ ⟨0, by simp⟩ ?_ ?_
      · simp only [go_sem, Prod.eta, Option.isSome_none, Option.isSome_some, Int.toNat_zero, Nat.reduceAdd, Nat.reduceMul, Nat.reduceSub, Nat.reduceEqDiff, Nat.reduceLT, Nat.reduceLeDiff, Nat.reduceShiftRight, Nat.reduceMod, Nat.reduceBEq, reduceCtorEq, reduceIte, reduceDIte, Int.reduceNeg]
        first
          | exact ⟨rfl, rfl⟩
          | rfl
      · rintro ⟨j, (hj : j ≤ 5)⟩
        (simp only [go_sem, Prod.eta, Option.isSome_none, Option.isSome_some, Int.toNat_zero, Nat.reduceAdd, Nat.reduceMul, Nat.reduceSub, Nat.reduceEqDiff, Nat.reduceLT, Nat.reduceLeDiff, Nat.reduceShiftRight, Nat.reduceMod, Nat.reduceBEq, reduceCtorEq, reduceIte, reduceDIte, Int.reduceNeg, Bool.not_eq_true', Bool.not_eq_false', Bool.or_eq_true, Bool.or_eq_false_iff, Bool.and_eq_true, Bool.and_eq_false_iff, decide_eq_true_eq, decide_eq_false_iff_not, Classical.not_not, not_or, maxLen, con4, con5, con6, con7, con9, con11, con13, con14, con15, con16, con17, con18, hT, hG, hk, hK, Tryz.results4]); (try simp (disch := decide +kernel) only [drawn, true_and, and_true])
        refine ⟨fun hlt2 => ?_, fun hge2 => ?_⟩
        · have hj' : j < ys.length := by omega
          have ek2 : ∀ z, ys.getD (j : Int).toNat z = ys[j] := fun z => by simp [hj']
          simp only [ek2, checkR_eq]
          have hml := hyl _ (List.getElem_mem hj')
          generalize ys[j] = m at hml ⊢
          (repeat' (with_reducible (first | refine And.intro ?_ ?_ | intro _))) <;> (try (first | with_reducible (first | done | assumption | omega | contradiction) | decide))
          refine fin_lp ⟨j + 1, by omega⟩ (by simp only [go_sem, Prod.eta, Option.isSome_none, Option.isSome_some, Int.toNat_zero, Nat.reduceAdd, Nat.reduceMul, Nat.reduceSub, Nat.reduceEqDiff, Nat.reduceLT, Nat.reduceLeDiff, Nat.reduceShiftRight, Nat.reduceMod, Nat.reduceBEq, reduceCtorEq, reduceIte, reduceDIte, Int.reduceNeg]; first | rfl | ((repeat' apply And.intro) <;> first | rfl | assumption | omega)) (by dsimp only; omega)
        · (repeat' (with_reducible (first | refine And.intro ?_ ?_ | intro _))) <;> (try (first | with_reducible (first | done | assumption | omega | contradiction) | decide))
          refine fin_lp ⟨((sl9, sa9), i + 1), by assumption, by dsimp only; omega⟩ (by simp only [go_sem, Prod.eta, Option.isSome_none, Option.isSome_some, Int.toNat_zero, Nat.reduceAdd, Nat.reduceMul, Nat.reduceSub, Nat.reduceEqDiff, Nat.reduceLT, Nat.reduceLeDiff, Nat.reduceShiftRight, Nat.reduceMod, Nat.reduceBEq, reduceCtorEq, reduceIte, reduceDIte, Int.reduceNeg]; first | rfl | ((repeat' apply And.intro) <;> first | rfl | assumption | omega)) (by dsimp only; omega))
end Go.Proofs.YtdmgmdppejopcaaGreat
