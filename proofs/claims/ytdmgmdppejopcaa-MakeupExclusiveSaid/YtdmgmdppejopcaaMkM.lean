/- The plain laws: schedules out of numbers are valid; a plan has all departures. -/
import Derived.Test.YtdmgmdppejopcaaMkL
set_option linter.unusedSimpArgs false
set_option linter.unusedVariables false
set_option maxRecDepth 100000
set_option maxHeartbeats 4000000
namespace Go.Proofs.Ytdmgmdppejopcaa
open Go.Ev

theorem flts_asc : ∀ a b : Fin 27, a < b → fltC (fltsV (a.1 : Int)) (fltsV (b.1 : Int)) < 0 := by decide +kernel
theorem flts_ok : ∀ a : Fin 27, fltOk (fltsV (a.1 : Int)) = true := by decide +kernel
theorem ports_ok : ∀ i : Fin 5, lettersV (ports.getD i.1 ByteArray.empty) 3 3 = true := by decide +kernel
theorem flts_lt {a b : Int} (h0 : 0 ≤ a) (h1 : a < b) (h2 : b < 27) : fltC (fltsV a) (fltsV b) < 0 := by
  have := flts_asc ⟨a.toNat, by omega⟩ ⟨b.toNat, by omega⟩ (by rw [Fin.lt_def]; simp only; omega)
  simp only at this
  rwa [show ((a.toNat : Nat) : Int) = a by omega, show ((b.toNat : Nat) : Int) = b by omega] at this
theorem state_bd (i : Int) (h : 0 ≤ i ∧ i < 6) : 0 ≤ ([0, 0, 0, 0, 1, 2] : List Int).getD i.toNat 0 ∧ ([0, 0, 0, 0, 1, 2] : List Int).getD i.toNat 0 ≤ 2 := by
  have : i = 0 ∨ i = 1 ∨ i = 2 ∨ i = 3 ∨ i = 4 ∨ i = 5 := by omega
  rcases this with rfl | rfl | rfl | rfl | rfl | rfl <;> decide
theorem dep_valid (k : Int) (s : Src) (h0 : 0 ≤ k) (h1 : k < 27) : validV (depV k s) = true := by
  have a1 := flts_ok ⟨k.toNat, by omega⟩
  simp only at a1
  rw [show ((k.toNat : Nat) : Int) = k by omega] at a1
  have b5 := goMod_bd s.raw 5 (by omega)
  have a2 := ports_ok ⟨(goMod s.raw 5).toNat, by omega⟩
  have q40 := goMod_bd s.step.raw 40 (by omega)
  have q100 := goMod_bd s.step.step.raw 100 (by omega)
  have q20 := goMod_bd s.step.step.step.raw 20 (by omega)
  have q10 := goMod_bd s.step.step.step.step.raw 10 (by omega)
  have q6 := state_bd _ (goMod_bd s.step.step.step.step.step.raw 6 (by omega))
  unfold validV depV inV
  dsimp only
  simp only at a2
  rw [a1, a2]
  simp only [Bool.true_and, Bool.and_eq_true, decide_eq_true_eq]
  omega
theorem schedL_asc : ∀ (n : Nat) (s : Src) (k : Int), 0 ≤ k → (∀ d ∈ (schedL n s k).1, validV d = true ∧ ∃ j, k ≤ j ∧ j < 27 ∧ d.1 = fltsV j) ∧ (schedL n s k).1.Pairwise (fun a b => fltC a.1 b.1 < 0)
  | 0, _, _, _ => ⟨fun d h => (by cases h), List.Pairwise.nil⟩
  | n + 1, s, k, hk => by
    have b3 := goMod_bd s.raw 3 (by omega)
    unfold schedL
    split
    · split
      · exact ⟨fun d h => (by cases h), List.Pairwise.nil⟩
      · rename_i h1 h2
        obtain ⟨u, v⟩ := schedL_asc n (dep6 s.step) (k + goMod s.raw 3 + 1) (by omega)
        refine ⟨fun d hd => ?_, List.pairwise_cons.2 ⟨fun d hd => ?_, v⟩⟩
        · rcases List.mem_cons.1 hd with rfl | hd
          · exact ⟨dep_valid _ _ (by omega) (by omega), k + goMod s.raw 3, by omega, by omega, rfl⟩
          · obtain ⟨x, j, y, z, t⟩ := u d hd
            exact ⟨x, j, by omega, z, t⟩
        · obtain ⟨x, j, y, z, t⟩ := u d hd
          rw [t]
          exact flts_lt (a := k + goMod s.raw 3) (by omega) (by omega) z
    · exact ⟨fun d h => (by cases h), List.Pairwise.nil⟩
theorem sched_asc (s : Src) (n : Int) : (∀ d ∈ (schedV s n).1, validV d = true) ∧ (schedV s n).1.Pairwise (fun a b => fltC a.1 b.1 < 0) := by
  obtain ⟨u, v⟩ := schedL_asc (goMod s.raw (n + 1)).toNat s.step 0 (Int.le_refl _)
  exact ⟨fun d hd => (u d hd).1, v⟩
theorem valF_of : ∀ (l : List Dep) (p : Option Flt), (∀ d ∈ l, validV d = true) → (∀ f, p = some f → ∀ d ∈ l, fltC f d.1 < 0) → l.Pairwise (fun a b => fltC a.1 b.1 < 0) → valF p l = 0
  | [], _, _, _, _ => rfl
  | d :: l, p, h1, h2, h3 => by
    obtain ⟨g1, g2⟩ := List.pairwise_cons.1 h3
    have ih := valF_of l (some d.1) (fun e he => h1 e (List.mem_cons_of_mem _ he)) (fun f hf e he => by cases hf; exact g1 e he) g2
    unfold valF
    rw [if_neg (by rw [h1 d (by simp)]; simp)]
    cases p with
    | none => exact ih
    | some f =>
      dsimp only
      have := h2 f rfl d (by simp)
      rw [if_neg (by omega), if_neg (by omega)]
      exact ih
theorem validate_of {l : List Dep} (hl : l.length ≤ 24) (h1 : ∀ d ∈ l, validV d = true) (h3 : l.Pairwise (fun a b => fltC a.1 b.1 < 0)) : validateV l = 0 := by
  unfold validateV
  rw [if_neg (by omega), valF_of l none h1 (fun f hf => by cases hf) h3]
theorem args_of {l : List Dep} {cs : List Int} (h1 : validateV l = 0) (h2 : (planV l).length ≤ 16) (h3 : cs.length ≤ 6) (h4 : cs.all (fun c => decide (0 ≤ c)) = true) (h5 : ascI cs = true) : argsV l cs = 0 := by
  unfold argsV
  rw [if_neg (by omega), if_neg (by omega), if_neg (by rw [h4]; simp), if_neg (by rw [h5]; simp)]
theorem sched_validate (s : Src) (n : Int) (h0 : 0 ≤ n) (h : n ≤ 24) : validateV (schedV s n).1 = 0 := by
  have := schedV_len s n h0
  obtain ⟨u, v⟩ := sched_asc s n
  exact validate_of (by omega) u v

theorem place_count {d : Dep} (t : Int) : ∀ {cs fr : List Int} {c : Int} {fr' : List Int}, place d cs fr = some (c, fr') → fr'.countP (fun x => decide (t < x)) ≤ fr.countP (fun x => decide (t < x)) + if t < d.closes then 1 else 0
  | c :: cs, f :: fs, x, fr', h => by
    unfold place at h
    split at h
    · cases h
      rw [List.countP_cons, List.countP_cons]
      simp only [decide_eq_true_eq]
      split <;> split <;> omega
    · cases hp : place d cs fs with
      | none => rw [hp] at h; cases h
      | some r =>
        rw [hp] at h
        cases h
        have := place_count t hp
        rw [List.countP_cons, List.countP_cons]
        omega
  | [], _, _, _, h => by simp [place] at h
  | _ :: _, [], _, _, h => by simp [place] at h
theorem place_fail {d : Dep} : ∀ {cs fr : List Int}, cs.length = fr.length → place d cs fr = none → fr.countP (fun x => decide (d.opens < x)) = fr.length
  | [], [], _, _ => rfl
  | [], _ :: _, h, _ => by simp at h
  | _ :: _, [], h, _ => by simp at h
  | c :: cs, f :: fs, hl, h => by
    unfold place at h
    split at h
    · cases h
    · rename_i hf
      have hp : place d cs fs = none := by
        cases hp : place d cs fs with
        | none => rfl
        | some r => rw [hp] at h; cases h
      rw [List.countP_cons, place_fail (by simpa using hl) hp, if_pos (by rw [decide_eq_true_eq]; omega), List.length_cons]
theorem greedy_full (cs : List Int) : ∀ (ds D : List Dep) (fr : List Int), fr.length = cs.length → (∀ t : Int, 0 ≤ t → fr.countP (fun x => decide (t < x)) ≤ D.countP (fun e => decide (t < e.closes))) →
    (∀ e ∈ D, ∀ d ∈ ds, e.opens ≤ d.opens) → ds.Pairwise (fun a b => a.opens ≤ b.opens) → (∀ e ∈ D ++ ds, e.state = 0 ∧ 0 ≤ e.opens ∧ e.opens < e.closes) → (∀ t, (D ++ ds).countP (fun d => isOpenV d t) ≤ cs.length) →
    keysOf (greedy ds cs fr) = ds.map (fun d => d.1)
  | [], _, _, _, _, _, _, _, _ => rfl
  | d :: ds, D, fr, h1, h2, h3, h4, h5, h6 => by
    obtain ⟨g1, g2⟩ := List.pairwise_cons.1 h4
    have hd := h5 d (by simp)
    unfold greedy
    cases hp : place d cs fr with
    | none =>
      exfalso
      have a1 := place_fail h1.symm hp
      have a2 := h2 d.opens hd.2.1
      have a3 := h6 d.opens
      have a4 : D.countP (fun e => decide (d.opens < e.closes)) ≤ D.countP (fun e => isOpenV e d.opens) := by
        refine List.countP_mono_left fun e he hc => ?_
        rw [isOpenV_iff]
        have := h5 e (by simp [he])
        have := h3 e he d (by simp)
        have := of_decide_eq_true hc
        omega
      have a5 : isOpenV d d.opens = true := by rw [isOpenV_iff]; omega
      rw [List.countP_append, List.countP_cons, if_pos a5] at a3
      omega
    | some r =>
      obtain ⟨c, fr'⟩ := r
      dsimp only
      have e : D ++ d :: ds = (D ++ [d]) ++ ds := by simp
      rw [e] at h5 h6
      have ih := greedy_full cs ds (D ++ [d]) fr' ((place_len hp).trans h1) (fun t ht => by
        have b1 := place_count t hp
        have b2 := h2 t ht
        rw [List.countP_append, List.countP_singleton]
        simp only [decide_eq_true_eq]
        split at b1 <;> rename_i hh
        · rw [if_pos hh]; omega
        · rw [if_neg hh]; omega) (fun x hx y hy => by
        rcases List.mem_append.1 hx with hx | hx
        · exact h3 x hx y (List.mem_cons_of_mem _ hy)
        · rw [List.mem_singleton.1 hx]; exact g1 y hy) g2 h5 h6
      unfold keysOf at ih ⊢
      rw [List.map_cons, List.map_cons, ih]
theorem cnt_plan (l : List Dep) (t : Int) : (planV l).countP (fun d => isOpenV d t) = cnt l t := by
  unfold planV cnt
  rw [List.countP_filter]
  refine List.countP_congr fun d _ => ?_
  rw [Bool.and_eq_true, decide_eq_true_eq, isOpenV_iff]
  exact ⟨fun h => h.1, fun h => ⟨h, h.1⟩⟩
/-- With as many chutes as the peak, a plan has all planned departures. -/
theorem plan_full {l : List Dep} {cs : List Int} (ha : argsV l cs = 0) (hp : ¬ (peakV l).2 > (cs.length : Int)) : (keysOf (greedyV l cs)).Perm ((planV l).map (fun d => d.1)) := by
  obtain ⟨k1, k2, k3, k4⟩ := plan_keys ha
  have hperm := isort_perm (planV l)
  have := greedy_full cs (isort (planV l)) [] (List.replicate cs.length 0) (by simp) (fun t ht => by
    rw [List.countP_replicate, if_neg (by rw [decide_eq_true_eq]; omega)]
    exact Nat.zero_le _) (by simp) (isort_sorted _) (fun e he => by
    have he' : e ∈ planV l := hperm.mem_iff.1 (by simpa using he)
    have h1 := k4 e he'
    have h2 : e.state = 0 := by
      unfold planV at he'
      have := (List.mem_filter.1 he').2
      simpa using this
    exact ⟨h2, h1.1, h1.2.1⟩) (fun t => by
    rw [List.nil_append, hperm.countP_eq, cnt_plan]
    have := (pk_facts l).2.2.2.1 t
    rw [openV_cnt] at this
    omega)
  unfold greedyV
  rw [this]
  exact hperm.map _
theorem planO_ok {l : List Dep} {cs : List Int} (ha : argsV l cs = 0) : (planO l cs).2 = 0 ∧
    (((peakV l).2 > (cs.length : Int) ∧ (planO l cs).1.1 = [] ∧ ((planO l cs).1.2.2.length : Int) = (peakV l).2 ∧ (planO l cs).1.2.1 = (peakV l).1) ∨
     (¬ (peakV l).2 > (cs.length : Int) ∧ (planO l cs).1.2.2 = [] ∧ (planO l cs).1.2.1 = 0 ∧ (keysOf (planO l cs).1.1).Perm ((planV l).map (fun d => d.1)) ∧ (planO l cs).1.1.length = (planV l).length)) := by
  by_cases hp : (peakV l).2 > (cs.length : Int)
  · have hv : planO l cs = (([], (peakV l).1, openV l (peakV l).1), 0) := by
      unfold planO; rw [if_neg (by omega), if_pos hp]
    rw [hv]
    have f := pk_facts l
    have f4 := f.2.2.2.1 (peakV l).1
    exact ⟨rfl, .inl ⟨hp, rfl, by dsimp only; omega, rfl⟩⟩
  · have hv : planO l cs = ((sortAl (greedyV l cs), 0, []), 0) := by
      unfold planO; rw [if_neg (by omega), if_neg hp]
    rw [hv]
    have hf := plan_full ha hp
    have hk : (keysOf (sortAl (greedyV l cs))).Perm ((planV l).map (fun d => d.1)) := ((sortAl_perm _).map _).trans hf
    refine ⟨rfl, .inr ⟨hp, rfl, rfl, hk, ?_⟩⟩
    have := hk.length_eq
    unfold keysOf at this
    rw [List.length_map, List.length_map] at this
    exact this
end Go.Proofs.Ytdmgmdppejopcaa
