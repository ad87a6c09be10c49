/- The plain laws: schedules out of numbers are valid; a plan has all departures. -/
import Derived.Test.YtdmgmdppejopcaaGreatEvSortFToL
set_option linter.unusedSimpArgs false
set_option linter.unusedVariables false
set_option maxRecDepth 100000
set_option maxHeartbeats 4000000
namespace Go.Proofs.YtdmgmdppejopcaaGreat
open Go.Ev

theorem flts_asc : ∀ a b : Fin 27, a < b → fltC (fltsV (a.1 : Int)) (fltsV (b.1 : Int)) < 0 := by decide +kernel
theorem flts_ok : ∀ a : Fin 27, fltOk (fltsV (a.1 : Int)) = true := by decide +kernel
theorem ports_ok : ∀ i : Fin 5, lettersV (ports.getD i.1 ByteArray.empty) 3 3 = true := by decide +kernel
theorem flts_lt {a b : Int} (h0 : 0 ≤ a) (h1 : a < b) (h2 : b < 27) : fltC (fltsV a) (fltsV b) < 0 := by
  have := flts_asc ⟨a.toNat, by omega⟩ ⟨b.toNat, by omega⟩ (by rw [Fin.lt_def]; simp only; omega)
  simp only at this
  rwa [show ((a.toNat : Nat) : Int) = a by omega, show ((b.toNat : Nat) : Int) = b by omega] at this
theorem state_bd (i : Int) (h : 0 ≤ i ∧ i < 6) : 0 ≤ ([0, 0, 0, 0, 1, 2] : List Int).getD i.toNat 0 ∧ ([0, 0, 0, 0, 1, 2] : List Int).getD i.toNat 0 ≤ 2 := by
  have : i = 0 ∨ i = 1 ∨ i = 2 ∨ i = 3 ∨ i = 4 ∨ i = 5 := by omega
  rcases this with rfl | rfl | rfl | rfl | rfl | rfl <;> decide
theorem dep_valid (k : Int) (s : Src) (h0 : 0 ≤ k) (h1 : k < 27) : validV (depV k s) = true := by
  have a1 := flts_ok ⟨k.toNat, by omega⟩
  simp only at a1
  rw [show ((k.toNat : Nat) : Int) = k by omega] at a1
  have b5 := goMod_bd s.raw 5 (by omega)
  have a2 := ports_ok ⟨(goMod s.raw 5).toNat, by omega⟩
  have q40 := goMod_bd s.step.raw 40 (by omega)
  have q100 := goMod_bd s.step.step.raw 100 (by omega)
  have q20 := goMod_bd s.step.step.step.raw 20 (by omega)
  have q10 := goMod_bd s.step.step.step.step.raw 10 (by omega)
  have q6 := state_bd _ (goMod_bd s.step.step.step.step.step.raw 6 (by omega))
  unfold validV depV inV
  dsimp only
  simp only at a2
  rw [a1, a2]
  simp only [Bool.true_and, Bool.and_eq_true, decide_eq_true_eq]
  omega
theorem schedL_asc : ∀ (n : Nat) (s : Src) (k : Int), 0 ≤ k → (∀ d ∈ (schedL n s k).1, validV d = true ∧ ∃ j, k ≤ j ∧ j < 27 ∧ d.1 = fltsV j) ∧ (schedL n s k).1.Pairwise (fun a b => fltC a.1 b.1 < 0)
  | 0, _, _, _ => ⟨fun d h => (by cases h), List.Pairwise.nil⟩
  | n + 1, s, k, hk => by
    have b3 := goMod_bd s.raw 3 (by omega)
    unfold schedL
    split
    · split
      · exact ⟨fun d h => (by cases h), List.Pairwise.nil⟩
      · rename_i h1 h2
        obtain ⟨u, v⟩ := schedL_asc n (dep6 s.step) (k + goMod s.raw 3 + 1) (by omega)
        refine ⟨fun d hd => ?_, List.pairwise_cons.2 ⟨fun d hd => ?_, v⟩⟩
        · rcases List.mem_cons.1 hd with rfl | hd
          · exact ⟨dep_valid _ _ (by omega) (by omega), k + goMod s.raw 3, by omega, by omega, rfl⟩
          · obtain ⟨x, j, y, z, t⟩ := u d hd
            exact ⟨x, j, by omega, z, t⟩
        · obtain ⟨x, j, y, z, t⟩ := u d hd
          rw [t]
          exact flts_lt (a := k + goMod s.raw 3) (by omega) (by omega) z
    · exact ⟨fun d h => (by cases h), List.Pairwise.nil⟩
theorem sched_asc (s : Src) (n : Int) : (∀ d ∈ (schedV s n).1, validV d = true) ∧ (schedV s n).1.Pairwise (fun a b => fltC a.1 b.1 < 0) := by
  obtain ⟨u, v⟩ := schedL_asc (goMod s.raw (n + 1)).toNat s.step 0 (Int.le_refl _)
  exact ⟨fun d hd => (u d hd).1, v⟩
theorem valF_of : ∀ (l : List Dep) (p : Option Flt), (∀ d ∈ l, validV d = true) → (∀ f, p = some f → ∀ d ∈ l, fltC f d.1 < 0) → l.Pairwise (fun a b => fltC a.1 b.1 < 0) → valF p l = 0
  | [], _, _, _, _ => rfl
  | d :: l, p, h1, h2, h3 => by
    obtain ⟨g1, g2⟩ := List.pairwise_cons.1 h3
    have ih := valF_of l (some d.1) (fun e he => h1 e (List.mem_cons_of_mem _ he)) (fun f hf e he => by cases hf; exact g1 e he) g2
    unfold valF
    rw [if_neg (by rw [h1 d (by simp)]; simp)]
    cases p with
    | none => exact ih
    | some f =>
      dsimp only
      have := h2 f rfl d (by simp)
      rw [if_neg (by omega), if_neg (by omega)]
      exact ih
theorem validate_of {l : List Dep} (hl : l.length ≤ 24) (h1 : ∀ d ∈ l, validV d = true) (h3 : l.Pairwise (fun a b => fltC a.1 b.1 < 0)) : validateV l = 0 := by
  unfold validateV
  rw [if_neg (by omega), valF_of l none h1 (fun f hf => by cases hf) h3]
theorem args_of {l : List Dep} {cs : List Int} (h1 : validateV l = 0) (h2 : (planV l).length ≤ 16) (h3 : cs.length ≤ 6) (h4 : cs.all (fun c => decide (0 ≤ c)) = true) (h5 : ascI cs = true) : argsV l cs = 0 := by
  unfold argsV
  rw [if_neg (by omega), if_neg (by omega), if_neg (by rw [h4]; simp), if_neg (by rw [h5]; simp)]
theorem sched_validate (s : Src) (n : Int) (h0 : 0 ≤ n) (h : n ≤ 24) : validateV (schedV s n).1 = 0 := by
  have := schedV_len s n h0
  obtain ⟨u, v⟩ := sched_asc s n
  exact validate_of (by omega) u v

theorem place_count {d : Dep} (t : Int) : ∀ {cs fr : List Int} {c : Int} {fr' : List Int}, place d cs fr = some (c, fr') → fr'.countP (fun x => decide (t < x)) ≤ fr.countP (fun x => decide (t < x)) + if t < d.closes then 1 else 0
  | c :: cs, f :: fs, x, fr', h => by
    unfold place at h
    split at h
    · cases h
      rw [List.countP_cons, List.countP_cons]
      simp only [decide_eq_true_eq]
      split <;> split <;> omega
    · cases hp : place d cs fs with
      | none => rw [hp] at h; cases h
      | some r =>
        rw [hp] at h
        cases h
        have := place_count t hp
        rw [List.countP_cons, List.countP_cons]
        omega
  | [], _, _, _, h => by simp [place] at h
  | _ :: _, [], _, _, h => by simp [place] at h
theorem place_fail {d : Dep} : ∀ {cs fr : List Int}, cs.length = fr.length → place d cs fr = none → fr.countP (fun x => decide (d.opens < x)) = fr.length
  | [], [], _, _ => rfl
  | [], _ :: _, h, _ => by simp at h
  | _ :: _, [], h, _ => by simp at h
  | c :: cs, f :: fs, hl, h => by
    unfold place at h
    split at h
    · cases h
    · rename_i hf
      have hp : place d cs fs = none := by
        cases hp : place d cs fs with
        | none => rfl
        | some r => rw [hp] at h; cases h
      rw [List.countP_cons, place_fail (by simpa using hl) hp, if_pos (by rw [decide_eq_true_eq]; omega), List.length_cons]
theorem greedy_full (cs : List Int) : ∀ (ds D : List Dep) (fr : List Int), fr.length = cs.length → (∀ t : Int, 0 ≤ t → fr.countP (fun x => decide (t < x)) ≤ D.countP (fun e => decide (t < e.closes))) →
    (∀ e ∈ D, ∀ d ∈ ds, e.opens ≤ d.opens) → ds.Pairwise (fun a b => a.opens ≤ b.opens) → (∀ e ∈ D ++ ds, e.state = 0 ∧ 0 ≤ e.opens ∧ e.opens < e.closes) → (∀ t, (D ++ ds).countP (fun d => isOpenV d t) ≤ cs.length) →
    keysOf (greedy ds cs fr) = ds.map (fun d => d.1)
  | [], _, _, _, _, _, _, _, _ => rfl
  | d :: ds, D, fr, h1, h2, h3, h4, h5, h6 => by
    obtain ⟨g1, g2⟩ := List.pairwise_cons.1 h4
    have hd := h5 d (by simp)
    unfold greedy
    cases hp : place d cs fr with
    | none =>
      exfalso
      have a1 := place_fail h1.symm hp
      have a2 := h2 d.opens hd.2.1
      have a3 := h6 d.opens
      have a4 : D.countP (fun e => decide (d.opens < e.closes)) ≤ D.countP (fun e => isOpenV e d.opens) := by
        refine List.countP_mono_left fun e he hc => ?_
        rw [isOpenV_iff]
        have := h5 e (by simp [he])
        have := h3 e he d (by simp)
        have := of_decide_eq_true hc
        omega
      have a5 : isOpenV d d.opens = true := by rw [isOpenV_iff]; omega
      rw [List.countP_append, List.countP_cons, if_pos a5] at a3
      omega
    | some r =>
      obtain ⟨c, fr'⟩ := r
      dsimp only
      have e : D ++ d :: ds = (D ++ [d]) ++ ds := by simp
      rw [e] at h5 h6
      have ih := greedy_full cs ds (D ++ [d]) fr' ((place_len hp).trans h1) (fun t ht => by
        have b1 := place_count t hp
        have b2 := h2 t ht
        rw [List.countP_append, List.countP_singleton]
        simp only [decide_eq_true_eq]
        split at b1 <;> rename_i hh
        · rw [if_pos hh]; omega
        · rw [if_neg hh]; omega) (fun x hx y hy => by
        rcases List.mem_append.1 hx with hx | hx
        · exact h3 x hx y (List.mem_cons_of_mem _ hy)
        · rw [List.mem_singleton.1 hx]; exact g1 y hy) g2 h5 h6
      unfold keysOf at ih ⊢
      rw [List.map_cons, List.map_cons, ih]
theorem cnt_plan (l : List Dep) (t : Int) : (planV l).countP (fun d => isOpenV d t) = cnt l t := by
  unfold planV cnt
  rw [List.countP_filter]
  refine List.countP_congr fun d _ => ?_
  rw [Bool.and_eq_true, decide_eq_true_eq, isOpenV_iff]
  exact ⟨fun h => h.1, fun h => ⟨h, h.1⟩⟩
/-- With as many chutes as the peak, a plan has all planned departures. -/
theorem plan_full {l : List Dep} {cs : List Int} (ha : argsV l cs = 0) (hp : ¬ (peakV l).2 > (cs.length : Int)) : (keysOf (greedyV l cs)).Perm ((planV l).map (fun d => d.1)) := by
  obtain ⟨k1, k2, k3, k4⟩ := plan_keys ha
  have hperm := isort_perm (planV l)
  have := greedy_full cs (isort (planV l)) [] (List.replicate cs.length 0) (by simp) (fun t ht => by
    rw [List.countP_replicate, if_neg (by rw [decide_eq_true_eq]; omega)]
    exact Nat.zero_le _) (by simp) (isort_sorted _) (fun e he => by
    have he' : e ∈ planV l := hperm.mem_iff.1 (by simpa using he)
    have h1 := k4 e he'
    have h2 : e.state = 0 := by
      unfold planV at he'
      have := (List.mem_filter.1 he').2
      simpa using this
    exact ⟨h2, h1.1, h1.2.1⟩) (fun t => by
    rw [List.nil_append, hperm.countP_eq, cnt_plan]
    have := (pk_facts l).2.2.2.1 t
    rw [openV_cnt] at this
    omega)
  unfold greedyV
  rw [this]
  exact hperm.map _
theorem planO_ok {l : List Dep} {cs : List Int} (ha : argsV l cs = 0) : (planO l cs).2 = 0 ∧
    (((peakV l).2 > (cs.length : Int) ∧ (planO l cs).1.1 = [] ∧ ((planO l cs).1.2.2.length : Int) = (peakV l).2 ∧ (planO l cs).1.2.1 = (peakV l).1) ∨
     (¬ (peakV l).2 > (cs.length : Int) ∧ (planO l cs).1.2.2 = [] ∧ (planO l cs).1.2.1 = 0 ∧ (keysOf (planO l cs).1.1).Perm ((planV l).map (fun d => d.1)) ∧ (planO l cs).1.1.length = (planV l).length)) := by
  by_cases hp : (peakV l).2 > (cs.length : Int)
  · have hv : planO l cs = (([], (peakV l).1, openV l (peakV l).1), 0) := by
      unfold planO; rw [if_neg (by omega), if_pos hp]
    rw [hv]
    have f := pk_facts l
    have f4 := f.2.2.2.1 (peakV l).1
    exact ⟨rfl, .inl ⟨hp, rfl, by dsimp only; omega, rfl⟩⟩
  · have hv : planO l cs = ((sortAl (greedyV l cs), 0, []), 0) := by
      unfold planO; rw [if_neg (by omega), if_neg hp]
    rw [hv]
    have hf := plan_full ha hp
    have hk : (keysOf (sortAl (greedyV l cs))).Perm ((planV l).map (fun d => d.1)) := ((sortAl_perm _).map _).trans hf
    refine ⟨rfl, .inr ⟨hp, rfl, rfl, hk, ?_⟩⟩
    have := hk.length_eq
    unfold keysOf at this
    rw [List.length_map, List.length_map] at this
    exact this
end Go.Proofs.YtdmgmdppejopcaaGreat

/- The contracts of the functions that the statements about the makeup reach: Check. -/
set_option linter.unusedSimpArgs false
set_option linter.unusedVariables false
set_option maxRecDepth 100000
set_option maxHeartbeats 4000000
namespace Go.Proofs.YtdmgmdppejopcaaGreat
open Go.Ev

def depAt (l : List Dep) (i : Int) : Dep := l.getD i.toNat ((ByteArray.empty, 0, ByteArray.empty, 0), ByteArray.empty, 0, 0, 0, 0, 0)
def isPlanned (l : List Dep) (f : Flt) : Bool := decide (0 ≤ findV l f) && decide ((depAt l (findV l f)).state = 0)
def proofV (l : List Dep) (cs : List Int) (p : List All) (t : Int) (q : List Flt) : Int :=
  if (p.length : Int) > 0 then 4 else if ascF q = false then 9 else if q.all (isPlanned l) = false then 6 else if q.all (fun f => isOpenV (depAt l (findV l f)) t) = false then 7 else if (q.length : Int) ≤ cs.length then 8 else 0
theorem find_bd (l : List Dep) (f : Flt) : -1 ≤ findV l f ∧ findV l f < l.length := by
  unfold findV
  rcases idxF_spec (fun d : Dep => decide (d.1 = f)) l 0 (Int.le_refl _) with ⟨h, _⟩ | ⟨i, hi, h, _⟩ <;> omega
def con43 : Con := { ps := [.d false (.sl (.pair (.pair .str (.pair (.int .i64) (.pair .str (.int .i64)))) (.pair .str (.pair (.int .i64) (.pair (.int .i64) (.pair (.int .i64) (.pair (.int .i64) (.int .i64)))))))), .d false (.sl (.int .i64)), .d true (.pair (.sl (.pair (.pair .str (.pair (.int .i64) (.pair .str (.int .i64)))) (.int .i64))) (.pair (.int .i64) (.sl (.pair .str (.pair (.int .i64) (.pair .str (.int .i64)))))))], rs := [.d false (.int .i64)], pre := fun _ => True, out := fun (x : List Dep × List Int × Mk × Unit) => (proofV x.1 x.2.1 x.2.2.1.1 x.2.2.1.2.1 x.2.2.1.2.2, ()), nw := id }
theorem c43 : CtrOk Tryz.prog 43 con43.ctr :=
  con_sound (G := ⟨[(44, con44.ctr), (53, con53.ctr), (62, con62.ctr)], [], []⟩) tab_ok (EnvOk.cons c44 has44 (EnvOk.cons c53 has53 (EnvOk.cons c62 has62 EnvOk.nil))) rfl Tryz.func43 rfl con43 18590925782270905191 (by kernel_rfl) (by decide) (by decide) rfl (by decide) rfl (by
    rintro ⟨(l : List Dep), (cs : List Int), ⟨(p : List All), (t : Int), (q : List Flt)⟩, _⟩ hpre hwf X hT hG hk hK
    (simp only [go_sem, Prod.eta, Option.isSome_none, Option.isSome_some, Int.toNat_zero, Nat.reduceAdd, Nat.reduceMul, Nat.reduceSub, Nat.reduceEqDiff, Nat.reduceLT, Nat.reduceLeDiff, Nat.reduceShiftRight, Nat.reduceMod, Nat.reduceBEq, reduceCtorEq, reduceIte, reduceDIte, Int.reduceNeg, Bool.not_eq_true', Bool.not_eq_false', Bool.or_eq_true, Bool.or_eq_false_iff, Bool.and_eq_true, Bool.and_eq_false_iff, decide_eq_true_eq, decide_eq_false_iff_not, Classical.not_not, not_or, maxLen, con43, con44, con53, con62, hT, hG, hk, hK, Tryz.results43] at hwf ⊢); (try simp (disch := decide +kernel) only [drawn, true_and, and_true])
    (repeat' (with_reducible (first | refine And.intro ?_ ?_ | intro _))) <;> (try (first | with_reducible (first | done | assumption | omega | contradiction) | decide))
    · have h : (p.length : Int) > 0 := by assumption
      unfold proofV; rw [if_pos h]
    · have h0 : ¬ (p.length : Int) > 0 := by assumption
      have h : ascF q = false := by assumption
      unfold proofV; rw [if_neg h0, if_pos h]
    · have h0 : ¬ (p.length : Int) > 0 := by assumption
      have h1 : ascF q = true := by assumption
      have e0 : proofV l cs p t q = if q.all (isPlanned l) = false then 6 else if q.all (fun f => isOpenV (depAt l (findV l f)) t) = false then 7 else if (q.length : Int) ≤ cs.length then 8 else 0 := by
        unfold proofV; rw [if_neg h0, if_neg (by rw [h1]; simp)]
      refine evk_loop ⟨{ i : Nat // i ≤ q.length ∧ (q.take i).all (isPlanned l) = true }, 1000,
        fun i => [(0, .one (.sl (.pair (.pair .str (.pair (.int .i64) (.pair .str (.int .i64)))) (.pair .str (.pair (.int .i64) (.pair (.int .i64) (.pair (.int .i64) (.pair (.int .i64) (.int .i64))))))) l false)), (1, .one (.sl (.int .i64) cs false)), (5, .one (.loc 70 0)), (21, .one (.sl (.pair .str (.pair (.int .i64) (.pair .str (.int .i64)))) q false)), (22, .one (.int .i64 q.length)), (23, .one (.int .i64 i.1))],
        fun _ => [(70, .cells 34 (expl (.pair (.sl (.pair (.pair .str (.pair (.int .i64) (.pair .str (.int .i64)))) (.int .i64))) (.pair (.int .i64) (.sl (.pair .str (.pair (.int .i64) (.pair .str (.int .i64))))))) (p, t, q)))], fun i => q.length - i.1⟩ ⟨0, by simp, by simp⟩ ?_ ?_
      · simp only [go_sem, Prod.eta, Option.isSome_none, Option.isSome_some, Int.toNat_zero, Nat.reduceAdd, Nat.reduceMul, Nat.reduceSub, Nat.reduceEqDiff, Nat.reduceLT, Nat.reduceLeDiff, Nat.reduceShiftRight, Nat.reduceMod, Nat.reduceBEq, reduceCtorEq, reduceIte, reduceDIte, Int.reduceNeg]
        first
          | rfl
          | skip
      · rintro ⟨i, (hi : i ≤ q.length), (hx : (q.take i).all (isPlanned l) = true)⟩
        (simp only [go_sem, Prod.eta, Option.isSome_none, Option.isSome_some, Int.toNat_zero, Nat.reduceAdd, Nat.reduceMul, Nat.reduceSub, Nat.reduceEqDiff, Nat.reduceLT, Nat.reduceLeDiff, Nat.reduceShiftRight, Nat.reduceMod, Nat.reduceBEq, reduceCtorEq, reduceIte, reduceDIte, Int.reduceNeg, Bool.not_eq_true', Bool.not_eq_false', Bool.or_eq_true, Bool.or_eq_false_iff, Bool.and_eq_true, Bool.and_eq_false_iff, decide_eq_true_eq, decide_eq_false_iff_not, Classical.not_not, not_or, maxLen, con43, con44, con53, con62, hT, hG, hk, hK, Tryz.results43]); (try simp (disch := decide +kernel) only [drawn, true_and, and_true])
        refine ⟨fun hlt => ?_, fun hge => ?_⟩
        · have hi' : i < q.length := by omega
          have ek : ∀ z, q.getD (i : Int).toNat z = q[i] := fun z => by simp [hi']
          simp only [ek]
          have hb := find_bd l q[i]
          have hpl : isPlanned l q[i] = (decide (0 ≤ findV l q[i]) && decide ((depAt l (findV l q[i])).state = 0)) := rfl
          have hst : isPlanned l q[i] = true → (q.take (i + 1)).all (isPlanned l) = true := fun h => by
            rw [List.take_succ_eq_append_getElem hi', List.all_append, hx, List.all_cons, h]; rfl
          (repeat' (with_reducible (first | refine And.intro ?_ ?_ | intro _))) <;> (try (first | with_reducible (first | done | assumption | omega | contradiction) | decide))
          · have h : findV l q[i] < 0 ∨ ¬ (depAt l (findV l q[i])).state = 0 := by assumption
            have hf : isPlanned l q[i] = false := by
              rw [hpl]
              rcases h with h | h
              · rw [decide_eq_false (by omega)]; rfl
              · rw [decide_eq_false h, Bool.and_false]
            rw [e0, if_pos]
            rw [List.all_eq_false]
            exact ⟨q[i], List.getElem_mem hi', by rw [hf]; simp⟩
          · have h : ¬ findV l q[i] < 0 ∧ (depAt l (findV l q[i])).state = 0 := by assumption
            refine fin_lp ⟨i + 1, by omega, hst (by rw [hpl, decide_eq_true (by omega), decide_eq_true h.2]; rfl)⟩ (by simp only [go_sem, Prod.eta, Option.isSome_none, Option.isSome_some, Int.toNat_zero, Nat.reduceAdd, Nat.reduceMul, Nat.reduceSub, Nat.reduceEqDiff, Nat.reduceLT, Nat.reduceLeDiff, Nat.reduceShiftRight, Nat.reduceMod, Nat.reduceBEq, reduceCtorEq, reduceIte, reduceDIte, Int.reduceNeg]; first | rfl | ((repeat' apply And.intro) <;> first | rfl | assumption | omega)) (by dsimp only; omega)
        · rw [List.take_of_length_le (by omega)] at hx
          have e1 : proofV l cs p t q = if q.all (fun f => isOpenV (depAt l (findV l f)) t) = false then 7 else if (q.length : Int) ≤ cs.length then 8 else 0 := by
            rw [e0, if_neg (by rw [hx]; simp)]
          (repeat' (with_reducible (first | refine And.intro ?_ ?_ | intro _))) <;> (try (first | with_reducible (first | done | assumption | omega | contradiction) | decide))
          refine evk_loop ⟨{ i : Nat // i ≤ q.length ∧ (q.take i).all (fun f => isOpenV (depAt l (findV l f)) t) = true }, 2000,
            fun i => [(0, .one (.sl (.pair (.pair .str (.pair (.int .i64) (.pair .str (.int .i64)))) (.pair .str (.pair (.int .i64) (.pair (.int .i64) (.pair (.int .i64) (.pair (.int .i64) (.int .i64))))))) l false)), (1, .one (.sl (.int .i64) cs false)), (5, .one (.loc 70 0)), (42, .one (.sl (.pair .str (.pair (.int .i64) (.pair .str (.int .i64)))) q false)), (43, .one (.int .i64 q.length)), (44, .one (.int .i64 i.1))],
            fun _ => [(70, .cells 34 (expl (.pair (.sl (.pair (.pair .str (.pair (.int .i64) (.pair .str (.int .i64)))) (.int .i64))) (.pair (.int .i64) (.sl (.pair .str (.pair (.int .i64) (.pair .str (.int .i64))))))) (p, t, q)))], fun i => q.length - i.1⟩ ⟨0, by simp, by simp⟩ ?_ ?_
          · simp only [go_sem, Prod.eta, Option.isSome_none, Option.isSome_some, Int.toNat_zero, Nat.reduceAdd, Nat.reduceMul, Nat.reduceSub, Nat.reduceEqDiff, Nat.reduceLT, Nat.reduceLeDiff, Nat.reduceShiftRight, Nat.reduceMod, Nat.reduceBEq, reduceCtorEq, reduceIte, reduceDIte, Int.reduceNeg]
            first
              | rfl
              | skip
          · rintro ⟨i, (hi : i ≤ q.length), (hx2 : (q.take i).all (fun f => isOpenV (depAt l (findV l f)) t) = true)⟩
            (simp only [go_sem, Prod.eta, Option.isSome_none, Option.isSome_some, Int.toNat_zero, Nat.reduceAdd, Nat.reduceMul, Nat.reduceSub, Nat.reduceEqDiff, Nat.reduceLT, Nat.reduceLeDiff, Nat.reduceShiftRight, Nat.reduceMod, Nat.reduceBEq, reduceCtorEq, reduceIte, reduceDIte, Int.reduceNeg, Bool.not_eq_true', Bool.not_eq_false', Bool.or_eq_true, Bool.or_eq_false_iff, Bool.and_eq_true, Bool.and_eq_false_iff, decide_eq_true_eq, decide_eq_false_iff_not, Classical.not_not, not_or, maxLen, con43, con44, con53, con62, hT, hG, hk, hK, Tryz.results43]); (try simp (disch := decide +kernel) only [drawn, true_and, and_true])
            refine ⟨fun hlt => ?_, fun hge => ?_⟩
            · have hi' : i < q.length := by omega
              have ek : ∀ z, q.getD (i : Int).toNat z = q[i] := fun z => by simp [hi']
              simp only [ek]
              have hb := find_bd l q[i]
              have hpl : isPlanned l q[i] = true := List.all_eq_true.1 hx _ (List.getElem_mem hi')
              unfold isPlanned at hpl
              simp only [Bool.and_eq_true, decide_eq_true_eq] at hpl
              have hst : isOpenV (depAt l (findV l q[i])) t = true → (q.take (i + 1)).all (fun f => isOpenV (depAt l (findV l f)) t) = true := fun h => by
                rw [List.take_succ_eq_append_getElem hi', List.all_append, hx2, List.all_cons, h]; rfl
              (repeat' (with_reducible (first | refine And.intro ?_ ?_ | intro _))) <;> (try (first | with_reducible (first | done | assumption | omega | contradiction) | decide))
              · have h : isOpenV (depAt l (findV l q[i])) t = false := by assumption
                rw [e1, if_pos]
                rw [List.all_eq_false]
                exact ⟨q[i], List.getElem_mem hi', by rw [h]; simp⟩
              · have h : isOpenV (depAt l (findV l q[i])) t = true := by assumption
                refine fin_lp ⟨i + 1, by omega, hst h⟩ (by simp only [go_sem, Prod.eta, Option.isSome_none, Option.isSome_some, Int.toNat_zero, Nat.reduceAdd, Nat.reduceMul, Nat.reduceSub, Nat.reduceEqDiff, Nat.reduceLT, Nat.reduceLeDiff, Nat.reduceShiftRight, Nat.reduceMod, Nat.reduceBEq, reduceCtorEq, reduceIte, reduceDIte, Int.reduceNeg]; first | rfl | ((repeat' apply And.intro) <;> first | rfl | assumption | omega)) (by dsimp only; omega)
            · rw [List.take_of_length_le (by omega)] at hx2
              have e2 : proofV l cs p t q = if (q.length : Int) ≤ cs.length then 8 else 0 := by
                rw [e1, if_neg (by rw [hx2]; simp)]
              (repeat' (with_reducible (first | refine And.intro ?_ ?_ | intro _))) <;> (try (first | with_reducible (first | done | assumption | omega | contradiction) | decide))
              all_goals rename_i h
              all_goals first
                | (rw [e2, if_pos h]; done)
                | (rw [e2, if_neg h]; done))
def clashAt (p : List All) (a : List Dep) (i k : Nat) : Bool :=
  decide ((p.getD i ((ByteArray.empty, 0, ByteArray.empty, 0), 0)).2 = (p.getD k ((ByteArray.empty, 0, ByteArray.empty, 0), 0)).2) && overV (depAt a i) (depAt a k)
def noClash (p : List All) (a : List Dep) (i : Nat) : Bool := (List.range i).all fun k => !clashAt p a i k
def planC (l : List Dep) (cs : List Int) (p : List All) : Int :=
  if ascF (keysOf p) = false then 9 else if ¬ keysOf p = (planV l).map (fun d => d.1) then 6 else if p.all (fun a => decide (idxF (fun y : Int => decide (a.2 = y)) cs 0 ≥ 0)) = false then 1 else if (List.range (planV l).length).all (noClash p (planV l)) = false then 7 else 0
def checkV (l : List Dep) (cs : List Int) (p : List All) (t : Int) (q : List Flt) : Int :=
  if ¬ argsV l cs = 0 then argsV l cs else if (q.length : Int) > 0 then proofV l cs p t q else if ¬ t = 0 then 4 else planC l cs p
def con17 : Con := { ps := [.d false (.sl (.pair (.pair .str (.pair (.int .i64) (.pair .str (.int .i64)))) (.pair .str (.pair (.int .i64) (.pair (.int .i64) (.pair (.int .i64) (.pair (.int .i64) (.int .i64)))))))), .d false (.sl (.int .i64)), .d true (.pair (.sl (.pair (.pair .str (.pair (.int .i64) (.pair .str (.int .i64)))) (.int .i64))) (.pair (.int .i64) (.sl (.pair .str (.pair (.int .i64) (.pair .str (.int .i64)))))))], rs := [.d false (.int .i64)], pre := fun (x : List Dep × List Int × Mk × Unit) => x.1.length ≤ 1048576 ∧ x.2.2.1.1.length ≤ 1048576, out := fun (x : List Dep × List Int × Mk × Unit) => (checkV x.1 x.2.1 x.2.2.1.1 x.2.2.1.2.1 x.2.2.1.2.2, ()), nw := id }
theorem c17 : CtrOk Tryz.prog 17 con17.ctr :=
  con_sound (G := ⟨[(22, con22.ctr), (25, con25.ctr), (43, con43.ctr), (44, con44.ctr), (45, con45.ctr), (46, con46.ctr), (47, con47.ctr)], [], []⟩) tab_ok (EnvOk.cons c22 has22 (EnvOk.cons c25 has25 (EnvOk.cons c43 has43 (EnvOk.cons c44 has44 (EnvOk.cons c45 has45 (EnvOk.cons c46 has46 (EnvOk.cons c47 has47 EnvOk.nil))))))) rfl Tryz.func17 rfl con17 83076754341373693128188293101891047 (by kernel_rfl) (by decide) (by decide) rfl (by decide) rfl (by
    rintro ⟨(l : List Dep), (cs : List Int), ⟨(p : List All), (t : Int), (q : List Flt)⟩, _⟩ hpre hwf X hT hG hk hK
    obtain ⟨hl, hpl⟩ : l.length ≤ 1048576 ∧ p.length ≤ 1048576 := hpre
    (simp only [go_sem, Prod.eta, Option.isSome_none, Option.isSome_some, Int.toNat_zero, Nat.reduceAdd, Nat.reduceMul, Nat.reduceSub, Nat.reduceEqDiff, Nat.reduceLT, Nat.reduceLeDiff, Nat.reduceShiftRight, Nat.reduceMod, Nat.reduceBEq, reduceCtorEq, reduceIte, reduceDIte, Int.reduceNeg, Bool.not_eq_true', Bool.not_eq_false', Bool.or_eq_true, Bool.or_eq_false_iff, Bool.and_eq_true, Bool.and_eq_false_iff, decide_eq_true_eq, decide_eq_false_iff_not, Classical.not_not, not_or, maxLen, con17, con22, con25, con43, con44, con45, con46, con47, hT, hG, hk, hK, Tryz.results17] at hwf ⊢); (try simp (disch := decide +kernel) only [drawn, true_and, and_true])
    (repeat' (with_reducible (first | refine And.intro ?_ ?_ | intro _))) <;> (try (first | with_reducible (first | done | assumption | omega | contradiction) | decide))
    · have h : ¬ argsV l cs = 0 := by assumption
      unfold checkV; rw [if_pos h]
    · have h0 : argsV l cs = 0 := by assumption
      have h : (q.length : Int) > 0 := by assumption
      unfold checkV; rw [if_neg (by omega), if_pos h]
    · have h0 : argsV l cs = 0 := by assumption
      have h1 : ¬ (q.length : Int) > 0 := by assumption
      have h : ¬ t = 0 := by assumption
      unfold checkV; rw [if_neg (by omega), if_neg h1, if_pos h]
    · have h0 : argsV l cs = 0 := by assumption
      have h1 : ¬ (q.length : Int) > 0 := by assumption
      have h2 : t = 0 := by assumption
      have ev : checkV l cs p t q = planC l cs p := by
        unfold checkV; rw [if_neg (by omega), if_neg h1, if_neg (by omega)]
      have hA : (planV l).length ≤ 1048576 := Nat.le_trans (planV_len l) hl
      refine evk_loop ⟨{ i : Nat // i ≤ p.length }, 1000,
        fun i => [(0, .one (.sl (.pair (.pair .str (.pair (.int .i64) (.pair .str (.int .i64)))) (.pair .str (.pair (.int .i64) (.pair (.int .i64) (.pair (.int .i64) (.pair (.int .i64) (.int .i64))))))) l false)), (1, .one (.sl (.int .i64) cs false)), (5, .one (.loc 70 0)), (8, .one (.row 64)), (37, .one (.sl (.pair (.pair .str (.pair (.int .i64) (.pair .str (.int .i64)))) (.int .i64)) p false)), (38, .one (.int .i64 p.length)), (39, .one (.int .i64 i.1))],
        fun i => [(70, .cells 34 (expl (.pair (.sl (.pair (.pair .str (.pair (.int .i64) (.pair .str (.int .i64)))) (.int .i64))) (.pair (.int .i64) (.sl (.pair .str (.pair (.int .i64) (.pair .str (.int .i64))))))) (p, t, q))), (64, .row 50 (.pair .str (.pair (.int .i64) (.pair .str (.int .i64)))) (keysOf (p.take i.1)))], fun i => p.length - i.1⟩ ⟨0, by simp⟩ ?_ ?_
      · simp only [go_sem, Prod.eta, Option.isSome_none, Option.isSome_some, Int.toNat_zero, Nat.reduceAdd, Nat.reduceMul, Nat.reduceSub, Nat.reduceEqDiff, Nat.reduceLT, Nat.reduceLeDiff, Nat.reduceShiftRight, Nat.reduceMod, Nat.reduceBEq, reduceCtorEq, reduceIte, reduceDIte, Int.reduceNeg]
        exact ⟨rfl, rfl⟩
      · rintro ⟨i, (hi : i ≤ p.length)⟩
        (simp only [go_sem, Prod.eta, Option.isSome_none, Option.isSome_some, Int.toNat_zero, Nat.reduceAdd, Nat.reduceMul, Nat.reduceSub, Nat.reduceEqDiff, Nat.reduceLT, Nat.reduceLeDiff, Nat.reduceShiftRight, Nat.reduceMod, Nat.reduceBEq, reduceCtorEq, reduceIte, reduceDIte, Int.reduceNeg, Bool.not_eq_true', Bool.not_eq_false', Bool.or_eq_true, Bool.or_eq_false_iff, Bool.and_eq_true, Bool.and_eq_false_iff, decide_eq_true_eq, decide_eq_false_iff_not, Classical.not_not, not_or, maxLen, con17, con22, con25, con43, con44, con45, con46, con47, hT, hG, hk, hK, Tryz.results17]); (try simp (disch := decide +kernel) only [drawn, true_and, and_true])
        refine ⟨fun hlt => ?_, fun hge => ?_⟩
        · have hi' : i < p.length := by omega
          have ek : ∀ z, p.getD (i : Int).toNat z = p[i] := fun z => by simp [hi']
          simp only [ek]
          have hst : keysOf (p.take (i + 1)) = keysOf (p.take i) ++ [p[i].1] := by
            unfold keysOf
            rw [List.take_succ_eq_append_getElem hi', List.map_append]; rfl
          have hkl : (keysOf (p.take i)).length = i := by
            unfold keysOf
            rw [List.length_map, List.length_take]; omega
          (repeat' (with_reducible (first | refine And.intro ?_ ?_ | intro _))) <;> (try (first | with_reducible (first | done | assumption | omega | contradiction) | decide))
          refine fin_lp ⟨i + 1, by omega⟩ ?_ ?_
          · simp only [go_sem, Prod.eta, Option.isSome_none, Option.isSome_some, Int.toNat_zero, Nat.reduceAdd, Nat.reduceMul, Nat.reduceSub, Nat.reduceEqDiff, Nat.reduceLT, Nat.reduceLeDiff, Nat.reduceShiftRight, Nat.reduceMod, Nat.reduceBEq, reduceCtorEq, reduceIte, reduceDIte, Int.reduceNeg]
            rw [hst]
            first
              | exact ⟨rfl, rfl⟩
              | rfl
          · dsimp only; omega
        · rw [List.take_of_length_le (by omega)]
          (repeat' (with_reducible (first | refine And.intro ?_ ?_ | intro _))) <;> (try (first | with_reducible (first | done | assumption | omega | contradiction) | decide))
          · have h : ascF (keysOf p) = false := by assumption
            rw [ev]; unfold planC; rw [if_pos h]
          · have h3 : ascF (keysOf p) = true := by assumption
            have e1 : planC l cs p = if ¬ keysOf p = (planV l).map (fun d => d.1) then 6 else if p.all (fun a => decide (idxF (fun y : Int => decide (a.2 = y)) cs 0 ≥ 0)) = false then 1 else if (List.range (planV l).length).all (noClash p (planV l)) = false then 7 else 0 := by
              unfold planC; rw [if_neg (by rw [h3]; simp)]
            generalize hAe : planV l = A at *
            refine evk_loop ⟨{ i : Nat // i ≤ A.length }, 2000,
              fun i => [(0, .one (.sl (.pair (.pair .str (.pair (.int .i64) (.pair .str (.int .i64)))) (.pair .str (.pair (.int .i64) (.pair (.int .i64) (.pair (.int .i64) (.pair (.int .i64) (.int .i64))))))) l false)), (1, .one (.sl (.int .i64) cs false)), (5, .one (.loc 70 0)), (8, .one (.row 64)), (11, .one (.row 65)), (53, .one (.row 66)), (54, .one (.int .i64 A.length)), (55, .one (.int .i64 i.1))],
              fun i => [(70, .cells 34 (expl (.pair (.sl (.pair (.pair .str (.pair (.int .i64) (.pair .str (.int .i64)))) (.int .i64))) (.pair (.int .i64) (.sl (.pair .str (.pair (.int .i64) (.pair .str (.int .i64))))))) (p, t, q))), (64, .row 50 (.pair .str (.pair (.int .i64) (.pair .str (.int .i64)))) (keysOf p)), (65, .row 50 (.pair .str (.pair (.int .i64) (.pair .str (.int .i64)))) ((A.take i.1).map (fun d => d.1))), (66, .row 54 (.pair (.pair .str (.pair (.int .i64) (.pair .str (.int .i64)))) (.pair .str (.pair (.int .i64) (.pair (.int .i64) (.pair (.int .i64) (.pair (.int .i64) (.int .i64))))))) A)], fun i => A.length - i.1⟩ ⟨0, by simp⟩ ?_ ?_
            · simp only [go_sem, Prod.eta, Option.isSome_none, Option.isSome_some, Int.toNat_zero, Nat.reduceAdd, Nat.reduceMul, Nat.reduceSub, Nat.reduceEqDiff, Nat.reduceLT, Nat.reduceLeDiff, Nat.reduceShiftRight, Nat.reduceMod, Nat.reduceBEq, reduceCtorEq, reduceIte, reduceDIte, Int.reduceNeg]
              rfl
            · rintro ⟨i, (hi : i ≤ A.length)⟩
              (simp only [go_sem, Prod.eta, Option.isSome_none, Option.isSome_some, Int.toNat_zero, Nat.reduceAdd, Nat.reduceMul, Nat.reduceSub, Nat.reduceEqDiff, Nat.reduceLT, Nat.reduceLeDiff, Nat.reduceShiftRight, Nat.reduceMod, Nat.reduceBEq, reduceCtorEq, reduceIte, reduceDIte, Int.reduceNeg, Bool.not_eq_true', Bool.not_eq_false', Bool.or_eq_true, Bool.or_eq_false_iff, Bool.and_eq_true, Bool.and_eq_false_iff, decide_eq_true_eq, decide_eq_false_iff_not, Classical.not_not, not_or, maxLen, con17, con22, con25, con43, con44, con45, con46, con47, hT, hG, hk, hK, Tryz.results17]); (try simp (disch := decide +kernel) only [drawn, true_and, and_true])
              refine ⟨fun hlt => ?_, fun hge => ?_⟩
              · have hi' : i < A.length := by omega
                have ek : ∀ z, A.getD (i : Int).toNat z = A[i] := fun z => by simp [hi']
                simp only [ek]
                have hst : (A.take (i + 1)).map (fun d => d.1) = (A.take i).map (fun d => d.1) ++ [A[i].1] := by
                  rw [List.take_succ_eq_append_getElem hi', List.map_append]; rfl
                have hkl : ((A.take i).map (fun d => d.1)).length = i := by
                  rw [List.length_map, List.length_take]; omega
                (repeat' (with_reducible (first | refine And.intro ?_ ?_ | intro _))) <;> (try (first | with_reducible (first | done | assumption | omega | contradiction) | decide))
                refine fin_lp ⟨i + 1, by omega⟩ ?_ ?_
                · simp only [go_sem, Prod.eta, Option.isSome_none, Option.isSome_some, Int.toNat_zero, Nat.reduceAdd, Nat.reduceMul, Nat.reduceSub, Nat.reduceEqDiff, Nat.reduceLT, Nat.reduceLeDiff, Nat.reduceShiftRight, Nat.reduceMod, Nat.reduceBEq, reduceCtorEq, reduceIte, reduceDIte, Int.reduceNeg]
                  rw [hst]
                  first
                    | exact ⟨rfl, rfl⟩
                    | rfl
                · dsimp only; omega
              · rw [List.take_of_length_le (by omega)]
                (repeat' (with_reducible (first | refine And.intro ?_ ?_ | intro _))) <;> (try (first | with_reducible (first | done | assumption | omega | contradiction) | decide))
                · have h : ¬ keysOf p = A.map (fun d => d.1) := by assumption
                  rw [ev, e1, if_pos h]
                · have h4 : keysOf p = A.map (fun d => d.1) := by assumption
                  have e2 : planC l cs p = if p.all (fun a => decide (idxF (fun y : Int => decide (a.2 = y)) cs 0 ≥ 0)) = false then 1 else if (List.range A.length).all (noClash p A) = false then 7 else 0 := by
                    rw [e1, if_neg (fun k => k h4)]
                  have hpA : p.length = A.length := by
                    have := congrArg List.length h4
                    unfold keysOf at this
                    rwa [List.length_map, List.length_map] at this
                  refine evk_loop ⟨{ i : Nat // i ≤ p.length ∧ (p.take i).all (fun a => decide (idxF (fun y : Int => decide (a.2 = y)) cs 0 ≥ 0)) = true }, 3000,
                    fun i => [(0, .one (.sl (.pair (.pair .str (.pair (.int .i64) (.pair .str (.int .i64)))) (.pair .str (.pair (.int .i64) (.pair (.int .i64) (.pair (.int .i64) (.pair (.int .i64) (.int .i64))))))) l false)), (1, .one (.sl (.int .i64) cs false)), (5, .one (.loc 70 0)), (70, .one (.sl (.pair (.pair .str (.pair (.int .i64) (.pair .str (.int .i64)))) (.int .i64)) p false)), (71, .one (.int .i64 p.length)), (72, .one (.int .i64 i.1))],
                    fun i => [(70, .cells 34 (expl (.pair (.sl (.pair (.pair .str (.pair (.int .i64) (.pair .str (.int .i64)))) (.int .i64))) (.pair (.int .i64) (.sl (.pair .str (.pair (.int .i64) (.pair .str (.int .i64))))))) (p, t, q)))], fun i => p.length - i.1⟩ ⟨0, by simp, by simp⟩ ?_ ?_
                  · simp only [go_sem, Prod.eta, Option.isSome_none, Option.isSome_some, Int.toNat_zero, Nat.reduceAdd, Nat.reduceMul, Nat.reduceSub, Nat.reduceEqDiff, Nat.reduceLT, Nat.reduceLeDiff, Nat.reduceShiftRight, Nat.reduceMod, Nat.reduceBEq, reduceCtorEq, reduceIte, reduceDIte, Int.reduceNeg]
                    rfl
                  · rintro ⟨i, (hi : i ≤ p.length), (hx : (p.take i).all (fun a => decide (idxF (fun y : Int => decide (a.2 = y)) cs 0 ≥ 0)) = true)⟩
                    (simp only [go_sem, Prod.eta, Option.isSome_none, Option.isSome_some, Int.toNat_zero, Nat.reduceAdd, Nat.reduceMul, Nat.reduceSub, Nat.reduceEqDiff, Nat.reduceLT, Nat.reduceLeDiff, Nat.reduceShiftRight, Nat.reduceMod, Nat.reduceBEq, reduceCtorEq, reduceIte, reduceDIte, Int.reduceNeg, Bool.not_eq_true', Bool.not_eq_false', Bool.or_eq_true, Bool.or_eq_false_iff, Bool.and_eq_true, Bool.and_eq_false_iff, decide_eq_true_eq, decide_eq_false_iff_not, Classical.not_not, not_or, maxLen, con17, con22, con25, con43, con44, con45, con46, con47, hT, hG, hk, hK, Tryz.results17]); (try simp (disch := decide +kernel) only [drawn, true_and, and_true])
                    refine ⟨fun hlt => ?_, fun hge => ?_⟩
                    · have hi' : i < p.length := by omega
                      have ek : ∀ z, p.getD (i : Int).toNat z = p[i] := fun z => by simp [hi']
                      simp only [ek]
                      (repeat' (with_reducible (first | refine And.intro ?_ ?_ | intro _))) <;> (try (first | with_reducible (first | done | assumption | omega | contradiction) | decide))
                      · rename_i h
                        rw [ev, e2, if_pos]
                        rw [List.all_eq_false]
                        exact ⟨p[i], List.getElem_mem hi', by rw [decide_eq_true_eq]; exact h⟩
                      · rename_i h
                        refine fin_lp ⟨i + 1, by omega, by rw [List.take_succ_eq_append_getElem hi', List.all_append, hx, List.all_cons, decide_eq_true h]; rfl⟩ (by simp only [go_sem, Prod.eta, Option.isSome_none, Option.isSome_some, Int.toNat_zero, Nat.reduceAdd, Nat.reduceMul, Nat.reduceSub, Nat.reduceEqDiff, Nat.reduceLT, Nat.reduceLeDiff, Nat.reduceShiftRight, Nat.reduceMod, Nat.reduceBEq, reduceCtorEq, reduceIte, reduceDIte, Int.reduceNeg]; first | rfl | ((repeat' apply And.intro) <;> first | rfl | assumption | omega)) (by dsimp only; omega)
                    · rw [List.take_of_length_le (by omega)] at hx
                      have e3 : planC l cs p = if (List.range A.length).all (noClash p A) = false then 7 else 0 := by
                        rw [e2, if_neg (by rw [hx]; simp)]
                      rw [hAe]
                      (repeat' (with_reducible (first | refine And.intro ?_ ?_ | intro _))) <;> (try (first | with_reducible (first | done | assumption | omega | contradiction) | decide))
                      refine evk_loop ⟨{ i : Nat // i ≤ A.length ∧ (List.range i).all (noClash p A) = true }, 4000,
                        fun i => [(5, .one (.loc 70 0)), (16, .one (.row 66)), (85, .one (.int .i64 A.length)), (86, .one (.int .i64 i.1))],
                        fun i => [(70, .cells 34 (expl (.pair (.sl (.pair (.pair .str (.pair (.int .i64) (.pair .str (.int .i64)))) (.int .i64))) (.pair (.int .i64) (.sl (.pair .str (.pair (.int .i64) (.pair .str (.int .i64))))))) (p, t, q))), (66, .row 54 (.pair (.pair .str (.pair (.int .i64) (.pair .str (.int .i64)))) (.pair .str (.pair (.int .i64) (.pair (.int .i64) (.pair (.int .i64) (.pair (.int .i64) (.int .i64))))))) A)], fun i => A.length - i.1⟩ ⟨0, by simp, by simp⟩ ?_ ?_
                      · simp only [go_sem, Prod.eta, Option.isSome_none, Option.isSome_some, Int.toNat_zero, Nat.reduceAdd, Nat.reduceMul, Nat.reduceSub, Nat.reduceEqDiff, Nat.reduceLT, Nat.reduceLeDiff, Nat.reduceShiftRight, Nat.reduceMod, Nat.reduceBEq, reduceCtorEq, reduceIte, reduceDIte, Int.reduceNeg]
                        rfl
                      · rintro ⟨i, (hi : i ≤ A.length), (hy : (List.range i).all (noClash p A) = true)⟩
                        (simp only [go_sem, Prod.eta, Option.isSome_none, Option.isSome_some, Int.toNat_zero, Nat.reduceAdd, Nat.reduceMul, Nat.reduceSub, Nat.reduceEqDiff, Nat.reduceLT, Nat.reduceLeDiff, Nat.reduceShiftRight, Nat.reduceMod, Nat.reduceBEq, reduceCtorEq, reduceIte, reduceDIte, Int.reduceNeg, Bool.not_eq_true', Bool.not_eq_false', Bool.or_eq_true, Bool.or_eq_false_iff, Bool.and_eq_true, Bool.and_eq_false_iff, decide_eq_true_eq, decide_eq_false_iff_not, Classical.not_not, not_or, maxLen, con17, con22, con25, con43, con44, con45, con46, con47, hT, hG, hk, hK, Tryz.results17]); (try simp (disch := decide +kernel) only [drawn, true_and, and_true])
                        refine ⟨fun hlt => ?_, fun hge => ?_⟩
                        · have hi' : i < A.length := by omega
                          (repeat' (with_reducible (first | refine And.intro ?_ ?_ | intro _))) <;> (try (first | with_reducible (first | done | assumption | omega | contradiction) | decide))
                          refine evk_loop ⟨{ k : Nat // k ≤ i ∧ (List.range k).all (fun k => !clashAt p A i k) = true }, 5000,
                            fun k => [(5, .one (.loc 70 0)), (16, .one (.row 66)), (17, .one (.int .i64 i)), (85, .one (.int .i64 A.length)), (86, .one (.int .i64 i)), (89, .one (.int .i64 i)), (90, .one (.int .i64 k.1))],
                            fun k => [(70, .cells 34 (expl (.pair (.sl (.pair (.pair .str (.pair (.int .i64) (.pair .str (.int .i64)))) (.int .i64))) (.pair (.int .i64) (.sl (.pair .str (.pair (.int .i64) (.pair .str (.int .i64))))))) (p, t, q))), (66, .row 54 (.pair (.pair .str (.pair (.int .i64) (.pair .str (.int .i64)))) (.pair .str (.pair (.int .i64) (.pair (.int .i64) (.pair (.int .i64) (.pair (.int .i64) (.int .i64))))))) A)], fun k => i - k.1⟩ ⟨0, by simp, by simp⟩ ?_ ?_
                          · simp only [go_sem, Prod.eta, Option.isSome_none, Option.isSome_some, Int.toNat_zero, Nat.reduceAdd, Nat.reduceMul, Nat.reduceSub, Nat.reduceEqDiff, Nat.reduceLT, Nat.reduceLeDiff, Nat.reduceShiftRight, Nat.reduceMod, Nat.reduceBEq, reduceCtorEq, reduceIte, reduceDIte, Int.reduceNeg]
                            rfl
                          · rintro ⟨k, (hk2 : k ≤ i), (hz : (List.range k).all (fun k => !clashAt p A i k) = true)⟩
                            (simp only [go_sem, Prod.eta, Option.isSome_none, Option.isSome_some, Int.toNat_zero, Nat.reduceAdd, Nat.reduceMul, Nat.reduceSub, Nat.reduceEqDiff, Nat.reduceLT, Nat.reduceLeDiff, Nat.reduceShiftRight, Nat.reduceMod, Nat.reduceBEq, reduceCtorEq, reduceIte, reduceDIte, Int.reduceNeg, Bool.not_eq_true', Bool.not_eq_false', Bool.or_eq_true, Bool.or_eq_false_iff, Bool.and_eq_true, Bool.and_eq_false_iff, decide_eq_true_eq, decide_eq_false_iff_not, Classical.not_not, not_or, maxLen, con17, con22, con25, con43, con44, con45, con46, con47, hT, hG, hk, hK, Tryz.results17]); (try simp (disch := decide +kernel) only [drawn, true_and, and_true])
                            refine ⟨fun hlt2 => ?_, fun hge2 => ?_⟩
                            · have ei : (i : Int).toNat = i := by omega
                              have ek2 : (k : Int).toNat = k := by omega
                              simp only [ei, ek2]
                              have hcl : clashAt p A i k = (decide ((p.getD i ((ByteArray.empty, 0, ByteArray.empty, 0), 0)).2 = (p.getD k ((ByteArray.empty, 0, ByteArray.empty, 0), 0)).2) && overV (A.getD i ((ByteArray.empty, 0, ByteArray.empty, 0), ByteArray.empty, 0, 0, 0, 0, 0)) (A.getD k ((ByteArray.empty, 0, ByteArray.empty, 0), ByteArray.empty, 0, 0, 0, 0, 0))) := rfl
                              generalize p.getD i ((ByteArray.empty, 0, ByteArray.empty, 0), 0) = u1 at hcl ⊢
                              generalize p.getD k ((ByteArray.empty, 0, ByteArray.empty, 0), 0) = u2 at hcl ⊢
                              generalize A.getD i ((ByteArray.empty, 0, ByteArray.empty, 0), ByteArray.empty, 0, 0, 0, 0, 0) = u3 at hcl ⊢
                              generalize A.getD k ((ByteArray.empty, 0, ByteArray.empty, 0), ByteArray.empty, 0, 0, 0, 0, 0) = u4 at hcl ⊢
                              (repeat' (with_reducible (first | refine And.intro ?_ ?_ | intro _))) <;> (try (first | with_reducible (first | done | assumption | omega | contradiction) | decide))
                              · have h : u1.2 = u2.2 ∧ overV u3 u4 = true := by assumption
                                have hc : clashAt p A i k = true := by rw [hcl, decide_eq_true h.1, h.2]; rfl
                                rw [ev, e3, if_pos]
                                rw [List.all_eq_false]
                                refine ⟨i, List.mem_range.2 hi', ?_⟩
                                unfold noClash
                                rw [Bool.not_eq_true, List.all_eq_false]
                                exact ⟨k, List.mem_range.2 (by omega), by rw [hc]; simp⟩
                              · have h : ¬ u1.2 = u2.2 ∨ overV u3 u4 = false := by assumption
                                have hc : clashAt p A i k = false := by
                                  rw [hcl]
                                  rcases h with h | h
                                  · rw [decide_eq_false h]; rfl
                                  · rw [h, Bool.and_false]
                                refine fin_lp ⟨k + 1, by omega, by rw [List.range_succ, List.all_append, hz, List.all_cons, hc]; rfl⟩ (by simp only [go_sem, Prod.eta, Option.isSome_none, Option.isSome_some, Int.toNat_zero, Nat.reduceAdd, Nat.reduceMul, Nat.reduceSub, Nat.reduceEqDiff, Nat.reduceLT, Nat.reduceLeDiff, Nat.reduceShiftRight, Nat.reduceMod, Nat.reduceBEq, reduceCtorEq, reduceIte, reduceDIte, Int.reduceNeg]; first | rfl | ((repeat' apply And.intro) <;> first | rfl | assumption | omega)) (by dsimp only; omega)
                            · have hki : k = i := by omega
                              subst hki
                              (repeat' (with_reducible (first | refine And.intro ?_ ?_ | intro _))) <;> (try (first | with_reducible (first | done | assumption | omega | contradiction) | decide))
                              refine fin_lp ⟨k + 1, by omega, by rw [List.range_succ, List.all_append, hy, List.all_cons]; unfold noClash; rw [hz]; rfl⟩ (by simp only [go_sem, Prod.eta, Option.isSome_none, Option.isSome_some, Int.toNat_zero, Nat.reduceAdd, Nat.reduceMul, Nat.reduceSub, Nat.reduceEqDiff, Nat.reduceLT, Nat.reduceLeDiff, Nat.reduceShiftRight, Nat.reduceMod, Nat.reduceBEq, reduceCtorEq, reduceIte, reduceDIte, Int.reduceNeg]; first | rfl | ((repeat' apply And.intro) <;> first | rfl | assumption | omega)) (by dsimp only; omega)
                        · have hAl : i = A.length := by omega
                          subst hAl
                          (repeat' (with_reducible (first | refine And.intro ?_ ?_ | intro _))) <;> (try (first | with_reducible (first | done | assumption | omega | contradiction) | decide))
                          rw [ev, e3, if_neg (by rw [hy]; simp)])
end Go.Proofs.YtdmgmdppejopcaaGreat

/- The contracts of the reference's functions: the order of flights, lists. -/
set_option linter.unusedSimpArgs false
set_option linter.unusedVariables false
set_option maxRecDepth 100000
set_option maxHeartbeats 4000000
namespace Go.Proofs.YtdmgmdppejopcaaGreat
open Go.Ev

theorem fltC_neg {a b : Flt} (h : fltC a b < 0) : fltC a b = -1 := by have := fltC_cmp.unit a b; omega
theorem fltC_pos {a b : Flt} (h0 : ¬ a = b) (h : ¬ fltC a b < 0) : fltC a b = 1 := by
  have := fltC_cmp.unit a b
  have : fltC a b ≠ 0 := fun k => h0 ((fltC_cmp.eq _ _).1 k)
  omega
theorem cmpS_lt (a b : ByteArray) : cmpS a b < 0 ↔ strLt a b = true := by
  unfold cmpS
  split
  · rename_i h; simp [h]
  · rename_i h; split <;> simp [h]
theorem strLt_self (a : ByteArray) : strLt a a = false := by
  cases h : strLt a a
  · rfl
  · exact absurd ((strLt_iff a a).1 h) (List.lt_irrefl _)
def con61 : Con := { ps := [.d true (.pair .str (.pair (.int .i64) (.pair .str (.int .i64)))), .d true (.pair .str (.pair (.int .i64) (.pair .str (.int .i64))))], rs := [.d false (.int .i64)], pre := fun _ => True, out := fun (x : Flt × Flt × Unit) => (fltC x.1 x.2.1, ()), nw := id }
theorem c61 : CtrOk Tryz.prog 61 con61.ctr :=
  con_sound (G := ⟨[], [], []⟩) tab_ok EnvOk.nil rfl Tryz.func61 rfl con61 6600292565567 (by kernel_rfl) (by decide) (by decide) rfl (by decide) rfl (by
    rintro ⟨(a : Flt), (b : Flt), _⟩ hpre hwf X hT hG hk hK
    obtain ⟨a1, (a2 : Int), a3, (a4 : Int)⟩ := a
    obtain ⟨b1, (b2 : Int), b3, (b4 : Int)⟩ := b
    (simp only [go_sem, Prod.eta, Option.isSome_none, Option.isSome_some, Int.toNat_zero, Nat.reduceAdd, Nat.reduceMul, Nat.reduceSub, Nat.reduceEqDiff, Nat.reduceLT, Nat.reduceLeDiff, Nat.reduceShiftRight, Nat.reduceMod, Nat.reduceBEq, reduceCtorEq, reduceIte, reduceDIte, Int.reduceNeg, Bool.not_eq_true', Bool.not_eq_false', Bool.or_eq_true, Bool.or_eq_false_iff, Bool.and_eq_true, Bool.and_eq_false_iff, decide_eq_true_eq, decide_eq_false_iff_not, Classical.not_not, not_or, maxLen, con61, hT, hG, hk, hK, Tryz.results61] at hwf ⊢); (try simp (disch := decide +kernel) only [drawn, true_and, and_true])
    have h2 : ¬ a2 = b2 → ¬ a2 < b2 → b2 < a2 := by omega
    have h4 : ¬ a4 = b4 → ¬ a4 < b4 → b4 < a4 := by omega
    (repeat' (with_reducible (first | refine And.intro ?_ ?_ | intro _))) <;> (try (first | with_reducible (first | done | assumption | omega | contradiction) | decide))
    all_goals simp_all [fltC, orV, cmpS, cmpV, strLt_self]
    · have n2 : ¬ a2 < b2 := by omega
      simp [n2]
    · have n4 : ¬ a4 < b4 := by omega
      simp [n4])
def con48 : Con := { ps := [.d false (.sl (.pair .str (.pair (.int .i64) (.pair .str (.int .i64)))))], rs := [.d false .bool], pre := fun _ => True, out := fun x => (ascF x.1, ()), nw := id }
theorem c48 : CtrOk Tryz.prog 48 con48.ctr :=
  con_sound (G := ⟨[(61, con61.ctr)], [], []⟩) tab_ok (EnvOk.cons c61 has61 EnvOk.nil) rfl Tryz.func48 rfl con48 1048717 (by kernel_rfl) (by decide) (by decide) rfl (by decide) rfl (by
    rintro ⟨(l : List Flt), _⟩ hpre hwf X hT hG hk hK
    (simp only [go_sem, Prod.eta, Option.isSome_none, Option.isSome_some, Int.toNat_zero, Nat.reduceAdd, Nat.reduceMul, Nat.reduceSub, Nat.reduceEqDiff, Nat.reduceLT, Nat.reduceLeDiff, Nat.reduceShiftRight, Nat.reduceMod, Nat.reduceBEq, reduceCtorEq, reduceIte, reduceDIte, Int.reduceNeg, Bool.not_eq_true', Bool.not_eq_false', Bool.or_eq_true, Bool.or_eq_false_iff, Bool.and_eq_true, Bool.and_eq_false_iff, decide_eq_true_eq, decide_eq_false_iff_not, Classical.not_not, not_or, maxLen, con48, con61, hT, hG, hk, hK, Tryz.results48] at hwf ⊢); (try simp (disch := decide +kernel) only [drawn, true_and, and_true])
    refine evk_loop ⟨{ i : Nat // (i ≤ l.length ∨ i = 0) ∧ ascF l = ascF (l.drop i) }, 1000, fun i => [(0, .one (.sl (.pair .str (.pair (.int .i64) (.pair .str (.int .i64)))) l false)), (3, .one (.int .i64 (i.1 + 1)))], fun _ => [], fun i => l.length - i.1⟩ ⟨0, by simp, by simp⟩ ?_ ?_
    · simp only [go_sem, Prod.eta, Option.isSome_none, Option.isSome_some, Int.toNat_zero, Nat.reduceAdd, Nat.reduceMul, Nat.reduceSub, Nat.reduceEqDiff, Nat.reduceLT, Nat.reduceLeDiff, Nat.reduceShiftRight, Nat.reduceMod, Nat.reduceBEq, reduceCtorEq, reduceIte, reduceDIte, Int.reduceNeg]
      rfl
    · rintro ⟨i, (hi : i ≤ l.length ∨ i = 0), (he : ascF l = ascF (l.drop i))⟩
      (simp only [go_sem, Prod.eta, Option.isSome_none, Option.isSome_some, Int.toNat_zero, Nat.reduceAdd, Nat.reduceMul, Nat.reduceSub, Nat.reduceEqDiff, Nat.reduceLT, Nat.reduceLeDiff, Nat.reduceShiftRight, Nat.reduceMod, Nat.reduceBEq, reduceCtorEq, reduceIte, reduceDIte, Int.reduceNeg, Bool.not_eq_true', Bool.not_eq_false', Bool.or_eq_true, Bool.or_eq_false_iff, Bool.and_eq_true, Bool.and_eq_false_iff, decide_eq_true_eq, decide_eq_false_iff_not, Classical.not_not, not_or, maxLen, con48, con61, hT, hG, hk, hK, Tryz.results48]); (try simp (disch := decide +kernel) only [drawn, true_and, and_true])
      intro hl
      refine ⟨fun hlt => ?_, fun hge => ?_⟩
      · have hi' : i < l.length := by omega
        have hi2 : i + 1 < l.length := by omega
        have ek : ∀ z, l.getD ((i : Int) + 1).toNat z = l[i + 1] := fun z => by
          rw [show ((i : Int) + 1).toNat = i + 1 by omega]; simp [hi2]
        have ek2 : ∀ z, l.getD ((i : Int) + 1 - 1).toNat z = l[i] := fun z => by
          rw [show ((i : Int) + 1 - 1).toNat = i by omega]; simp [hi']
        simp only [ek, ek2]
        have hst : ascF l = (decide (fltC l[i] l[i + 1] < 0) && ascF (l.drop (i + 1))) := by
          rw [he, List.drop_eq_getElem_cons hi', List.drop_eq_getElem_cons hi2, ascF]
        (repeat' (with_reducible (first | refine And.intro ?_ ?_ | intro _))) <;> (try (first | with_reducible (first | done | assumption | omega | contradiction) | decide))
        · rename_i h
          rw [hst, decide_eq_false (by omega)]
          rfl
        · rename_i h
          refine fin_lp ⟨i + 1, by omega, by rw [hst, decide_eq_true (by omega)]; rfl⟩ (by simp only [go_sem, Prod.eta, Option.isSome_none, Option.isSome_some, Int.toNat_zero, Nat.reduceAdd, Nat.reduceMul, Nat.reduceSub, Nat.reduceEqDiff, Nat.reduceLT, Nat.reduceLeDiff, Nat.reduceShiftRight, Nat.reduceMod, Nat.reduceBEq, reduceCtorEq, reduceIte, reduceDIte, Int.reduceNeg]; first | rfl | ((repeat' apply And.intro) <;> first | rfl | assumption | omega)) (by dsimp only; omega)
      · rw [he]
        rcases h : l.drop i with _ | ⟨a, _ | ⟨b, q⟩⟩
        · rfl
        · rfl
        · have := congrArg List.length h
          rw [List.length_drop] at this
          simp only [List.length_cons] at this
          omega)
end Go.Proofs.YtdmgmdppejopcaaGreat
