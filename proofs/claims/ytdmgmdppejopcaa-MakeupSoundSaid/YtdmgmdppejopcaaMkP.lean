/- The laws: a plan remains possible. -/
import Derived.Test.YtdmgmdppejopcaaMkO
set_option linter.unusedSimpArgs false
set_option linter.unusedVariables false
set_option maxRecDepth 100000
set_option maxHeartbeats 4000000
namespace Go.Proofs.Ytdmgmdppejopcaa
open Go.Ev

theorem chL_asc : ∀ (n : Nat) (s : Src) (c : Int), (chL n s c).1.length = n ∧ (∀ x ∈ (chL n s c).1, c < x ∧ x ≤ c + 3 * n) ∧ ascI (c :: (chL n s c).1) = true
  | 0, _, _ => ⟨rfl, (by intro x h; cases h), rfl⟩
  | n + 1, s, c => by
    have b3 := goMod_bd s.raw 3 (by omega)
    obtain ⟨h1, h2, h3⟩ := chL_asc n s.step (c + (1 + goMod s.raw 3))
    unfold chL
    refine ⟨by rw [List.length_cons, h1], fun x hx => ?_, ?_⟩
    · rcases List.mem_cons.1 hx with rfl | hx
      · omega
      · have := h2 x hx; omega
    · show (decide (c < _) && ascI (_ :: _)) = true
      rw [decide_eq_true (by omega), h3]
      rfl
theorem chutes_ok (s : Src) (n : Int) (h : 0 ≤ n) : ((chutesV s n).1.length : Int) ≤ n ∧ (∀ x ∈ (chutesV s n).1, 0 < x ∧ x ≤ 3 * n) ∧ ascI (chutesV s n).1 = true := by
  have hb := goMod_bd s.raw (n + 1) (by omega)
  obtain ⟨h1, h2, h3⟩ := chL_asc (goMod s.raw (n + 1)).toNat s.step 0
  unfold chutesV
  refine ⟨by omega, fun x hx => by have := h2 x hx; omega, ?_⟩
  have := ascI_tail h3
  simpa using this
/-- A departure cancelled. -/
theorem set_ok {l : List Dep} {i : Nat} {d : Dep} (hi : i < l.length) (hv : validateV l = 0) (hd1 : d.1 = (l[i]).1) (hd2 : validV d = true) (hl : l.length ≤ 24) : validateV (l.set i d) = 0 := by
  obtain ⟨g1, g2, g3⟩ := valid_ok hv
  refine validate_of (by rw [List.length_set]; exact hl) (fun e he => ?_) ?_
  · rcases List.mem_or_eq_of_mem_set he with h | rfl
    · exact g2 e h
    · exact hd2
  · rw [List.pairwise_iff_getElem] at g3 ⊢
    intro a b ha hb hab
    rw [List.length_set] at ha hb
    have := g3 a b ha hb hab
    rw [List.getElem_set, List.getElem_set]
    split
    · rename_i e
      subst e
      rw [if_neg (by omega), hd1]
      exact this
    · split
      · rename_i e
        subst e
        rw [hd1]
        exact this
      · exact this
theorem set_count {l : List Dep} {i : Nat} {d : Dep} (hi : i < l.length) (p : Dep → Bool) (hp : p d = false) : (l.set i d).countP p ≤ l.countP p := by
  induction l generalizing i with
  | nil => simp
  | cons a l ih =>
    cases i with
    | zero =>
      rw [List.set_cons_zero, List.countP_cons, List.countP_cons, hp]
      simp
    | succ i =>
      rw [List.set_cons_succ, List.countP_cons, List.countP_cons]
      have := ih (i := i) (by simpa using hi)
      omega
theorem set_plan {l : List Dep} {i : Nat} {d : Dep} (hi : i < l.length) (hs : d.state ≠ 0) : (planV (l.set i d)).length ≤ (planV l).length ∧ (peakV (l.set i d)).2 ≤ (peakV l).2 := by
  have h1 : (planV (l.set i d)).length ≤ (planV l).length := by
    unfold planV
    rw [← List.countP_eq_length_filter, ← List.countP_eq_length_filter]
    exact set_count hi _ (by simpa using hs)
  refine ⟨h1, ?_⟩
  have a := (pk_facts (l.set i d)).2.2.1
  have b := (pk_facts l).2.2.2.1 (peakV (l.set i d)).1
  have c : cnt (l.set i d) (peakV (l.set i d)).1 ≤ cnt l (peakV (l.set i d)).1 := by
    unfold cnt
    refine set_count hi _ ?_
    cases h : isOpenV d (peakV (l.set i d)).1
    · rfl
    · rw [isOpenV_iff] at h
      exact absurd h.1 hs
  rw [openV_cnt] at a b
  omega
def cancel (d : Dep) : Dep := (d.1, d.2.1, d.2.2.1, d.2.2.2.1, d.2.2.2.2.1, d.2.2.2.2.2.1, 1)
theorem cancel_valid {d : Dep} (h : validV d = true) : validV (cancel d) = true := by
  unfold validV cancel at *
  simp only [Bool.and_eq_true] at h ⊢
  obtain ⟨h, _⟩ := h
  exact ⟨h, by decide⟩
def con5 : Con := { ps := [.d false (.sl (.int .i64)), .d false (.int .i64)], rs := [.d false .bool], pre := fun _ => True, out := fun _ => (true, ()), nw := id }
theorem c5 : CtrOk Try.prog 5 con5.ctr :=
  con_sound (G := ⟨[(9, con9.ctr), (11, con11.ctr), (15, con15.ctr), (18, con18.ctr), (19, con19.ctr), (20, con20.ctr), (21, con21.ctr)], [], []⟩) tab_ok (EnvOk.cons c9 has9 (EnvOk.cons c11 has11 (EnvOk.cons c15 has15 (EnvOk.cons c18 has18 (EnvOk.cons c19 has19 (EnvOk.cons c20 has20 (EnvOk.cons c21 has21 EnvOk.nil))))))) rfl Try.func5 rfl con5 275414843379 (by kernel_rfl) (by decide) (by decide) rfl (by decide) rfl (by
    rintro ⟨(ns : List Int), (x : Int), _⟩ hpre hwf X hT hG hk hK
    (simp only [go_sem, Prod.eta, Option.isSome_none, Option.isSome_some, Int.toNat_zero, Nat.reduceAdd, Nat.reduceMul, Nat.reduceSub, Nat.reduceEqDiff, Nat.reduceLT, Nat.reduceLeDiff, Nat.reduceShiftRight, Nat.reduceMod, Nat.reduceBEq, reduceCtorEq, reduceIte, reduceDIte, Int.reduceNeg, Bool.not_eq_true', Bool.not_eq_false', Bool.or_eq_true, Bool.or_eq_false_iff, Bool.and_eq_true, Bool.and_eq_false_iff, decide_eq_true_eq, decide_eq_false_iff_not, Classical.not_not, not_or, maxLen, con5, con9, con11, con15, con18, con19, con20, con21, hT, hG, hk, hK, Try.results5] at hwf ⊢); (try simp (disch := decide +kernel) only [drawn, true_and, and_true])
    have hsl := schedV_len (ns.take 2000, 0) 12 (by omega)
    have hsv := sched_validate (ns.take 2000, 0) 12 (by omega) (by omega)
    have hsp := schedV_pos (ns.take 2000, 0) 12 (Int.le_refl 0)
    generalize (schedV (ns.take 2000, 0) 12).1 = l at hsl hsv ⊢
    generalize (schedV (ns.take 2000, 0) 12).2 = s0 at hsp ⊢
    have es : (s0.1, s0.2) = s0 := rfl
    have hch := chutes_ok s0 5 (by omega)
    generalize (chutesV s0 5).1 = cs at hch ⊢
    obtain ⟨hc1, hc2, hc3⟩ := hch
    have hpe := planV_len l
    have hall : cs.all (fun c => decide (0 ≤ c)) = true := by
      rw [List.all_eq_true]
      intro c hc
      have := hc2 c hc
      exact decide_eq_true (by omega)
    have hall2 : (cs ++ [100]).all (fun c => decide (0 ≤ c)) = true := by
      rw [List.all_append, hall]
      rfl
    have hasc2 : ascI (cs ++ [100]) = true := ascI_snoc hc3 (fun c hc => by have := hc2 c hc; omega)
    have hl2 : (cs ++ [100]).length = cs.length + 1 := by rw [List.length_append]; rfl
    obtain ⟨A1, A2⟩ := planO_ok (args_of (l := l) (cs := cs) hsv (by omega) (by omega) hall hc3)
    obtain ⟨B1, B2⟩ := planO_ok (args_of (l := l) (cs := cs ++ [100]) hsv (by omega) (by omega) hall2 hasc2)
    by_cases hne : l.length = 0
    · (repeat' (with_reducible (first | refine And.intro ?_ ?_ | intro _))) <;> (try (first | with_reducible (first | done | assumption | omega | contradiction) | decide))
    · have hb := goMod_bd x l.length (by omega)
      generalize goMod x l.length = k at hb ⊢
      have hk : k.toNat < l.length := by omega
      have ek : ∀ z, l.getD k.toNat z = l[k.toNat] := fun z => by simp [hk]
      have ec : ∀ d : Dep, (d.1, d.2.1, d.2.2.1, d.2.2.2.1, d.2.2.2.2.1, d.2.2.2.2.2.1, (1 : Int)) = cancel d := fun d => rfl
      simp only [ek, ec]
      have hvl := (valid_ok hsv).2.1 _ (List.getElem_mem hk)
      have hset := set_ok (d := cancel l[k.toNat]) hk hsv rfl (cancel_valid hvl) (by omega)
      obtain ⟨p1, p2⟩ := set_plan (l := l) (d := cancel l[k.toNat]) hk (by show (1 : Int) ≠ 0; omega)
      have hsl2 : (l.set k.toNat (cancel l[k.toNat])).length = l.length := List.length_set
      generalize l.set k.toNat (cancel l[k.toNat]) = m at hset p1 p2 hsl2 ⊢
      obtain ⟨C1, C2⟩ := planO_ok (args_of (l := m) (cs := cs) hset (by omega) (by omega) hall hc3)
      have key : (planO l cs).1.2.2.length = 0 → (planO l (cs ++ [100])).1.2.2.length = 0 ∧ (planO m cs).1.2.2.length = 0 ∧ (planO l (cs ++ [100])).1.1.length = (planO l cs).1.1.length ∧ (planO m cs).1.1.length ≤ (planO l cs).1.1.length := fun h0 => by
        have hpk := (pk_facts l).1
        rcases A2 with ⟨a1, a2, a3, _⟩ | ⟨a1, a2, _, _, a3⟩
        · omega
        · rcases B2 with ⟨b1, _⟩ | ⟨b1, b2, _, _, b3⟩
          · omega
          · rcases C2 with ⟨c1, _⟩ | ⟨c1, c2, _, _, c3⟩
            · omega
            · exact ⟨by rw [b2]; rfl, by rw [c2]; rfl, by omega, by omega⟩
      clear A2 B2 C2
      by_cases h0 : (planO l cs).1.2.2.length = 0
      · obtain ⟨k1, k2, k3, k4⟩ := key h0
        (repeat' (with_reducible (first | refine And.intro ?_ ?_ | intro _))) <;> (try (first | with_reducible (first | done | assumption | omega | contradiction) | decide))
      · (repeat' (with_reducible (first | refine And.intro ?_ ?_ | intro _))) <;> (try (first | with_reducible (first | done | assumption | omega | contradiction) | decide)))
end Go.Proofs.Ytdmgmdppejopcaa
