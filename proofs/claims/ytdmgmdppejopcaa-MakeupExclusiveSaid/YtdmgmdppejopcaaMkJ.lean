/- The contracts of the functions that the statements about the makeup reach: the plan. -/
import Derived.Test.YtdmgmdppejopcaaMkI
set_option linter.unusedSimpArgs false
set_option linter.unusedVariables false
set_option maxRecDepth 100000
set_option maxHeartbeats 4000000
namespace Go.Proofs.Ytdmgmdppejopcaa
open Go.Ev

theorem valF_ok : ∀ (l : List Dep) (p : Option Flt), valF p l = 0 → (∀ d ∈ l, validV d = true) ∧ (∀ f, p = some f → ∀ d ∈ l, fltC f d.1 < 0) ∧ l.Pairwise (fun a b => fltC a.1 b.1 < 0)
  | [], _, _ => ⟨by simp, by simp, List.Pairwise.nil⟩
  | d :: l, p, h => by
    unfold valF at h
    have hv : validV d = true := by
      cases hv : validV d
      · rw [if_pos hv] at h; omega
      · rfl
    rw [if_neg (by rw [hv]; simp)] at h
    have key : valF (some d.1) l = 0 → (∀ e ∈ d :: l, validV e = true) ∧ (d :: l).Pairwise (fun a b => fltC a.1 b.1 < 0) ∧ ∀ e ∈ l, fltC d.1 e.1 < 0 := fun k => by
      obtain ⟨h1, h2, h3⟩ := valF_ok l (some d.1) k
      have h4 := h2 d.1 rfl
      exact ⟨fun e he => by rcases List.mem_cons.1 he with rfl | he; exact hv; exact h1 e he, List.pairwise_cons.2 ⟨h4, h3⟩, h4⟩
    cases p with
    | none =>
      obtain ⟨a, b, _⟩ := key h
      exact ⟨a, by simp, b⟩
    | some f =>
      dsimp only at h
      by_cases e0 : fltC f d.1 = 0
      · rw [if_pos e0] at h; omega
      · rw [if_neg e0] at h
        by_cases e1 : fltC f d.1 = 1
        · rw [if_pos e1] at h; omega
        · rw [if_neg e1] at h
          obtain ⟨a, b, c⟩ := key h
          have hu := fltC_cmp.unit f d.1
          have hfd : fltC f d.1 < 0 := by omega
          refine ⟨a, fun g hg e he => ?_, b⟩
          cases hg
          rcases List.mem_cons.1 he with rfl | he
          · exact hfd
          · exact fltC_cmp.trans _ _ _ hfd (c e he)
theorem valid_ok {l : List Dep} (h : validateV l = 0) : l.length ≤ 24 ∧ (∀ d ∈ l, validV d = true) ∧ l.Pairwise (fun a b => fltC a.1 b.1 < 0) := by
  unfold validateV at h
  by_cases c : (l.length : Int) > 24
  · rw [if_pos c] at h; omega
  · rw [if_neg c] at h
    obtain ⟨a, _, b⟩ := valF_ok l none h
    exact ⟨by omega, a, b⟩
theorem validV_times {d : Dep} (h : validV d = true) : 0 ≤ d.opens ∧ d.opens < d.closes ∧ d.closes ≤ 1048576 := by
  unfold validV inV at h
  simp only [Bool.and_eq_true, decide_eq_true_eq] at h
  unfold Dep.opens Dep.closes
  omega
theorem args_ok {l : List Dep} {cs : List Int} (h : argsV l cs = 0) : validateV l = 0 ∧ (planV l).length ≤ 16 ∧ cs.length ≤ 6 ∧ cs.all (fun c => decide (0 ≤ c)) = true ∧ ascI cs = true := by
  unfold argsV at h
  by_cases c1 : validateV l ≠ 0
  · rw [if_pos c1] at h; exact absurd h c1
  · rw [if_neg c1] at h
    by_cases c2 : ((planV l).length : Int) > 16 ∨ (cs.length : Int) > 6
    · rw [if_pos c2] at h; omega
    · rw [if_neg c2] at h
      by_cases c3 : cs.all (fun c => decide (0 ≤ c)) = false
      · rw [if_pos c3] at h; omega
      · rw [if_neg c3] at h
        by_cases c4 : ascI cs = false
        · rw [if_pos c4] at h; omega
        · exact ⟨Classical.not_not.1 c1, by omega, by omega, by simpa using c3, by simpa using c4⟩
theorem nodup_flts {l : List Dep} (h : l.Pairwise (fun a b => fltC a.1 b.1 < 0)) : (l.map (fun d => d.1)).Nodup := by
  unfold List.Nodup
  rw [List.pairwise_map]
  refine h.imp fun {a b} hab e => ?_
  rw [(fltC_cmp.eq _ _).2 e] at hab
  omega
def place (d : Dep) : List Int → List Int → Option (Int × List Int)
  | c :: cs, f :: fs => if f ≤ d.opens then some (c, d.closes :: fs) else (place d cs fs).map (fun r => (r.1, f :: r.2))
  | _, _ => none
def greedy : List Dep → List Int → List Int → List All
  | [], _, _ => []
  | d :: ds, cs, fr => match place d cs fr with
    | some (c, fr') => (d.1, c) :: greedy ds cs fr'
    | none => greedy ds cs fr
theorem place_len {d : Dep} : ∀ {cs fr : List Int} {c : Int} {fr' : List Int}, place d cs fr = some (c, fr') → fr'.length = fr.length
  | c :: cs, f :: fs, x, fr', h => by
    unfold place at h
    split at h
    · cases h; rfl
    · cases hp : place d cs fs with
      | none => rw [hp] at h; cases h
      | some r =>
        rw [hp] at h
        cases h
        rw [List.length_cons, List.length_cons, place_len hp]
  | [], _, _, _, h => by simp [place] at h
  | _ :: _, [], _, _, h => by simp [place] at h
theorem greedy_keys : ∀ (ds : List Dep) (cs fr : List Int), (keysOf (greedy ds cs fr)).Sublist (ds.map (fun d => d.1))
  | [], _, _ => List.Sublist.refl _
  | d :: ds, cs, fr => by
    unfold greedy
    split
    · exact (greedy_keys ds cs _).cons_cons _
    · exact (greedy_keys ds cs _).cons _
theorem greedy_len (ds : List Dep) (cs fr : List Int) : (greedy ds cs fr).length ≤ ds.length := by
  have := (greedy_keys ds cs fr).length_le
  unfold keysOf at this
  rwa [List.length_map, List.length_map] at this
def greedyV (l : List Dep) (cs : List Int) : List All := greedy (isort (planV l)) cs (List.replicate cs.length 0)
theorem plan_keys {l : List Dep} {cs : List Int} (h : argsV l cs = 0) : (keysOf (greedyV l cs)).Nodup ∧ (greedyV l cs).length ≤ 16 ∧ (∀ d ∈ planV l, inTime d) ∧ (∀ d ∈ planV l, 0 ≤ d.opens ∧ d.opens < d.closes ∧ d.closes ≤ 1048576) := by
  obtain ⟨h1, h2, h3, _, _⟩ := args_ok h
  obtain ⟨g1, g2, g3⟩ := valid_ok h1
  have hsub : (planV l).Sublist l := List.filter_sublist
  have hpw := g3.sublist hsub
  have hnd := nodup_flts hpw
  have hnd2 : ((isort (planV l)).map (fun d => d.1)).Nodup := ((isort_perm (planV l)).map _).nodup_iff.2 hnd
  have ht : ∀ d ∈ planV l, 0 ≤ d.opens ∧ d.opens < d.closes ∧ d.closes ≤ 1048576 := fun d hd => validV_times (g2 d (hsub.mem hd))
  refine ⟨hnd2.sublist (greedy_keys _ _ _), ?_, fun d hd => ?_, ht⟩
  · have := greedy_len (isort (planV l)) cs (List.replicate cs.length 0)
    rw [isort_len] at this
    exact Nat.le_trans this h2
  · have := ht d hd
    exact ⟨this.1, by omega⟩
abbrev Mk := List All × Int × List Flt
def planO (l : List Dep) (cs : List Int) : Mk × Int :=
  if argsV l cs ≠ 0 then (([], 0, []), argsV l cs) else if (peakV l).2 > (cs.length : Int) then (([], (peakV l).1, openV l (peakV l).1), 0) else ((sortAl (greedyV l cs), 0, []), 0)
theorem place_step (d : Dep) : ∀ (cs fr : List Int) (j : Nat) (h1 : j < cs.length) (h2 : j < fr.length), (∀ k (h : k < fr.length), k < j → ¬ fr[k] ≤ d.opens) → fr[j] ≤ d.opens → place d cs fr = some (cs[j], fr.set j d.closes)
  | c :: cs, f :: fs, 0, _, _, _, h => by
    unfold place
    rw [if_pos (by simpa using h)]
    rfl
  | c :: cs, f :: fs, j + 1, h1, h2, hb, h => by
    unfold place
    have h0 := hb 0 (by simp) (by omega)
    rw [if_neg (by simpa using h0), place_step d cs fs j (by simpa using h1) (by simpa using h2) (fun k hk hkj => by
      have := hb (k + 1) (by simpa using hk) (by omega)
      simpa using this) (by simpa using h)]
    rfl
theorem place_none (d : Dep) : ∀ (cs fr : List Int), cs.length = fr.length → (∀ k (h : k < fr.length), ¬ fr[k] ≤ d.opens) → place d cs fr = none
  | [], fr, _, _ => by simp [place]
  | c :: cs, [], h, _ => by simp at h
  | c :: cs, f :: fs, h, hb => by
    unfold place
    have h0 := hb 0 (by simp)
    rw [if_neg (by simpa using h0), place_none d cs fs (by simpa using h) (fun k hk => by
      have := hb (k + 1) (by simpa using hk)
      simpa using this)]
    rfl
def con18 : Con := { ps := [.d false (.sl (.pair (.pair .str (.pair (.int .i64) (.pair .str (.int .i64)))) (.pair .str (.pair (.int .i64) (.pair (.int .i64) (.pair (.int .i64) (.pair (.int .i64) (.int .i64)))))))), .d false (.sl (.int .i64))], rs := [.d true (.pair (.sl (.pair (.pair .str (.pair (.int .i64) (.pair .str (.int .i64)))) (.int .i64))) (.pair (.int .i64) (.sl (.pair .str (.pair (.int .i64) (.pair .str (.int .i64))))))), .d false (.int .i64)], pre := fun (x : List Dep × List Int × Unit) => x.1.length ≤ 1048576, out := fun (x : List Dep × List Int × Unit) => ((planO x.1 x.2.1).1, (planO x.1 x.2.1).2, ()), nw := id }
theorem c18 : CtrOk Try.prog 18 con18.ctr :=
  con_sound (G := ⟨[(12, con12.ctr), (32, con32.ctr), (33, con33.ctr), (34, con34.ctr), (35, con35.ctr), (37, con37.ctr)], [], []⟩) tab_ok (EnvOk.cons c12 has12 (EnvOk.cons c32 has32 (EnvOk.cons c33 has33 (EnvOk.cons c34 has34 (EnvOk.cons c35 has35 (EnvOk.cons c37 has37 EnvOk.nil)))))) rfl Try.func18 rfl con18 9240524420396675059 (by kernel_rfl) (by decide) (by decide) rfl (by decide) rfl (by
    rintro ⟨(l : List Dep), (cs : List Int), _⟩ hpre hwf X hT hG hk hK
    have hl : l.length ≤ 1048576 := hpre
    (simp only [go_sem, Prod.eta, Option.isSome_none, Option.isSome_some, Int.toNat_zero, Nat.reduceAdd, Nat.reduceMul, Nat.reduceSub, Nat.reduceEqDiff, Nat.reduceLT, Nat.reduceLeDiff, Nat.reduceShiftRight, Nat.reduceMod, Nat.reduceBEq, reduceCtorEq, reduceIte, reduceDIte, Int.reduceNeg, Bool.not_eq_true', Bool.not_eq_false', Bool.or_eq_true, Bool.or_eq_false_iff, Bool.and_eq_true, Bool.and_eq_false_iff, decide_eq_true_eq, decide_eq_false_iff_not, Classical.not_not, not_or, maxLen, con18, con12, con32, con33, con34, con35, con37, hT, hG, hk, hK, Try.results18] at hwf ⊢); (try simp (disch := decide +kernel) only [drawn, true_and, and_true])
    by_cases ha : argsV l cs = 0
    · by_cases hp : (peakV l).2 > (cs.length : Int)
      · have hv : planO l cs = (([], (peakV l).1, openV l (peakV l).1), 0) := by
          unfold planO; rw [if_neg (by omega), if_pos hp]
        rw [hv]
        (repeat' (with_reducible (first | refine And.intro ?_ ?_ | intro _))) <;> (try (first | with_reducible (first | done | assumption | omega | contradiction) | decide))
        all_goals rfl
      · obtain ⟨k1, k2, k3, k4⟩ := plan_keys ha
        obtain ⟨_, k5, k6, _, _⟩ := args_ok ha
        have hv : planO l cs = ((sortAl (greedyV l cs), 0, []), 0) := by
          unfold planO; rw [if_neg (by omega), if_neg hp]
        have hO := isort_len (planV l)
        have hOt : ∀ d ∈ isort (planV l), 0 ≤ d.opens ∧ d.opens < d.closes ∧ d.closes ≤ 1048576 := fun d hd => k4 d ((isort_perm _).mem_iff.1 hd)
        have hg : greedyV l cs = greedy (isort (planV l)) cs (List.replicate cs.length 0) := rfl
        generalize isort (planV l) = O at hO hOt hg ⊢
        (repeat' (with_reducible (first | refine And.intro ?_ ?_ | intro _))) <;> (try (first | with_reducible (first | done | assumption | omega | contradiction) | decide))
        all_goals first
          | (rename_i k hk; exact k3 _ hk)
          | (generalize cs.length = n at *; omega)
          | skip
        refine evk_loop ⟨{ q : Nat × List All × List Int // q.1 ≤ O.length ∧ q.2.1.length ≤ q.1 ∧ q.2.2.length = cs.length ∧ greedyV l cs = q.2.1 ++ greedy (O.drop q.1) cs q.2.2 }, 1000,
          fun q => [(1, .one (.sl (.int .i64) cs false)), (4, .one (.loc 70 0)), (10, .one (.row 64)), (11, .one (.row 65)), (44, .one (.row 66)), (45, .one (.int .i64 O.length)), (46, .one (.int .i64 q.1.1))],
          fun q => [(70, .cells 42 [.undef, .undef, .undef]), (64, .row 3 (.int .i64) q.1.2.2), (65, .row 53 (.pair (.pair .str (.pair (.int .i64) (.pair .str (.int .i64)))) (.int .i64)) q.1.2.1), (66, .row 36 (.pair (.pair .str (.pair (.int .i64) (.pair .str (.int .i64)))) (.pair .str (.pair (.int .i64) (.pair (.int .i64) (.pair (.int .i64) (.pair (.int .i64) (.int .i64))))))) O)], fun q => O.length - q.1.1⟩
          ⟨(0, [], List.replicate cs.length 0), by simp, by simp, by simp, by simpa using hg⟩ ?_ ?_
        · simp only [go_sem, Prod.eta, Option.isSome_none, Option.isSome_some, Int.toNat_zero, Nat.reduceAdd, Nat.reduceMul, Nat.reduceSub, Nat.reduceEqDiff, Nat.reduceLT, Nat.reduceLeDiff, Nat.reduceShiftRight, Nat.reduceMod, Nat.reduceBEq, reduceCtorEq, reduceIte, reduceDIte, Int.reduceNeg]
          exact ⟨rfl, rfl⟩
        · rintro ⟨⟨i, out, fr⟩, (c1 : i ≤ O.length), (c2 : out.length ≤ i), (c3 : fr.length = cs.length), (c4 : greedyV l cs = out ++ greedy (O.drop i) cs fr)⟩
          (simp only [go_sem, Prod.eta, Option.isSome_none, Option.isSome_some, Int.toNat_zero, Nat.reduceAdd, Nat.reduceMul, Nat.reduceSub, Nat.reduceEqDiff, Nat.reduceLT, Nat.reduceLeDiff, Nat.reduceShiftRight, Nat.reduceMod, Nat.reduceBEq, reduceCtorEq, reduceIte, reduceDIte, Int.reduceNeg, Bool.not_eq_true', Bool.not_eq_false', Bool.or_eq_true, Bool.or_eq_false_iff, Bool.and_eq_true, Bool.and_eq_false_iff, decide_eq_true_eq, decide_eq_false_iff_not, Classical.not_not, not_or, maxLen, con18, con12, con32, con33, con34, con35, con37, hT, hG, hk, hK, Try.results18]); (try simp (disch := decide +kernel) only [drawn, true_and, and_true])
          refine ⟨fun hlt => ?_, fun hge => ?_⟩
          · have hi' : i < O.length := by omega
            have ek : ∀ z, O.getD (i : Int).toNat z = O[i] := fun z => by simp [hi']
            simp only [ek]
            have hOi := hOt _ (List.getElem_mem hi')
            have hd := List.drop_eq_getElem_cons hi'
            rw [hd, greedy] at c4
            generalize hdd : O[i] = d at hOi c4 ⊢
            (repeat' (with_reducible (first | refine And.intro ?_ ?_ | intro _))) <;> (try (first | with_reducible (first | done | assumption | omega | contradiction) | decide))
            refine evk_loop ⟨{ j : Nat // j ≤ cs.length ∧ ∀ k (h : k < fr.length), k < j → ¬ fr[k] ≤ d.opens }, 2000,
              fun q => [(1, .one (.sl (.int .i64) cs false)), (4, .one (.loc 70 0)), (10, .one (.row 64)), (11, .one (.row 65)), (13, .one (.loc 71 0)), (44, .one (.row 66)), (45, .one (.int .i64 O.length)), (46, .one (.int .i64 i)), (50, .one (.sl (.int .i64) cs false)), (51, .one (.int .i64 cs.length)), (52, .one (.int .i64 q.1))],
              fun q => [(70, .cells 42 [.undef, .undef, .undef]), (64, .row 3 (.int .i64) fr), (65, .row 53 (.pair (.pair .str (.pair (.int .i64) (.pair .str (.int .i64)))) (.int .i64)) out), (66, .row 36 (.pair (.pair .str (.pair (.int .i64) (.pair .str (.int .i64)))) (.pair .str (.pair (.int .i64) (.pair (.int .i64) (.pair (.int .i64) (.pair (.int .i64) (.int .i64))))))) O), (71, .cells 36 (expl (.pair (.pair .str (.pair (.int .i64) (.pair .str (.int .i64)))) (.pair .str (.pair (.int .i64) (.pair (.int .i64) (.pair (.int .i64) (.pair (.int .i64) (.int .i64))))))) d))], fun q => cs.length - q.1⟩ ⟨0, by simp, by intro k h hk; simp at hk⟩ ?_ ?_
            · simp only [go_sem, Prod.eta, Option.isSome_none, Option.isSome_some, Int.toNat_zero, Nat.reduceAdd, Nat.reduceMul, Nat.reduceSub, Nat.reduceEqDiff, Nat.reduceLT, Nat.reduceLeDiff, Nat.reduceShiftRight, Nat.reduceMod, Nat.reduceBEq, reduceCtorEq, reduceIte, reduceDIte, Int.reduceNeg]
              first
                | rfl
                | skip
            · rintro ⟨j, (e1 : j ≤ cs.length), (e2 : ∀ k (h : k < fr.length), k < j → ¬ fr[k] ≤ d.opens)⟩
              (simp only [go_sem, Prod.eta, Option.isSome_none, Option.isSome_some, Int.toNat_zero, Nat.reduceAdd, Nat.reduceMul, Nat.reduceSub, Nat.reduceEqDiff, Nat.reduceLT, Nat.reduceLeDiff, Nat.reduceShiftRight, Nat.reduceMod, Nat.reduceBEq, reduceCtorEq, reduceIte, reduceDIte, Int.reduceNeg, Bool.not_eq_true', Bool.not_eq_false', Bool.or_eq_true, Bool.or_eq_false_iff, Bool.and_eq_true, Bool.and_eq_false_iff, decide_eq_true_eq, decide_eq_false_iff_not, Classical.not_not, not_or, maxLen, con18, con12, con32, con33, con34, con35, con37, hT, hG, hk, hK, Try.results18]); (try simp (disch := decide +kernel) only [drawn, true_and, and_true])
              refine ⟨fun hlt2 => ?_, fun hge2 => ?_⟩
              · have hj : j < cs.length := by omega
                have hj2 : j < fr.length := by omega
                have ekc : ∀ z, cs.getD (j : Int).toNat z = cs[j] := fun z => by simp [hj]
                have ekf : ∀ z, fr.getD (j : Int).toNat z = fr[j] := fun z => by simp [hj2]
                simp only [ekc, ekf]
                (repeat' (with_reducible (first | refine And.intro ?_ ?_ | intro _))) <;> (try (first | with_reducible (first | done | assumption | omega | contradiction) | decide))
                · have h : fr[j] ≤ d.opens := by assumption
                  have hp1 := place_step d cs fr j hj hj2 e2 h
                  rw [hp1] at c4
                  refine fin_lp ⟨(i + 1, out ++ [(d.1, cs[j])], fr.set j d.closes), by dsimp only; omega, by rw [List.length_append]; simp only [List.length_singleton]; omega, by dsimp only; rw [List.length_set]; exact c3, by dsimp only; rw [c4]; simp⟩ (by simp only [go_sem, Prod.eta, Option.isSome_none, Option.isSome_some, Int.toNat_zero, Nat.reduceAdd, Nat.reduceMul, Nat.reduceSub, Nat.reduceEqDiff, Nat.reduceLT, Nat.reduceLeDiff, Nat.reduceShiftRight, Nat.reduceMod, Nat.reduceBEq, reduceCtorEq, reduceIte, reduceDIte, Int.reduceNeg]; first | rfl | ((repeat' apply And.intro) <;> first | rfl | assumption | omega)) (by dsimp only; omega)
                · have h : ¬ fr[j] ≤ d.opens := by assumption
                  refine fin_lp ⟨j + 1, by omega, ?_⟩ (by simp only [go_sem, Prod.eta, Option.isSome_none, Option.isSome_some, Int.toNat_zero, Nat.reduceAdd, Nat.reduceMul, Nat.reduceSub, Nat.reduceEqDiff, Nat.reduceLT, Nat.reduceLeDiff, Nat.reduceShiftRight, Nat.reduceMod, Nat.reduceBEq, reduceCtorEq, reduceIte, reduceDIte, Int.reduceNeg]; first | rfl | ((repeat' apply And.intro) <;> first | rfl | assumption | omega)) (by dsimp only; omega)
                  intro k hk hkj
                  rcases Nat.lt_or_eq_of_le (Nat.lt_succ_iff.1 hkj) with h1 | h1
                  · exact e2 k hk h1
                  · subst h1; exact h
              · have hp1 := place_none d cs fr c3.symm (fun k hk => e2 k hk (by omega))
                rw [hp1] at c4
                (repeat' (with_reducible (first | refine And.intro ?_ ?_ | intro _))) <;> (try (first | with_reducible (first | done | assumption | omega | contradiction) | decide))
                refine fin_lp ⟨(i + 1, out, fr), by dsimp only; omega, by dsimp only; omega, c3, c4⟩ (by simp only [go_sem, Prod.eta, Option.isSome_none, Option.isSome_some, Int.toNat_zero, Nat.reduceAdd, Nat.reduceMul, Nat.reduceSub, Nat.reduceEqDiff, Nat.reduceLT, Nat.reduceLeDiff, Nat.reduceShiftRight, Nat.reduceMod, Nat.reduceBEq, reduceCtorEq, reduceIte, reduceDIte, Int.reduceNeg]; first | rfl | ((repeat' apply And.intro) <;> first | rfl | assumption | omega)) (by dsimp only; omega)
          · rw [List.drop_of_length_le (by omega), greedy, List.append_nil] at c4
            rw [hv]
            subst c4
            (repeat' (with_reducible (first | refine And.intro ?_ ?_ | intro _))) <;> (try (first | with_reducible (first | done | assumption | omega | contradiction) | decide))
            all_goals rfl
    · have hv : planO l cs = (([], 0, []), argsV l cs) := by
        unfold planO; rw [if_pos ha]
      rw [hv]
      (repeat' (with_reducible (first | refine And.intro ?_ ?_ | intro _))) <;> (try (first | with_reducible (first | done | assumption | omega | contradiction) | decide))
      all_goals rfl)
end Go.Proofs.Ytdmgmdppejopcaa
