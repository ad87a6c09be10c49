/- The contracts of the reference's functions: ByOpens, Place. -/
import Derived.Test.YtdeihcabmpcaoaaGreatRfRHToRS
set_option linter.unusedSimpArgs false
set_option linter.unusedVariables false
set_option maxRecDepth 100000
set_option maxHeartbeats 4000000
namespace Go.Proofs.YtdeihcabmpcaoaaGreat
open Go.Ev

theorem shift_ins {α : Type} (P : List α) (z : α) (k : Nat) (hk : k ≤ P.length) : ∃ c, (P ++ [z]).take (k + 1) ++ (((P ++ [z]).take (k + (P.length + 1 - k))).drop k |>.take (min (P.length - k) (((P ++ [z]).take (k + (P.length + 1 - k))).drop k).length)) ++ (P ++ [z]).drop (k + 1 + min (P.length - k) (((P ++ [z]).take (k + (P.length + 1 - k))).drop k).length) = P.take k ++ c :: P.drop k := by
 have e1 : (P ++ [z]).take (k + (P.length + 1 - k)) = P ++ [z] := List.take_of_length_le (by simp; omega)
 have e2 : (P ++ [z]).drop k = P.drop k ++ [z] := by
  rw [List.drop_append, show k - P.length = 0 by omega]; rfl
 have e3 : min (P.length - k) (P.drop k ++ [z]).length = P.length - k := by
  simp
 have e4 : (P.drop k ++ [z]).take (P.length - k) = P.drop k := by
  rw [List.take_append_of_le_length (by rw [List.length_drop]; omega), List.take_of_length_le (by rw [List.length_drop]; omega)]
 have e5 : (P ++ [z]).drop (k + 1 + (P.length - k)) = [] := List.drop_of_length_le (by simp; omega)
 have hk2 : k < (P ++ [z]).length := by simp; omega
 have e6 : (P ++ [z]).take (k + 1) = P.take k ++ [(P ++ [z])[k]] := by
  rw [List.take_succ_eq_append_getElem hk2, List.take_append_of_le_length hk]
 refine ⟨(P ++ [z])[k], ?_⟩
 rw [e1, e2, e3, e4, e5, e6]
 simp
theorem set_mid {α : Type} (A B : List α) (c x : α) (k : Nat) (h : A.length = k) : (A ++ c :: B).set k x = A ++ x :: B := by
 subst h
 simp
def con44 : Con := { ps := [.d false (.sl yDP)], rs := [.o 52 yDP], pre := fun (x : List Dep × Unit) => x.1.length ≤ 1000, out := fun x => (isort x.1, ()), nw := id }
theorem c44 : CtrOk Tryz.prog 44 con44.ctr :=
 con_sound (G := ⟨[], [], [(39, 1), (42, 1)], [], []⟩) tab_ok EnvOk.nil rfl Tryz.func44 rfl con44 536871485 (by kernel_rfl) (by decide) (by decide) rfl (by decide) rfl (by
  rintro ⟨(l : List Dep), _⟩ hpre hwf X hT hG hk hK
  have hl : l.length ≤ 1000 := hpre
  (simp -implicitDefEqProofs (maxSteps := 4000000) only [go_sem, Bool.not_eq_true', Bool.not_eq_false', Bool.or_eq_true, Bool.or_eq_false_iff, Bool.and_eq_true, Bool.and_eq_false_iff, decide_eq_true_eq, decide_eq_false_iff_not, Classical.not_not, not_or, maxLen, con44, hT, hG, hk, hK, Tryz.results44] at hwf ⊢); (try simp (disch := decide +kernel) only [drawn, true_and, and_true])
  refine evk_loop ⟨{ i : Nat // i ≤ l.length }, 1000, fun i => [(0, .one (.sl yDP l false)), (3, .one (.row 64)), (4, .one (.int .i64 i.1))], fun i => [(64, .row 52 yDP (isort (l.take i.1)))], fun i => l.length - i.1⟩ ⟨0, by simp⟩ ?_ ?_
  · simp only [go_sem]
    exact ⟨rfl, rfl⟩
  · rintro ⟨i, (hi : i ≤ l.length)⟩
    (simp -implicitDefEqProofs (maxSteps := 4000000) only [go_sem, Bool.not_eq_true', Bool.not_eq_false', Bool.or_eq_true, Bool.or_eq_false_iff, Bool.and_eq_true, Bool.and_eq_false_iff, decide_eq_true_eq, decide_eq_false_iff_not, Classical.not_not, not_or, maxLen, con44, hT, hG, hk, hK, Tryz.results44]); (try simp (disch := decide +kernel) only [drawn, true_and, and_true])
    refine fun _ => ⟨fun hlt => ?_, fun hge => ?_⟩
    · have hi' : i < l.length := by omega
      have ek : ∀ z, l.getD (i : Int).toNat z = l[i] := fun z => by simp [hi']
      have hP := isort_len (l.take i)
      rw [List.length_take] at hP
      have hPs := isort_sorted (l.take i)
      have hsn : isort (l.take (i + 1)) = insV l[i] (isort (l.take i)) := by rw [List.take_succ_eq_append_getElem hi', isort_snoc]
      generalize hPe : isort (l.take i) = P at hP hPs hsn ⊢
      intro hPl
      refine evk_loop ⟨{ k : Nat // k ≤ P.length ∧ ∀ y ∈ P.drop k, (l[i]).opens < y.opens }, 2000, fun k => [(0, .one (.sl yDP l false)), (3, .one (.row 64)), (4, .one (.int .i64 i)), (5, .one (.int .i64 k.1))], fun k => [(64, .row 52 yDP P)], fun k => k.1⟩ ⟨P.length, by simp, by simp⟩ ?_ ?_
      · simp only [go_sem]
      · rintro ⟨k, (hk1 : k ≤ P.length), (hk2 : ∀ y ∈ P.drop k, (l[i]).opens < y.opens)⟩
        (simp -implicitDefEqProofs (maxSteps := 4000000) only [go_sem, Bool.not_eq_true', Bool.not_eq_false', Bool.or_eq_true, Bool.or_eq_false_iff, Bool.and_eq_true, Bool.and_eq_false_iff, decide_eq_true_eq, decide_eq_false_iff_not, Classical.not_not, not_or, maxLen, con44, hT, hG, hk, hK, Tryz.results44]); (try simp (disch := decide +kernel) only [drawn, true_and, and_true])
        simp only [ek, List.length_append, List.length_singleton]
        (repeat' (with_reducible (first | refine And.intro ?_ ?_ | intro _))) <;> (try (first | with_reducible (first | done | assumption | omega | contradiction) | decide))
        · rename_i h
          refine fin_lp ⟨k - 1, by omega, fun y hy => ?_⟩ (by simp only [go_sem]; first | rfl | ((repeat' apply And.intro) <;> first | rfl | assumption | omega)) (by dsimp only; omega)
          have hk0 : k - 1 < P.length := by omega
          have ez : ∀ z, P.getD ((k : Int) - 1).toNat z = P[k - 1] := fun z => by rw [show ((k : Int) - 1).toNat = k - 1 by omega]; simp [hk0]
          rw [List.drop_eq_getElem_cons hk0, show k - 1 + 1 = k by omega] at hy
          rcases List.mem_cons.1 hy with rfl | hy
          · have := h.2
            rw [ez] at this
            exact this
          · exact hk2 y hy
        · rename_i h
          have e1 : ((k : Int) + 1).toNat = k + 1 := by omega
          have e2 : (((P.length + 1 : Nat) : Int) - ((k : Int) + 1)).toNat = P.length - k := by omega
          have e3 : (k : Int).toNat = k := by omega
          have e4 : (((P.length + 1 : Nat) : Int) - (k : Int)).toNat = P.length + 1 - k := by omega
          have e5 : (k + 1 + (P.length - k) ≤ P.length + 1) = True := by rw [eq_iff_iff, iff_true]; omega
          have e6 : (k + (P.length + 1 - k) ≤ P.length + 1) = True := by rw [eq_iff_iff, iff_true]; omega
          (simp -implicitDefEqProofs (maxSteps := 4000000) only [go_sem, Bool.not_eq_true', Bool.not_eq_false', Bool.or_eq_true, Bool.or_eq_false_iff, Bool.and_eq_true, Bool.and_eq_false_iff, decide_eq_true_eq, decide_eq_false_iff_not, Classical.not_not, not_or, maxLen, con44, hT, hG, hk, hK, Tryz.results44, e1, e2, e3, e4, e5, e6, List.length_append, List.length_singleton]); (try simp (disch := decide +kernel) only [drawn, true_and, and_true])
          obtain ⟨c, hc⟩ := shift_ins P ((ByteArray.empty, 0, ByteArray.empty, 0), ByteArray.empty, 0, 0, 0, 0, 0) k hk1
          rw [List.append_assoc] at hc
          have hlc := congrArg List.length hc
          rw [show (P.take k ++ c :: P.drop k).length = P.length + 1 by simp; omega] at hlc
          simp only [List.length_append] at hlc
          (repeat' (with_reducible (first | refine And.intro ?_ ?_ | intro _))) <;> (try (first | with_reducible (first | done | assumption | omega | contradiction) | decide))
          have hins : insV l[i] P = P.take k ++ l[i] :: P.drop k := insV_mid l[i] P k hk1 hPs hk2 (fun hk0 hkl => by
           have ez : ∀ z, P.getD ((k : Int) - 1).toNat z = P[k - 1] := fun z => by rw [show ((k : Int) - 1).toNat = k - 1 by omega]; simp [hkl]
           rw [ez] at h
           rcases h with h | h
           · omega
           · exact h)
          refine fin_lp ⟨i + 1, by omega⟩ ?_ (by dsimp only; omega)
          simp only [go_sem]
          rw [hc, hsn, hins, ek, set_mid (P.take k) (P.drop k) c l[i] k (by rw [List.length_take]; omega)]
          first | done | rfl | exact ⟨rfl, rfl⟩
    · rw [List.take_of_length_le (by omega)])
end Go.Proofs.YtdeihcabmpcaoaaGreat

/- A part of the proof. -/
/- The law: the peak. -/
set_option linter.unusedSimpArgs false
set_option linter.unusedVariables false
set_option maxRecDepth 100000
set_option maxHeartbeats 4000000
namespace Go.Proofs.YtdeihcabmpcaoaaGreat
open Go.Ev

theorem schedL_len : ∀ (n : Nat) (s : Src) (k : Int), (schedL n s k).1.length ≤ n
 | 0, _, _ => Nat.le_refl _
 | n + 1, s, k => by
   unfold schedL
   split
   · split
     · exact Nat.zero_le _
     · exact Nat.succ_le_succ (schedL_len n _ _)
   · exact Nat.zero_le _
theorem schedV_len (s : Src) (n : Int) (h : 0 ≤ n) : ((schedV s n).1.length : Int) ≤ n := by
 have h1 := schedL_len (goMod s.raw (n + 1)).toNat s.step 0
 have h2 := goMod_bd s.raw (n + 1) (by omega)
 unfold schedV
 omega
theorem pk_facts (e : List Dep) : 0 ≤ (peakV e).2 ∧ ((peakV e).2 = 0 → (peakV e).1 = 0) ∧ (peakV e).2 ≤ (openV e (peakV e).1).length ∧ (∀ x, ((openV e x).length : Int) ≤ (peakV e).2) ∧ (∀ x, ((openV e x).length : Int) = (peakV e).2 → 0 < (peakV e).2 → (peakV e).1 ≤ x) := by
 have h := peakV_is e
 simp only [openV_cnt]
 generalize peakV e = p at h ⊢
 unfold IsPk at h
 rcases h with ⟨h1, h2, h3⟩ | ⟨h1, h2, h3⟩
 · have := h3 p.1
   exact ⟨by omega, fun _ => h2, by omega, fun x => by rw [h3 x]; omega, fun x _ h => by omega⟩
 · exact ⟨by omega, fun h => by omega, by omega, fun x => (h3 x).1, fun x k _ => (h3 x).2 k⟩
end Go.Proofs.YtdeihcabmpcaoaaGreat

/- A part of the proof. -/
/- The plain laws: schedules out of numbers are valid; a plan has all departures. -/
set_option linter.unusedSimpArgs false
set_option linter.unusedVariables false
set_option maxRecDepth 100000
set_option maxHeartbeats 4000000
namespace Go.Proofs.YtdeihcabmpcaoaaGreat
open Go.Ev

theorem flts_asc : ∀ a b : Fin 27, a < b → fltC (fltsV (a.1 : Int)) (fltsV (b.1 : Int)) < 0 := by decide +kernel
theorem flts_ok : ∀ a : Fin 27, fltOk (fltsV (a.1 : Int)) = true := by decide +kernel
theorem ports_ok : ∀ i : Fin 5, lettersV (ports.getD i.1 ByteArray.empty) 3 3 = true := by decide +kernel
theorem flts_lt {a b : Int} (h0 : 0 ≤ a) (h1 : a < b) (h2 : b < 27) : fltC (fltsV a) (fltsV b) < 0 := by
 have := flts_asc ⟨a.toNat, by omega⟩ ⟨b.toNat, by omega⟩ (by rw [Fin.lt_def]; simp only; omega)
 simp only at this
 rwa [show ((a.toNat : Nat) : Int) = a by omega, show ((b.toNat : Nat) : Int) = b by omega] at this
theorem state_bd (i : Int) (h : 0 ≤ i ∧ i < 6) : 0 ≤ ([0, 0, 0, 0, 1, 2] : List Int).getD i.toNat 0 ∧ ([0, 0, 0, 0, 1, 2] : List Int).getD i.toNat 0 ≤ 2 := by
 have : i = 0 ∨ i = 1 ∨ i = 2 ∨ i = 3 ∨ i = 4 ∨ i = 5 := by omega
 rcases this with rfl | rfl | rfl | rfl | rfl | rfl <;> decide
theorem dep_valid (k : Int) (s : Src) (h0 : 0 ≤ k) (h1 : k < 27) : validV (depV k s) = true := by
 have a1 := flts_ok ⟨k.toNat, by omega⟩
 simp only at a1
 rw [show ((k.toNat : Nat) : Int) = k by omega] at a1
 have b5 := goMod_bd s.raw 5 (by omega)
 have a2 := ports_ok ⟨(goMod s.raw 5).toNat, by omega⟩
 have q40 := goMod_bd s.step.raw 40 (by omega)
 have q100 := goMod_bd s.step.step.raw 100 (by omega)
 have q20 := goMod_bd s.step.step.step.raw 20 (by omega)
 have q10 := goMod_bd s.step.step.step.step.raw 10 (by omega)
 have q6 := state_bd _ (goMod_bd s.step.step.step.step.step.raw 6 (by omega))
 unfold validV depV inV
 dsimp only
 simp only at a2
 rw [a1, a2]
 simp only [Bool.true_and, Bool.and_eq_true, decide_eq_true_eq]
 omega
theorem schedL_asc : ∀ (n : Nat) (s : Src) (k : Int), 0 ≤ k → (∀ d ∈ (schedL n s k).1, validV d = true ∧ ∃ j, k ≤ j ∧ j < 27 ∧ d.1 = fltsV j) ∧ (schedL n s k).1.Pairwise (fun a b => fltC a.1 b.1 < 0)
 | 0, _, _, _ => ⟨fun d h => (by cases h), List.Pairwise.nil⟩
 | n + 1, s, k, hk => by
   have b3 := goMod_bd s.raw 3 (by omega)
   unfold schedL
   split
   · split
     · exact ⟨fun d h => (by cases h), List.Pairwise.nil⟩
     · rename_i h1 h2
       obtain ⟨u, v⟩ := schedL_asc n (dep6 s.step) (k + goMod s.raw 3 + 1) (by omega)
       refine ⟨fun d hd => ?_, List.pairwise_cons.2 ⟨fun d hd => ?_, v⟩⟩
       · rcases List.mem_cons.1 hd with rfl | hd
         · exact ⟨dep_valid _ _ (by omega) (by omega), k + goMod s.raw 3, by omega, by omega, rfl⟩
         · obtain ⟨x, j, y, z, t⟩ := u d hd
           exact ⟨x, j, by omega, z, t⟩
       · obtain ⟨x, j, y, z, t⟩ := u d hd
         rw [t]
         exact flts_lt (a := k + goMod s.raw 3) (by omega) (by omega) z
   · exact ⟨fun d h => (by cases h), List.Pairwise.nil⟩
theorem sched_asc (s : Src) (n : Int) : (∀ d ∈ (schedV s n).1, validV d = true) ∧ (schedV s n).1.Pairwise (fun a b => fltC a.1 b.1 < 0) := by
 obtain ⟨u, v⟩ := schedL_asc (goMod s.raw (n + 1)).toNat s.step 0 (Int.le_refl _)
 exact ⟨fun d hd => (u d hd).1, v⟩
theorem valF_of : ∀ (l : List Dep) (p : Option Flt), (∀ d ∈ l, validV d = true) → (∀ f, p = some f → ∀ d ∈ l, fltC f d.1 < 0) → l.Pairwise (fun a b => fltC a.1 b.1 < 0) → valF p l = 0
 | [], _, _, _, _ => rfl
 | d :: l, p, h1, h2, h3 => by
   obtain ⟨g1, g2⟩ := List.pairwise_cons.1 h3
   have ih := valF_of l (some d.1) (fun e he => h1 e (List.mem_cons_of_mem _ he)) (fun f hf e he => by cases hf; exact g1 e he) g2
   unfold valF
   rw [if_neg (by rw [h1 d (by simp)]; simp)]
   cases p with
   | none => exact ih
   | some f =>
     dsimp only
     have := h2 f rfl d (by simp)
     rw [if_neg (by omega), if_neg (by omega)]
     exact ih
theorem validate_of {l : List Dep} (hl : l.length ≤ 24) (h1 : ∀ d ∈ l, validV d = true) (h3 : l.Pairwise (fun a b => fltC a.1 b.1 < 0)) : validateV l = 0 := by
 unfold validateV
 rw [if_neg (by omega), valF_of l none h1 (fun f hf => by cases hf) h3]
theorem sched_validate (s : Src) (n : Int) (h0 : 0 ≤ n) (h : n ≤ 24) : validateV (schedV s n).1 = 0 := by
 have := schedV_len s n h0
 obtain ⟨u, v⟩ := sched_asc s n
 exact validate_of (by omega) u v

theorem place_count {d : Dep} (t : Int) : ∀ {cs fr : List Int} {c : Int} {fr' : List Int}, place d cs fr = some (c, fr') → fr'.countP (fun x => decide (t < x)) ≤ fr.countP (fun x => decide (t < x)) + if t < d.closes then 1 else 0
 | c :: cs, f :: fs, x, fr', h => by
   unfold place at h
   split at h
   · cases h
     rw [List.countP_cons, List.countP_cons]
     simp only [decide_eq_true_eq]
     split <;> split <;> omega
   · cases hp : place d cs fs with
     | none => rw [hp] at h; cases h
     | some r =>
       rw [hp] at h
       cases h
       have := place_count t hp
       rw [List.countP_cons, List.countP_cons]
       omega
 | [], _, _, _, h => by simp [place] at h
 | _ :: _, [], _, _, h => by simp [place] at h
theorem place_fail {d : Dep} : ∀ {cs fr : List Int}, cs.length = fr.length → place d cs fr = none → fr.countP (fun x => decide (d.opens < x)) = fr.length
 | [], [], _, _ => rfl
 | [], _ :: _, h, _ => by simp at h
 | _ :: _, [], h, _ => by simp at h
 | c :: cs, f :: fs, hl, h => by
   unfold place at h
   split at h
   · cases h
   · rename_i hf
     have hp : place d cs fs = none := by
      cases hp : place d cs fs with
      | none => rfl
      | some r => rw [hp] at h; cases h
     rw [List.countP_cons, place_fail (by simpa using hl) hp, if_pos (by rw [decide_eq_true_eq]; omega), List.length_cons]
theorem greedy_full (cs : List Int) : ∀ (ds D : List Dep) (fr : List Int), fr.length = cs.length → (∀ t : Int, 0 ≤ t → fr.countP (fun x => decide (t < x)) ≤ D.countP (fun e => decide (t < e.closes))) →
 (∀ e ∈ D, ∀ d ∈ ds, e.opens ≤ d.opens) → ds.Pairwise (fun a b => a.opens ≤ b.opens) → (∀ e ∈ D ++ ds, e.state = 0 ∧ 0 ≤ e.opens ∧ e.opens < e.closes) → (∀ t, (D ++ ds).countP (fun d => isOpenV d t) ≤ cs.length) →
 keysOf (greedy ds cs fr) = ds.map (fun d => d.1)
 | [], _, _, _, _, _, _, _, _ => rfl
 | d :: ds, D, fr, h1, h2, h3, h4, h5, h6 => by
   obtain ⟨g1, g2⟩ := List.pairwise_cons.1 h4
   have hd := h5 d (by simp)
   unfold greedy
   cases hp : place d cs fr with
   | none =>
     exfalso
     have a1 := place_fail h1.symm hp
     have a2 := h2 d.opens hd.2.1
     have a3 := h6 d.opens
     have a4 : D.countP (fun e => decide (d.opens < e.closes)) ≤ D.countP (fun e => isOpenV e d.opens) := by
      refine List.countP_mono_left fun e he hc => ?_
      rw [isOpenV_iff]
      have := h5 e (by simp [he])
      have := h3 e he d (by simp)
      have := of_decide_eq_true hc
      omega
     have a5 : isOpenV d d.opens = true := by rw [isOpenV_iff]; omega
     rw [List.countP_append, List.countP_cons, if_pos a5] at a3
     omega
   | some r =>
     obtain ⟨c, fr'⟩ := r
     dsimp only
     have e : D ++ d :: ds = (D ++ [d]) ++ ds := by simp
     rw [e] at h5 h6
     have ih := greedy_full cs ds (D ++ [d]) fr' ((place_len hp).trans h1) (fun t ht => by
      have b1 := place_count t hp
      have b2 := h2 t ht
      rw [List.countP_append, List.countP_singleton]
      simp only [decide_eq_true_eq]
      split at b1 <;> rename_i hh
      · rw [if_pos hh]; omega
      · rw [if_neg hh]; omega) (fun x hx y hy => by
      rcases List.mem_append.1 hx with hx | hx
      · exact h3 x hx y (List.mem_cons_of_mem _ hy)
      · rw [List.mem_singleton.1 hx]; exact g1 y hy) g2 h5 h6
     unfold keysOf at ih ⊢
     rw [List.map_cons, List.map_cons, ih]
theorem cnt_plan (l : List Dep) (t : Int) : (planV l).countP (fun d => isOpenV d t) = cnt l t := by
 unfold planV cnt
 rw [List.countP_filter]
 refine List.countP_congr fun d _ => ?_
 rw [Bool.and_eq_true, decide_eq_true_eq, isOpenV_iff]
 exact ⟨fun h => h.1, fun h => ⟨h, h.1⟩⟩
/-- With as many chutes as the peak, a plan has all planned departures. -/
theorem plan_full {l : List Dep} {cs : List Int} (ha : argsV l cs = 0) (hp : ¬ (peakV l).2 > (cs.length : Int)) : (keysOf (greedyV l cs)).Perm ((planV l).map (fun d => d.1)) := by
 obtain ⟨k1, k2, k3, k4⟩ := plan_keys ha
 have hperm := isort_perm (planV l)
 have := greedy_full cs (isort (planV l)) [] (List.replicate cs.length 0) (by simp) (fun t ht => by
  rw [List.countP_replicate, if_neg (by rw [decide_eq_true_eq]; omega)]
  exact Nat.zero_le _) (by simp) (isort_sorted _) (fun e he => by
  have he' : e ∈ planV l := hperm.mem_iff.1 (by simpa using he)
  have h1 := k4 e he'
  have h2 : e.state = 0 := by
   unfold planV at he'
   have := (List.mem_filter.1 he').2
   simpa using this
  exact ⟨h2, h1.1, h1.2.1⟩) (fun t => by
  rw [List.nil_append, hperm.countP_eq, cnt_plan]
  have := (pk_facts l).2.2.2.1 t
  rw [openV_cnt] at this
  omega)
 unfold greedyV
 rw [this]
 exact hperm.map _
end Go.Proofs.YtdeihcabmpcaoaaGreat

/- The contracts of replan's functions: the stable sort of at most 19 needs. -/
set_option linter.unusedSimpArgs false
set_option linter.unusedVariables false
set_option maxRecDepth 100000
set_option maxHeartbeats 4000000
namespace Go.Proofs.YtdeihcabmpcaoaaGreat
open Go.Ev

abbrev Ned := Flt × Int × Int × Int × Bool
def Ned.frm (d : Ned) : Int := d.2.1
def Ned.to (d : Ned) : Int := d.2.2.1
def Ned.home (d : Ned) : Int := d.2.2.2.1
def Ned.fixed (d : Ned) : Bool := d.2.2.2.2
/-- Insertion behind all that are not greater. -/
def insN (x : Ned) : List Ned → List Ned
 | [] => [x]
 | y :: l => if x.frm < y.frm then x :: y :: l else y :: insN x l
def isortN (l : List Ned) : List Ned := l.foldl (fun acc x => insN x acc) []
theorem insN_perm (x : Ned) : ∀ l : List Ned, (insN x l).Perm (x :: l)
 | [] => List.Perm.refl _
 | y :: l => by
   unfold insN
   split
   · exact List.Perm.refl _
   · exact ((insN_perm x l).cons y).trans (List.Perm.swap x y l)
theorem foldl_permN : ∀ (l acc : List Ned), (l.foldl (fun acc x => insN x acc) acc).Perm (acc ++ l)
 | [], acc => by simp
 | x :: l, acc => by
   refine (foldl_permN l _).trans ?_
   refine ((insN_perm x acc).append_right l).trans ?_
   exact List.perm_middle.symm
theorem isortN_perm (l : List Ned) : (isortN l).Perm l := by
 have := foldl_permN l []
 rwa [List.nil_append] at this
theorem isortN_len (l : List Ned) : (isortN l).length = l.length := (isortN_perm l).length_eq
theorem isortN_snoc (l : List Ned) (x : Ned) : isortN (l ++ [x]) = insN x (isortN l) := by simp [isortN]
theorem isortN_sorted (l : List Ned) : (isortN l).Pairwise (fun a b => a.frm ≤ b.frm) := by
 have key : ∀ (l acc : List Ned), acc.Pairwise (fun a b => a.frm ≤ b.frm) → (l.foldl (fun acc x => insN x acc) acc).Pairwise (fun a b => a.frm ≤ b.frm) := by
  intro l
  induction l with
  | nil => intro acc h; exact h
  | cons x l ih =>
    intro acc h
    refine ih _ ?_
    clear ih
    induction acc with
    | nil => simp [insN]
    | cons y acc ih =>
      obtain ⟨h1, h2⟩ := List.pairwise_cons.1 h
      have ih2 := ih h2
      show List.Pairwise _ (if x.frm < y.frm then x :: y :: acc else y :: insN x acc)
      split
      · rename_i hlt
        refine List.pairwise_cons.2 ⟨fun z hz => ?_, h⟩
        rcases List.mem_cons.1 hz with rfl | hz
        · omega
        · have := h1 z hz; omega
      · rename_i hlt
        refine List.pairwise_cons.2 ⟨fun z hz => ?_, ih2⟩
        rcases List.mem_cons.1 ((insN_perm _ _).mem_iff.1 hz) with rfl | hz
        · omega
        · exact h1 z hz
 exact key l [] List.Pairwise.nil
theorem insN_mid (x : Ned) : ∀ (P : List Ned) (j : Nat), j ≤ P.length → P.Pairwise (fun a b => a.frm ≤ b.frm) → (∀ y ∈ P.drop j, x.frm < y.frm) → (0 < j → ∀ h : j - 1 < P.length, ¬ x.frm < (P[j - 1]).frm) → insN x P = P.take j ++ x :: P.drop j
 | [], j, _, _, _, _ => by simp [insN]
 | y :: P, 0, _, _, h, _ => by
   unfold insN
   rw [if_pos (h y (by simp))]
   rfl
 | y :: P, j + 1, hjl, hs, h, hj => by
   obtain ⟨h1, h2⟩ := List.pairwise_cons.1 hs
   have hy : ¬ x.frm < y.frm := by
    have hl : j < (y :: P).length := hjl
    have := hj (by omega) hl
    cases j with
    | zero => exact this
    | succ j =>
      have hjP : j < P.length := by simpa using hl
      have h3 : ¬ x.frm < (P[j]).frm := this
      have hm := h1 P[j] (List.getElem_mem hjP)
      omega
   unfold insN
   rw [if_neg hy, insN_mid x P j (by simpa using hjl) h2 h (fun hj0 hl => by
    obtain ⟨k, rfl⟩ : ∃ k, j = k + 1 := ⟨j - 1, by omega⟩
    exact hj (by omega) hjl)]
   rfl
def inTimeN (d : Ned) : Prop := 0 ≤ d.frm ∧ d.frm ≤ 1048576
def con63 : Con := { ps := [.d true (.pair yFL (.pair (.int .i64) (.pair (.int .i64) (.pair (.int .i64) .bool)))), .d true (.pair yFL (.pair (.int .i64) (.pair (.int .i64) (.pair (.int .i64) .bool))))], rs := [.d false (.int .i64)], pre := fun (x : Ned × Ned × Unit) => inTimeN x.1 ∧ inTimeN x.2.1, out := fun (x : Ned × Ned × Unit) => (x.1.frm - x.2.1.frm, ()), nw := id }
theorem c63 : CtrOk Tryz.prog 63 con63.ctr :=
 con_sound (G := ⟨[], [], [], [], []⟩) tab_ok EnvOk.nil rfl Tryz.func63 rfl con63 31 (by kernel_rfl) (by decide) (by decide) rfl (by decide) rfl (by
  rintro ⟨(a : Ned), (b : Ned), _⟩ hpre hwf X hT hG hk hK
  obtain ⟨⟨h1, h2⟩, h3, h4⟩ : inTimeN a ∧ inTimeN b := hpre
  obtain ⟨a0, (a1 : Int), (a2 : Int), (a3 : Int), a4⟩ := a
  obtain ⟨b0, (b1 : Int), (b2 : Int), (b3 : Int), b4⟩ := b
  simp only [Ned.frm] at h1 h2 h3 h4
  (simp -implicitDefEqProofs (maxSteps := 4000000) only [go_sem, Bool.not_eq_true', Bool.not_eq_false', Bool.or_eq_true, Bool.or_eq_false_iff, Bool.and_eq_true, Bool.and_eq_false_iff, decide_eq_true_eq, decide_eq_false_iff_not, Classical.not_not, not_or, maxLen, con63, hT, hG, hk, hK, Tryz.results63] at hwf ⊢); (try simp (disch := decide +kernel) only [drawn, true_and, and_true])
  (repeat' (with_reducible (first | refine And.intro ?_ ?_ | intro _))) <;> (try (first | with_reducible (first | done | assumption | omega | contradiction) | decide))
  rfl)
def con101 : Con := { ps := [.o 81 (.pair yFL (.pair (.int .i64) (.pair (.int .i64) (.pair (.int .i64) .bool)))), .d false (.int .i64), .d false (.int .i64), .cl 63 []], rs := [], pre := fun (x : List Ned × Int × Int × Unit × Unit) => x.2.1 = 0 ∧ x.2.2.1 = x.1.length ∧ x.1.length ≤ 1000 ∧ ∀ d ∈ x.1, inTimeN d, out := fun x => (), nw := fun x => (isortN x.1, x.2) }
theorem c101 : CtrOk Tryz.prog 101 con101.ctr :=
 con_sound (G := ⟨[(63, con63.ctr)], [], [], [], []⟩) tab_ok (EnvOk.cons c63 has63 EnvOk.nil) rfl Tryz.func101 rfl con101 17179886351 (by kernel_rfl) (by decide) (by decide) rfl (by decide) rfl (by
  rintro ⟨(l : List Ned), (a : Int), (b : Int), _⟩ hpre hwf X hT hG hk hK
  obtain ⟨rfl, rfl, h3, h4⟩ : a = 0 ∧ b = l.length ∧ l.length ≤ 1000 ∧ ∀ k ∈ l, inTimeN k := hpre
  (simp -implicitDefEqProofs (maxSteps := 4000000) only [go_sem, Bool.not_eq_true', Bool.not_eq_false', Bool.or_eq_true, Bool.or_eq_false_iff, Bool.and_eq_true, Bool.and_eq_false_iff, decide_eq_true_eq, decide_eq_false_iff_not, Classical.not_not, not_or, maxLen, con101, con63, hT, hG, hk, hK, Tryz.results101] at hwf ⊢); (try simp (disch := decide +kernel) only [drawn, true_and, and_true])
  (repeat' (with_reducible (first | refine And.intro ?_ ?_ | intro _))) <;> (try (first | with_reducible (first | done | assumption | omega | contradiction) | decide))
  refine evk_loop ⟨{ i : Nat // 1 ≤ i }, 1000,
   fun q => [(0, .one (.row 0)), (1, .one (.int .i64 0)), (2, .one (.int .i64 l.length)), (3, .one (.fn 63 [])), (8, .one (.int .i64 q.1))],
   fun q => [(0, .row 81 (.pair yFL (.pair (.int .i64) (.pair (.int .i64) (.pair (.int .i64) .bool)))) (isortN (l.take q.1) ++ l.drop q.1))], fun q => l.length + 1 - q.1⟩ ⟨1, Nat.le_refl 1⟩ ?_ ?_
  · simp only [go_sem]
    refine ⟨?_, rfl⟩
    cases l with
    | nil => rfl
    | cons x l => rfl
  · rintro ⟨i, (hi : 1 ≤ i)⟩
    (simp -implicitDefEqProofs (maxSteps := 4000000) only [go_sem, Bool.not_eq_true', Bool.not_eq_false', Bool.or_eq_true, Bool.or_eq_false_iff, Bool.and_eq_true, Bool.and_eq_false_iff, decide_eq_true_eq, decide_eq_false_iff_not, Classical.not_not, not_or, maxLen, con101, con63, hT, hG, hk, hK, Tryz.results101]); (try simp (disch := decide +kernel) only [drawn, true_and, and_true])
    refine ⟨fun hlt => ?_, fun hge => ?_⟩
    · have hi' : i < l.length := by omega
      have hP := isortN_len (l.take i)
      have hPm := isortN_perm (l.take i)
      have hPs := isortN_sorted (l.take i)
      have hsn : isortN (l.take (i + 1)) = insN l[i] (isortN (l.take i)) := by rw [List.take_succ_eq_append_getElem hi', isortN_snoc]
      generalize hPe : isortN (l.take i) = P at hP hPm hPs hsn ⊢
      have hPl : P.length = i := by rw [hP, List.length_take]; omega
      refine evk_loop ⟨{ j : Nat // j ≤ i ∧ ∀ y ∈ P.drop j, l[i].frm < Ned.frm y }, 2000,
       fun q => [(0, .one (.row 0)), (1, .one (.int .i64 0)), (2, .one (.int .i64 l.length)), (3, .one (.fn 63 [])), (8, .one (.int .i64 i)), (9, .one (.int .i64 q.1))],
       fun q => [(0, .row 81 (.pair yFL (.pair (.int .i64) (.pair (.int .i64) (.pair (.int .i64) .bool)))) (P.take q.1 ++ l[i] :: (P.drop q.1 ++ l.drop (i + 1))))], fun q => q.1⟩ ⟨i, Nat.le_refl i, by intro y hy; rw [List.drop_of_length_le (by omega)] at hy; cases hy⟩ ?_ ?_
      · simp only [go_sem]
        rw [List.take_of_length_le (by omega), List.drop_of_length_le (by omega : P.length ≤ i), List.nil_append, ← List.drop_eq_getElem_cons hi']
      · rintro ⟨j, (hj' : j ≤ i), (hgt : ∀ y ∈ P.drop j, l[i].frm < Ned.frm y)⟩
        (simp -implicitDefEqProofs (maxSteps := 4000000) only [go_sem, Bool.not_eq_true', Bool.not_eq_false', Bool.or_eq_true, Bool.or_eq_false_iff, Bool.and_eq_true, Bool.and_eq_false_iff, decide_eq_true_eq, decide_eq_false_iff_not, Classical.not_not, not_or, maxLen, con101, con63, hT, hG, hk, hK, Tryz.results101]); (try simp (disch := decide +kernel) only [drawn, true_and, and_true])
        have hML : (P.take j ++ l[i] :: (P.drop j ++ l.drop (i + 1))).length = l.length := by simp; omega
        have hswap := fun h => mid_swap P (l.drop (i + 1)) l[i] j h
        have hg1 := fun z => mid_at z P (l.drop (i + 1)) l[i] j (by omega)
        have hg2 := fun z h => mid_before z P (l.drop (i + 1)) l[i] j h
        have hins := insN_mid l[i] P j (by omega) hPs hgt
        have hx4 := h4 _ (List.getElem_mem hi')
        generalize hM : P.take j ++ l[i] :: (P.drop j ++ l.drop (i + 1)) = M at hML hswap hg1 hg2 ⊢
        simp only [List.length_set, hg1]
        by_cases hj0 : 0 < j
        · have hg2' := fun z => hg2 z ⟨hj0, by omega⟩
          have hsw := hswap ⟨hj0, by omega⟩
          have hp4 : inTimeN (P[j - 1]'(by omega)) := h4 _ (List.mem_of_mem_take (hPm.mem_iff.1 (List.getElem_mem _)))
          simp only [hg2', hsw]
          have hdr : P.drop (j - 1) = P[j - 1]'(by omega) :: P.drop j := by
           have := List.drop_eq_getElem_cons (show j - 1 < P.length by omega)
           rwa [show j - 1 + 1 = j by omega] at this
          generalize hpe : P[j - 1]'(by omega) = p at hp4 hdr ⊢
          have hd1 := hx4.1
          have hd2 := hx4.2
          have hd3 := hp4.1
          have hd4 := hp4.2
          (repeat' (with_reducible (first | refine And.intro ?_ ?_ | intro _))) <;> (try (first | with_reducible (first | done | assumption | omega | contradiction) | decide))
          · have hlt2 : l[i].frm < p.frm := by omega
            refine fin_lp ⟨j - 1, by omega, ?_⟩ ?_ ?_
            · intro y hy
              rw [hdr] at hy
              rcases List.mem_cons.1 hy with rfl | hy
              · exact hlt2
              · exact hgt y hy
            · simp only [go_sem]
              omega
            · dsimp only; omega
          · have hins2 := hins (fun _ h => by rw [hpe]; omega)
            refine fin_lp ⟨i + 1, by omega⟩ ?_ ?_
            · simp only [go_sem]
              refine ⟨?_, by omega⟩
              rw [hsn, hins2, ← hM]
              simp
            · dsimp only; omega
        · obtain rfl : j = 0 := by omega
          have hz : ¬ (((0 : Nat) : Int) > 0) := by omega
          have hins2 := hins (fun h => absurd h (by omega))
          (repeat' (with_reducible (first | refine And.intro ?_ ?_ | intro _))) <;> (try (first | with_reducible (first | done | assumption | omega | contradiction) | decide))
          refine fin_lp ⟨i + 1, by omega⟩ ?_ ?_
          · simp only [go_sem]
            refine ⟨?_, by omega⟩
            rw [hsn, hins2, ← hM]
            simp
          · dsimp only; omega
    · rw [List.take_of_length_le (by omega), List.drop_of_length_le (by omega), List.append_nil])
/-- A function that is not called. -/
structure NoC2 where
 ctr : Ctr
def con102 : NoC2 := ⟨fun _ _ _ => ⟨False, .one .undef, [], True⟩⟩
theorem c102 : CtrOk Tryz.prog 102 con102.ctr := by
 intro D gv hD cx hcx σ N m w fr avs vs _ _ _ h
 exact h.elim
def con75 : Con := { ps := [.o 81 (.pair yFL (.pair (.int .i64) (.pair (.int .i64) (.pair (.int .i64) .bool)))), .d false (.int .i64), .cl 63 []], rs := [], pre := fun (x : List Ned × Int × Unit × Unit) => x.2.1 = x.1.length ∧ x.1.length ≤ 19 ∧ ∀ k ∈ x.1, inTimeN k, out := fun x => (), nw := fun x => (isortN x.1, x.2) }
theorem c75 : CtrOk Tryz.prog 75 con75.ctr :=
 con_sound (G := ⟨[(101, con101.ctr), (102, con102.ctr)], [], [], [], []⟩) tab_ok (EnvOk.cons c101 has101 (EnvOk.cons c102 has102 EnvOk.nil)) rfl Tryz.func75 rfl con75 18014433942971335 (by kernel_rfl) (by decide) (by decide) rfl (by decide) rfl (by
  rintro ⟨(l : List Ned), (n : Int), _⟩ hpre hwf X hT hG hk hK
  obtain ⟨rfl, h3, h4⟩ : n = l.length ∧ l.length ≤ 19 ∧ ∀ k ∈ l, inTimeN k := hpre
  (simp -implicitDefEqProofs (maxSteps := 4000000) only [go_sem, Bool.not_eq_true', Bool.not_eq_false', Bool.or_eq_true, Bool.or_eq_false_iff, Bool.and_eq_true, Bool.and_eq_false_iff, decide_eq_true_eq, decide_eq_false_iff_not, Classical.not_not, not_or, maxLen, con75, con101, con102, hT, hG, hk, hK, Tryz.results75] at hwf ⊢); (try simp (disch := decide +kernel) only [drawn, true_and, and_true])
  refine evk_loop ⟨Unit, 1000,
   fun q => [(0, .one (.row 0)), (1, .one (.int .i64 l.length)), (2, .one (.fn 63 [])), (6, .one (.int .i64 20)), (7, .one (.int .i64 0)), (8, .one (.int .i64 20))],
   fun q => [(0, .row 81 (.pair yFL (.pair (.int .i64) (.pair (.int .i64) (.pair (.int .i64) .bool)))) l)], fun q => 0⟩ () ?_ ?_
  · simp only [go_sem]
  · rintro ⟨⟩
    (simp -implicitDefEqProofs (maxSteps := 4000000) only [go_sem, Bool.not_eq_true', Bool.not_eq_false', Bool.or_eq_true, Bool.or_eq_false_iff, Bool.and_eq_true, Bool.and_eq_false_iff, decide_eq_true_eq, decide_eq_false_iff_not, Classical.not_not, not_or, maxLen, con75, con101, con102, hT, hG, hk, hK, Tryz.results75]); (try simp (disch := decide +kernel) only [drawn, true_and, and_true])
    refine ⟨fun h => absurd h (by omega), fun _ => ⟨⟨by omega, h4⟩, ?_⟩⟩
    refine evk_loop ⟨Unit, 2000,
     fun q => [(0, .one (.row 0)), (1, .one (.int .i64 l.length)), (2, .one (.fn 63 [])), (6, .one (.int .i64 20)), (7, .one (.int .i64 0)), (8, .one (.int .i64 20))],
     fun q => [(0, .row 81 (.pair yFL (.pair (.int .i64) (.pair (.int .i64) (.pair (.int .i64) .bool)))) (isortN l))], fun q => 0⟩ () ?_ ?_
    · simp only [go_sem]
    · rintro ⟨⟩
      (simp -implicitDefEqProofs (maxSteps := 4000000) only [go_sem, Bool.not_eq_true', Bool.not_eq_false', Bool.or_eq_true, Bool.or_eq_false_iff, Bool.and_eq_true, Bool.and_eq_false_iff, decide_eq_true_eq, decide_eq_false_iff_not, Classical.not_not, not_or, maxLen, con75, con101, con102, hT, hG, hk, hK, Tryz.results75]); (try simp (disch := decide +kernel) only [drawn, true_and, and_true])
      exact fun h => absurd h (by omega))
def con62 : Con := { ps := [.o 81 (.pair yFL (.pair (.int .i64) (.pair (.int .i64) (.pair (.int .i64) .bool)))), .cl 63 []], rs := [], pre := fun (x : List Ned × Unit × Unit) => x.1.length ≤ 19 ∧ ∀ k ∈ x.1, inTimeN k, out := fun x => (), nw := fun x => (isortN x.1, x.2) }
theorem c62 : CtrOk Tryz.prog 62 con62.ctr :=
 con_sound (G := ⟨[(75, con75.ctr)], [], [], [], []⟩) tab_ok (EnvOk.cons c75 has75 EnvOk.nil) rfl Tryz.func62 rfl con62 3 (by kernel_rfl) (by decide) (by decide) rfl (by decide) rfl (by
  rintro ⟨(l : List Ned), _⟩ hpre hwf X hT hG hk hK
  obtain ⟨h3, h4⟩ : l.length ≤ 19 ∧ ∀ k ∈ l, inTimeN k := hpre
  (simp -implicitDefEqProofs (maxSteps := 4000000) only [go_sem, Bool.not_eq_true', Bool.not_eq_false', Bool.or_eq_true, Bool.or_eq_false_iff, Bool.and_eq_true, Bool.and_eq_false_iff, decide_eq_true_eq, decide_eq_false_iff_not, Classical.not_not, not_or, maxLen, con62, con75, hT, hG, hk, hK, Tryz.results62] at hwf ⊢); (try simp (disch := decide +kernel) only [drawn, true_and, and_true])
  (repeat' (with_reducible (first | refine And.intro ?_ ?_ | intro _))) <;> (try (first | with_reducible (first | done | assumption | omega | contradiction) | decide))
  all_goals exact h4 _ (by assumption))
end Go.Proofs.YtdeihcabmpcaoaaGreat

/- The contracts of replan's functions: arguments, what is fixed, what has moved. -/
set_option linter.unusedSimpArgs false
set_option linter.unusedVariables false
set_option maxRecDepth 100000
set_option maxHeartbeats 4000000
namespace Go.Proofs.YtdeihcabmpcaoaaGreat
open Go.Ev

def closedV (d : Dep) (t : Int) : Bool := !decide (d.state = 0) || decide (t ≥ d.closes)
def con59 : Con := { ps := [.d true yDP, .d false (.int .i64)], rs := [.d false .bool], pre := fun _ => True, out := fun x => (closedV x.1 x.2.1, ()), nw := id }
theorem c59 : CtrOk Tryz.prog 59 con59.ctr :=
 con_sound (G := ⟨[], [], [], [], []⟩) tab_ok EnvOk.nil rfl Tryz.func59 rfl con59 23 (by kernel_rfl) (by decide) (by decide) rfl (by decide) rfl (by
  rintro ⟨(a : Dep), (t : Int), _⟩ hpre hwf X hT hG hk hK
  obtain ⟨a0, a1, (a2 : Int), (a3 : Int), (a4 : Int), (a5 : Int), (a6 : Int)⟩ := a
  (simp -implicitDefEqProofs (maxSteps := 4000000) only [go_sem, Bool.not_eq_true', Bool.not_eq_false', Bool.or_eq_true, Bool.or_eq_false_iff, Bool.and_eq_true, Bool.and_eq_false_iff, decide_eq_true_eq, decide_eq_false_iff_not, Classical.not_not, not_or, maxLen, con59, hT, hG, hk, hK, Tryz.results59] at hwf ⊢); (try simp (disch := decide +kernel) only [drawn, true_and, and_true])
  unfold closedV
  simp only [Dep.state, Dep.closes]
  (repeat' (with_reducible (first | refine And.intro ?_ ?_ | intro _))) <;> (try (first | with_reducible (first | done | assumption | omega | contradiction) | decide))
  by_cases h : a6 = 0 <;> simp [h])
def con43 : Con := { ps := [.d true yDP, .d false (.int .i64)], rs := [.d false .bool], pre := fun _ => True, out := fun x => (closedV x.1 x.2.1, ()), nw := id }
theorem c43 : CtrOk Tryz.prog 43 con43.ctr :=
 con_sound (G := ⟨[], [], [], [], []⟩) tab_ok EnvOk.nil rfl Tryz.func43 rfl con43 23 (by kernel_rfl) (by decide) (by decide) rfl (by decide) rfl (by
  rintro ⟨(a : Dep), (t : Int), _⟩ hpre hwf X hT hG hk hK
  obtain ⟨a0, a1, (a2 : Int), (a3 : Int), (a4 : Int), (a5 : Int), (a6 : Int)⟩ := a
  (simp -implicitDefEqProofs (maxSteps := 4000000) only [go_sem, Bool.not_eq_true', Bool.not_eq_false', Bool.or_eq_true, Bool.or_eq_false_iff, Bool.and_eq_true, Bool.and_eq_false_iff, decide_eq_true_eq, decide_eq_false_iff_not, Classical.not_not, not_or, maxLen, con43, hT, hG, hk, hK, Tryz.results43] at hwf ⊢); (try simp (disch := decide +kernel) only [drawn, true_and, and_true])
  unfold closedV
  simp only [Dep.state, Dep.closes]
  (repeat' (with_reducible (first | refine And.intro ?_ ?_ | intro _))) <;> (try (first | with_reducible (first | done | assumption | omega | contradiction) | decide))
  by_cases h : a6 = 0 <;> simp [h])
def minV : List Int → Int
 | [] => 0
 | x :: l => l.foldl (fun m y => if y < m then y else m) x
theorem minV_snoc {l : List Int} (h : 0 < l.length) (y : Int) : minV (l ++ [y]) = if y < minV l then y else minV l := by
 cases l with
 | nil => simp at h
 | cons x l => simp only [minV, List.cons_append, List.foldl_append, List.foldl_cons, List.foldl_nil]; rfl
theorem minV_lt : ∀ {l : List Int}, 0 < l.length → (minV l < 0 ↔ l.all (fun c => decide (0 ≤ c)) = false) := by
 have key : ∀ (l : List Int) (x : Int), l.foldl (fun m y => if y < m then y else m) x < 0 ↔ (x :: l).all (fun c => decide (0 ≤ c)) = false := by
  intro l
  induction l with
  | nil => intro x; simp
  | cons y l ih =>
    intro x
    simp only [List.foldl_cons]
    rw [ih]
    simp only [List.all_cons, Bool.and_eq_false_iff, decide_eq_false_iff_not]
    split <;> constructor <;> intro h <;> (rcases h with h | h <;> (try rcases h with h | h) <;> (first | (left; omega) | (right; left; omega) | (right; right; exact h) | (right; exact h)))
 intro l h
 cases l with
 | nil => simp at h
 | cons x l => exact key l x
def con60 : Con := { ps := [.d false (.sl (.int .i64))], rs := [.d false (.int .i64)], pre := fun (x : List Int × Unit) => 0 < x.1.length, out := fun x => (minV x.1, ()), nw := id }
theorem c60 : CtrOk Tryz.prog 60 con60.ctr :=
 con_sound (G := ⟨[], [], [], [], []⟩) tab_ok EnvOk.nil rfl Tryz.func60 rfl con60 32925 (by kernel_rfl) (by decide) (by decide) rfl (by decide) rfl (by
  rintro ⟨(l : List Int), _⟩ hpre hwf X hT hG hk hK
  have hl : 0 < l.length := hpre
  (simp -implicitDefEqProofs (maxSteps := 4000000) only [go_sem, Bool.not_eq_true', Bool.not_eq_false', Bool.or_eq_true, Bool.or_eq_false_iff, Bool.and_eq_true, Bool.and_eq_false_iff, decide_eq_true_eq, decide_eq_false_iff_not, Classical.not_not, not_or, maxLen, con60, hT, hG, hk, hK, Tryz.results60] at hwf ⊢); (try simp (disch := decide +kernel) only [drawn, true_and, and_true])
  refine fun hlm => ⟨fun h => absurd h (by omega), fun _ => ⟨by omega, fun _ _ => ?_⟩⟩
  refine evk_loop ⟨{ i : Nat // i + 1 ≤ l.length }, 1000, fun i => [(0, .one (.sl (.int .i64) l false)), (3, .one (.int .i64 (minV (l.take (i.1 + 1))))), (4, .one (.int .i64 (i.1 + 1)))], fun i => [], fun i => l.length - i.1⟩ ⟨0, hl⟩ ?_ ?_
  · simp only [go_sem]
    cases l with
    | nil => simp at hl
    | cons x l => simp [minV]
  · rintro ⟨i, (hi : i + 1 ≤ l.length)⟩
    (simp -implicitDefEqProofs (maxSteps := 4000000) only [go_sem, Bool.not_eq_true', Bool.not_eq_false', Bool.or_eq_true, Bool.or_eq_false_iff, Bool.and_eq_true, Bool.and_eq_false_iff, decide_eq_true_eq, decide_eq_false_iff_not, Classical.not_not, not_or, maxLen, con60, hT, hG, hk, hK, Tryz.results60]); (try simp (disch := decide +kernel) only [drawn, true_and, and_true])
    refine fun _ => ⟨fun hlt => ?_, fun hge => ?_⟩
    · have hi' : i + 1 < l.length := by omega
      have ek : ∀ z, l.getD ((i : Int) + 1).toNat z = l[i + 1] := fun z => by rw [show ((i : Int) + 1).toNat = i + 1 by omega]; simp [hi']
      simp only [ek]
      have hst : minV (l.take (i + 1 + 1)) = if l[i + 1] < minV (l.take (i + 1)) then l[i + 1] else minV (l.take (i + 1)) := by
       rw [List.take_succ_eq_append_getElem hi', minV_snoc (by rw [List.length_take]; omega)]
      (repeat' (with_reducible (first | refine And.intro ?_ ?_ | intro _))) <;> (try (first | with_reducible (first | done | assumption | omega | contradiction) | decide))
      refine fin_lp ⟨i + 1, by omega⟩ ?_ ?_
      · simp only [go_sem]
        rw [hst]
        exact ⟨by omega, rfl⟩
      · dsimp only; omega
    · rw [List.take_of_length_le (by omega)])
/-- How many departures are not closed. -/
def actN (l : List Dep) (t : Int) : Nat := l.countP (fun d => !closedV d t)
theorem actN_snoc (l : List Dep) (t : Int) (d : Dep) : actN (l ++ [d]) t = if (!closedV d t) = true then actN l t + 1 else actN l t := by
 unfold actN
 rw [List.countP_append]
 simp only [List.countP_cons, List.countP_nil]
 cases closedV d t <;> simp
theorem actN_le (l : List Dep) (t : Int) : actN l t ≤ l.length := List.countP_le_length
def argR (l : List Dep) (cs : List Int) (t : Int) : Int :=
 if validateV l ≠ 0 then validateV l else if (actN l t : Int) > 16 ∨ (cs.length : Int) > 6 then 2 else if cs.all (fun c => decide (0 ≤ c)) = false then 1 else if ascI cs = false then 9 else 0
def con32 : Con := { ps := [.d false (.sl yDP), .d false (.sl (.int .i64)), .d false (.int .i64)], rs := [.d false (.int .i64)], pre := fun (x : List Dep × List Int × Int × Unit) => x.1.length ≤ 1048576, out := fun (x : List Dep × List Int × Int × Unit) => (argR x.1 x.2.1 x.2.2.1, ()), nw := id }
theorem c32 : CtrOk Tryz.prog 32 con32.ctr :=
 con_sound (G := ⟨[(51, con51.ctr), (59, con59.ctr), (60, con60.ctr)], [], [], [], []⟩) tab_ok (EnvOk.cons c51 has51 (EnvOk.cons c59 has59 (EnvOk.cons c60 has60 EnvOk.nil))) rfl Tryz.func32 rfl con32 1153220640558190023 (by kernel_rfl) (by decide) (by decide) rfl (by decide) rfl (by
  rintro ⟨(l : List Dep), (cs : List Int), (t : Int), _⟩ hpre hwf X hT hG hk hK
  have hl : l.length ≤ 1048576 := hpre
  (simp -implicitDefEqProofs (maxSteps := 4000000) only [go_sem, Bool.not_eq_true', Bool.not_eq_false', Bool.or_eq_true, Bool.or_eq_false_iff, Bool.and_eq_true, Bool.and_eq_false_iff, decide_eq_true_eq, decide_eq_false_iff_not, Classical.not_not, not_or, maxLen, con32, con51, con59, con60, hT, hG, hk, hK, Tryz.results32] at hwf ⊢); (try simp (disch := decide +kernel) only [drawn, true_and, and_true])
  clear hwf
  refine fun _ => ⟨fun h => ?_, fun h0 hlm => ?_⟩
  · unfold argR; rw [if_pos h]
  refine evk_loop ⟨{ i : Nat // i ≤ l.length }, 1000, fun i => [(0, .one (.sl yDP l false)), (1, .one (.sl (.int .i64) cs false)), (2, .one (.int .i64 t)), (8, .one (.int .i64 (actN (l.take i.1) t))), (17, .one (.sl yDP l false)), (18, .one (.int .i64 l.length)), (19, .one (.int .i64 i.1))], fun i => [], fun i => l.length - i.1⟩ ⟨0, Nat.zero_le _⟩ ?_ ?_
  · simp only [go_sem]
    exact ⟨rfl, rfl⟩
  · rintro ⟨i, (hi : i ≤ l.length)⟩
    (simp -implicitDefEqProofs (maxSteps := 4000000) only [go_sem, Bool.not_eq_true', Bool.not_eq_false', Bool.or_eq_true, Bool.or_eq_false_iff, Bool.and_eq_true, Bool.and_eq_false_iff, decide_eq_true_eq, decide_eq_false_iff_not, Classical.not_not, not_or, maxLen, con32, con51, con59, con60, hT, hG, hk, hK, Tryz.results32]); (try simp (disch := decide +kernel) only [drawn, true_and, and_true])
    refine ⟨fun hlt => ?_, fun hge => ?_⟩
    · have hi' : i < l.length := by omega
      have ek : ∀ z, l.getD (i : Int).toNat z = l[i] := fun z => by simp [hi']
      simp only [ek]
      have hst : actN (l.take (i + 1)) t = if (!closedV l[i] t) = true then actN (l.take i) t + 1 else actN (l.take i) t := by
       rw [List.take_succ_eq_append_getElem hi', actN_snoc]
      have hlen := actN_le (l.take i) t
      rw [List.length_take] at hlen
      (repeat' (with_reducible (first | refine And.intro ?_ ?_ | intro _))) <;> (try (first | with_reducible (first | done | assumption | omega | contradiction) | decide))
      · have h : closedV l[i] t = false := by assumption
        refine fin_lp ⟨i + 1, by omega⟩ ?_ ?_
        · simp only [go_sem]
          rw [hst, if_pos (by rw [h]; rfl)]
          exact ⟨by omega, by omega⟩
        · dsimp only; omega
      · have h : closedV l[i] t = true := by assumption
        refine fin_lp ⟨i + 1, by omega⟩ ?_ ?_
        · simp only [go_sem]
          rw [hst, if_neg (by rw [h]; simp)]
          exact ⟨rfl, by omega⟩
        · dsimp only; omega
    · rw [List.take_of_length_le (by omega)]
      have e0 : argR l cs t = if (actN l t : Int) > 16 ∨ (cs.length : Int) > 6 then 2 else if cs.all (fun c => decide (0 ≤ c)) = false then 1 else if ascI cs = false then 9 else 0 := by
       unfold argR; rw [if_neg (by omega)]
      refine fun _ => ⟨fun h => by rw [e0, if_pos h], fun hn hlc => ?_⟩
      rw [if_neg (by omega)] at e0
      refine ⟨fun h => by omega, fun _ => ⟨fun h => ?_, fun hr => ?_⟩⟩
      · rw [e0, if_pos ((minV_lt (by omega)).1 h.2)]
      have hr2 : ¬ cs.all (fun c => decide (0 ≤ c)) = false := fun h => by
       rcases hr with hr | hr
       · have : cs = [] := List.eq_nil_of_length_eq_zero (by omega)
         rw [this] at h; simp at h
       · have : 0 < cs.length := by
          cases cs with
          | nil => simp at h
          | cons a l => simp
         exact hr ((minV_lt this).2 h)
      rw [if_neg hr2] at e0
      refine evk_loop ⟨{ i : Nat // (i ≤ cs.length ∨ i = 0) ∧ ascI cs = ascI (cs.drop i) }, 2000, fun i => [(1, .one (.sl (.int .i64) cs false)), (11, .one (.int .i64 (i.1 + 1)))], fun _ => [], fun i => cs.length - i.1⟩ ⟨0, by simp, by simp⟩ ?_ ?_
      · simp only [go_sem]
        rfl
      · rintro ⟨i, (hi : i ≤ cs.length ∨ i = 0), (he : ascI cs = ascI (cs.drop i))⟩
        (simp -implicitDefEqProofs (maxSteps := 4000000) only [go_sem, Bool.not_eq_true', Bool.not_eq_false', Bool.or_eq_true, Bool.or_eq_false_iff, Bool.and_eq_true, Bool.and_eq_false_iff, decide_eq_true_eq, decide_eq_false_iff_not, Classical.not_not, not_or, maxLen, con32, con51, con59, con60, hT, hG, hk, hK, Tryz.results32]); (try simp (disch := decide +kernel) only [drawn, true_and, and_true])
        refine fun _ => ⟨fun hlt => ?_, fun hge => ?_⟩
        · have hi' : i < cs.length := by omega
          have hi2 : i + 1 < cs.length := by omega
          have ek : ∀ z, cs.getD ((i : Int) + 1).toNat z = cs[i + 1] := fun z => by
           rw [show ((i : Int) + 1).toNat = i + 1 by omega]; simp [hi2]
          have ek2 : ∀ z, cs.getD ((i : Int) + 1 - 1).toNat z = cs[i] := fun z => by
           rw [show ((i : Int) + 1 - 1).toNat = i by omega]; simp [hi']
          simp only [ek, ek2]
          have hst : ascI cs = (decide (cs[i] < cs[i + 1]) && ascI (cs.drop (i + 1))) := by
           rw [he, List.drop_eq_getElem_cons hi', List.drop_eq_getElem_cons hi2, ascI]
          (repeat' (with_reducible (first | refine And.intro ?_ ?_ | intro _))) <;> (try (first | with_reducible (first | done | assumption | omega | contradiction) | decide))
          · rename_i h
            rw [e0, hst, decide_eq_false (by omega)]
            rfl
          · rename_i h
            refine fin_lp ⟨i + 1, by omega, by rw [hst, decide_eq_true (by omega)]; rfl⟩ (by simp only [go_sem]; first | rfl | ((repeat' apply And.intro) <;> first | rfl | assumption | omega)) (by dsimp only; omega)
        · have ha : ascI cs = true := by
           rw [he]
           rcases h : cs.drop i with _ | ⟨a, _ | ⟨b, q⟩⟩
           · rfl
           · rfl
           · have := congrArg List.length h
             rw [List.length_drop] at this
             simp only [List.length_cons] at this
             omega
          rw [e0, if_neg (by rw [ha]; simp)])
def inC (cs : List Int) (c : Int) : Bool := decide (idxF (fun y : Int => decide (c = y)) cs 0 ≥ 0)
def fixB (cs : List Int) (old : List All) (t : Int) (d : Dep) : Bool := (chV old d.1).2 && isOpenV d t && inC cs (chV old d.1).1
def fixV (l : List Dep) (cs : List Int) (old : List All) (t : Int) : List All := (l.filter (fixB cs old t)).map (fun d => (d.1, (chV old d.1).1))
theorem fixV_snoc (l : List Dep) (cs : List Int) (old : List All) (t : Int) (d : Dep) : fixV (l ++ [d]) cs old t = if fixB cs old t d = true then fixV l cs old t ++ [(d.1, (chV old d.1).1)] else fixV l cs old t := by
 unfold fixV
 rw [List.filter_append]
 cases h : fixB cs old t d <;> simp [h]
theorem fixV_len (l : List Dep) (cs : List Int) (old : List All) (t : Int) : (fixV l cs old t).length ≤ l.length := by
 unfold fixV; rw [List.length_map]; exact List.length_filter_le _ _
def con33 : Con := { ps := [.d false (.sl yDP), .d false (.sl (.int .i64)), .d false (.sl (.pair yFL (.int .i64))), .d false (.int .i64)], rs := [.o 46 (.pair yFL (.int .i64))], pre := fun (x : List Dep × List Int × List All × Int × Unit) => x.1.length ≤ 1048576, out := fun (x : List Dep × List Int × List All × Int × Unit) => (fixV x.1 x.2.1 x.2.2.1 x.2.2.2.1, ()), nw := id }
theorem c33 : CtrOk Tryz.prog 33 con33.ctr :=
 con_sound (G := ⟨[(58, con58.ctr), (53, con53.ctr), (48, con48.ctr)], [], [], [], []⟩) tab_ok (EnvOk.cons c58 has58 (EnvOk.cons c53 has53 (EnvOk.cons c48 has48 EnvOk.nil))) rfl Tryz.func33 rfl con33 137439214351 (by kernel_rfl) (by decide) (by decide) rfl (by decide) rfl (by
  rintro ⟨(l : List Dep), (cs : List Int), (old : List All), (t : Int), _⟩ hpre hwf X hT hG hk hK
  have hl : l.length ≤ 1048576 := hpre
  (simp -implicitDefEqProofs (maxSteps := 4000000) only [go_sem, Bool.not_eq_true', Bool.not_eq_false', Bool.or_eq_true, Bool.or_eq_false_iff, Bool.and_eq_true, Bool.and_eq_false_iff, decide_eq_true_eq, decide_eq_false_iff_not, Classical.not_not, not_or, maxLen, con33, con58, con53, con48, hT, hG, hk, hK, Tryz.results33] at hwf ⊢); (try simp (disch := decide +kernel) only [drawn, true_and, and_true])
  clear hwf
  refine fun hlm => ?_
  refine evk_loop ⟨{ i : Nat // i ≤ l.length }, 1000, fun i => [(0, .one (.sl yDP l false)), (1, .one (.sl (.int .i64) cs false)), (2, .one (.sl (.pair yFL (.int .i64)) old false)), (3, .one (.int .i64 t)), (9, .one (.row 64)), (14, .one (.sl yDP l false)), (15, .one (.int .i64 l.length)), (16, .one (.int .i64 i.1))], fun i => [(64, .row 46 (.pair yFL (.int .i64)) (fixV (l.take i.1) cs old t))], fun i => l.length - i.1⟩ ⟨0, Nat.zero_le _⟩ ?_ ?_
  · simp only [go_sem]
    exact ⟨rfl, rfl⟩
  · rintro ⟨i, (hi : i ≤ l.length)⟩
    (simp -implicitDefEqProofs (maxSteps := 4000000) only [go_sem, Bool.not_eq_true', Bool.not_eq_false', Bool.or_eq_true, Bool.or_eq_false_iff, Bool.and_eq_true, Bool.and_eq_false_iff, decide_eq_true_eq, decide_eq_false_iff_not, Classical.not_not, not_or, maxLen, con33, con58, con53, con48, hT, hG, hk, hK, Tryz.results33]); (try simp (disch := decide +kernel) only [drawn, true_and, and_true])
    refine ⟨fun hlt => ?_, fun hge => ?_⟩
    · have hi' : i < l.length := by omega
      have ek : ∀ z, l.getD (i : Int).toNat z = l[i] := fun z => by simp [hi']
      simp only [ek]
      have hst := fixV_snoc (l.take i) cs old t l[i]
      rw [← List.take_succ_eq_append_getElem hi'] at hst
      have hlen := fixV_len (l.take i) cs old t
      rw [List.length_take] at hlen
      unfold fixB inC at hst
      refine ⟨by omega, fun _ _ _ => ⟨fun h => ⟨by omega, by omega, ?_⟩, fun h => ⟨by omega, ?_⟩⟩⟩
      · refine fin_lp ⟨i + 1, by omega⟩ ?_ ?_
        · simp only [go_sem]
          rw [hst, if_pos (by simp only [Bool.and_eq_true, decide_eq_true_eq]; exact h)]
          exact ⟨rfl, by omega⟩
        · dsimp only; omega
      · refine fin_lp ⟨i + 1, by omega⟩ ?_ ?_
        · simp only [go_sem]
          rw [hst, if_neg (by
           simp only [Bool.and_eq_true, decide_eq_true_eq]
           intro hb
           rcases h with (h | h) | h
           · rw [hb.1.1] at h; cases h
           · rw [hb.1.2] at h; cases h
           · exact h hb.2)]
          exact ⟨rfl, by omega⟩
        · dsimp only; omega
    · rw [List.take_of_length_le (by omega)])
def movB (cs : List Int) (old : List All) (a : All) : Bool := (chV old a.1).2 && !decide ((chV old a.1).1 = a.2) && inC cs (chV old a.1).1
def movV (cs : List Int) (old p : List All) : List Flt := (p.filter (movB cs old)).map (fun a => a.1)
theorem movV_snoc (cs : List Int) (old p : List All) (a : All) : movV cs old (p ++ [a]) = if movB cs old a = true then movV cs old p ++ [a.1] else movV cs old p := by
 unfold movV
 rw [List.filter_append]
 cases h : movB cs old a <;> simp [h]
theorem movV_len (cs : List Int) (old p : List All) : (movV cs old p).length ≤ p.length := by
 unfold movV; rw [List.length_map]; exact List.length_filter_le _ _
def con30 : Con := { ps := [.d false (.sl (.int .i64)), .d false (.sl (.pair yFL (.int .i64))), .d false (.sl (.pair yFL (.int .i64)))], rs := [.o 44 yFL], pre := fun (x : List Int × List All × List All × Unit) => x.2.2.1.length ≤ 1048576, out := fun (x : List Int × List All × List All × Unit) => (movV x.1 x.2.1 x.2.2.1, ()), nw := id }
theorem c30 : CtrOk Tryz.prog 30 con30.ctr :=
 con_sound (G := ⟨[(58, con58.ctr), (48, con48.ctr)], [], [], [], []⟩) tab_ok (EnvOk.cons c58 has58 (EnvOk.cons c48 has48 EnvOk.nil)) rfl Tryz.func30 rfl con30 68719541959 (by kernel_rfl) (by decide) (by decide) rfl (by decide) rfl (by
  rintro ⟨(cs : List Int), (old : List All), (l : List All), _⟩ hpre hwf X hT hG hk hK
  have hl : l.length ≤ 1048576 := hpre
  (simp -implicitDefEqProofs (maxSteps := 4000000) only [go_sem, Bool.not_eq_true', Bool.not_eq_false', Bool.or_eq_true, Bool.or_eq_false_iff, Bool.and_eq_true, Bool.and_eq_false_iff, decide_eq_true_eq, decide_eq_false_iff_not, Classical.not_not, not_or, maxLen, con30, con58, con48, hT, hG, hk, hK, Tryz.results30] at hwf ⊢); (try simp (disch := decide +kernel) only [drawn, true_and, and_true])
  clear hwf
  refine fun hlm => ?_
  refine evk_loop ⟨{ i : Nat // i ≤ l.length }, 1000, fun i => [(0, .one (.sl (.int .i64) cs false)), (1, .one (.sl (.pair yFL (.int .i64)) old false)), (7, .one (.row 64)), (12, .one (.sl (.pair yFL (.int .i64)) l false)), (13, .one (.int .i64 l.length)), (14, .one (.int .i64 i.1))], fun i => [(64, .row 44 yFL (movV cs old (l.take i.1)))], fun i => l.length - i.1⟩ ⟨0, Nat.zero_le _⟩ ?_ ?_
  · simp only [go_sem]
    exact ⟨rfl, rfl⟩
  · rintro ⟨i, (hi : i ≤ l.length)⟩
    (simp -implicitDefEqProofs (maxSteps := 4000000) only [go_sem, Bool.not_eq_true', Bool.not_eq_false', Bool.or_eq_true, Bool.or_eq_false_iff, Bool.and_eq_true, Bool.and_eq_false_iff, decide_eq_true_eq, decide_eq_false_iff_not, Classical.not_not, not_or, maxLen, con30, con58, con48, hT, hG, hk, hK, Tryz.results30]); (try simp (disch := decide +kernel) only [drawn, true_and, and_true])
    refine ⟨fun hlt => ?_, fun hge => ?_⟩
    · have hi' : i < l.length := by omega
      have ek : ∀ z, l.getD (i : Int).toNat z = l[i] := fun z => by simp [hi']
      simp only [ek]
      have hst := movV_snoc cs old (l.take i) l[i]
      rw [← List.take_succ_eq_append_getElem hi'] at hst
      have hlen := movV_len cs old (l.take i)
      rw [List.length_take] at hlen
      unfold movB inC at hst
      refine ⟨by omega, fun _ _ _ => ⟨fun h => ⟨by omega, by omega, ?_⟩, fun h => ⟨by omega, ?_⟩⟩⟩
      · refine fin_lp ⟨i + 1, by omega⟩ ?_ ?_
        · simp only [go_sem]
          rw [hst, if_pos (by simp only [Bool.and_eq_true, decide_eq_true_eq, Bool.not_eq_true', decide_eq_false_iff_not]; exact h)]
          exact ⟨rfl, by omega⟩
        · dsimp only; omega
      · refine fin_lp ⟨i + 1, by omega⟩ ?_ ?_
        · simp only [go_sem]
          rw [hst, if_neg (by
           simp only [Bool.and_eq_true, decide_eq_true_eq, Bool.not_eq_true', decide_eq_false_iff_not]
           intro hb
           rcases h with (h | h) | h
           · rw [hb.1.1] at h; cases h
           · exact hb.1.2 h
           · exact h hb.2)]
          exact ⟨rfl, by omega⟩
        · dsimp only; omega
    · rw [List.take_of_length_le (by omega)])
end Go.Proofs.YtdeihcabmpcaoaaGreat
