/- Order, Off, On, Remaining. -/
import Derived.Test.YteheklpenjjfaaaGreatOfKFToKY
set_option linter.unusedSimpArgs false
set_option linter.unusedVariables false
set_option maxRecDepth 100000
set_option maxHeartbeats 8000000
namespace Go.Proofs.YteheklpenjjfaaaGreat
open Go.Ev

/-- Two contracts of one function: one if the second argument is this closure, one if not. -/
def isFnA (g : FuncId) : List AV → Bool
 | [_, .one (.fn g' _)] => decide (g' = g)
 | _ => false
def orFn (g : FuncId) (A B : Ctr) : Ctr := fun avs m fr => if isFnA g avs = true then A avs m fr else B avs m fr
theorem orFn_ok {P : Program} {f : FuncId} {g : FuncId} {A B : Ctr} (hA : CtrOk P f A) (hB : CtrOk P f B) : CtrOk P f (orFn g A B) := by
 intro D gv hD cx hcx σ N m w fr avs vs h1 h2 h3 h4
 unfold orFn at h4 ⊢
 by_cases h : isFnA g avs = true
 · simp only [if_pos h] at h4 ⊢; exact hA D gv hD cx hcx σ N m w fr avs vs h1 h2 h3 h4
 · simp only [if_neg h] at h4 ⊢; exact hB D gv hD cx hcx σ N m w fr avs vs h1 h2 h3 h4
attribute [go_sem] isFnA orFn
/-- A container is one of the tasks. -/
def hitV (t : List Tsk) (x : Cnt) : Bool := t.any (fun y => decide (y.1 = x.num))
def conIxA : Con := { ps := [.d false (.sl yTK), .cl 36 [.p 44 yCT]], rs := [.d false (.int .i64)], pre := fun _ => True, out := fun (x : List Tsk × (Cnt × Unit) × Unit) => (idxV (fun (y : Tsk) => decide (y.1 = x.2.1.1.num)) x.1, ()), nw := id }
theorem cIxA : CtrOk Tryz.prog 52 conIxA.ctr :=
 con_sound (G := ⟨[(36, con36.ctr)], [], [], [], []⟩) tab_ok (EnvOk.cons c36 has36 EnvOk.nil) rfl Tryz.func52 rfl conIxA 66483 (by kernel_rfl) (by decide) (by decide) rfl (by decide) rfl (by
  rintro ⟨(l : List Tsk), ⟨⟨(n : Int), ⟨a1, (a2 : Int), a3, (a4 : Int)⟩, (c : Int), (lm : Int), (t : Int), (p : Int), (r : Int), (pl : List Pce)⟩, _⟩, _⟩ hpre hwf X hT hG hk hK
  (simp -implicitDefEqProofs (maxSteps := 4000000) only [go_sem, Bool.not_eq_true', Bool.not_eq_false', Bool.or_eq_true, Bool.or_eq_false_iff, Bool.and_eq_true, Bool.and_eq_false_iff, decide_eq_true_eq, decide_eq_false_iff_not, Classical.not_not, not_or, maxLen, conIxA, con36, hT, hG, hk, hK, Tryz.results52] at hwf ⊢); (try simp (disch := decide +kernel) only [drawn, true_and, and_true])
  clear hwf
  refine fun _ => evk_loop ⟨{ i : Nat // i ≤ l.length ∧ ∀ k, k < i → (fun (y : Tsk) => decide (y.1 = n)) (l.getD k tk0) = false }, 1000, fun q => [(0, .one (.sl yTK l false)), (1, .one (.fn 36 [.loc 12 0])), (4, .one (.int .i64 0)), (7, .one (.int .i64 l.length)), (8, .one (.int .i64 q.1))], fun q => [(12, .cells 44 [.int .i64 n, .str a1, .int .i64 a2, .str a3, .int .i64 a4, .int .i64 c, .int .i64 lm, .int .i64 t, .int .i64 p, .int .i64 r, .sl yPC pl false])], fun q => l.length - q.1⟩ ⟨0, by omega, fun k hk => by omega⟩ ?_ ?_
  · simp only [go_sem]
    try (first | rfl | exact ⟨rfl, rfl⟩ | (and_intros <;> first | trivial | rfl | omega))
  · rintro ⟨i, (hi : i ≤ l.length), hz⟩
    (simp -implicitDefEqProofs (maxSteps := 4000000) only [go_sem, Bool.not_eq_true', Bool.not_eq_false', Bool.or_eq_true, Bool.or_eq_false_iff, Bool.and_eq_true, Bool.and_eq_false_iff, decide_eq_true_eq, decide_eq_false_iff_not, Classical.not_not, not_or, maxLen, conIxA, con36, hT, hG, hk, hK, Tryz.results52]); (try simp (disch := decide +kernel) only [drawn, true_and, and_true])
    obtain ⟨o, ho⟩ : ∃ o, l.getD i tk0 = o := ⟨_, rfl⟩
    have eo : l.getD (i : Int).toNat (0, []) = o := ho
    simp only [eo]
    (repeat' (with_reducible (first | refine And.intro ?_ ?_ | intro _))) <;> (try (first | with_reducible (first | done | assumption | omega | contradiction) | decide))
    all_goals first
     | (have h : o.1 = n := by assumption
        exact (idxV_at (d := tk0) hz (by omega) (by show decide ((l.getD i tk0).1 = n) = true; rw [ho]; exact decide_eq_true h)).symm)
     | (have h : ¬ o.1 = n := by assumption
        refine fin_lp ⟨i + 1, by omega, lt_succ hz (by show decide ((l.getD i tk0).1 = n) = false; rw [ho]; exact decide_eq_false h)⟩ (by simp only [go_sem]; first | rfl | ((repeat' apply And.intro) <;> first | rfl | assumption | omega)) (by dsimp only; omega)
        done)
     | exact (idxV_none (d := tk0) fun k hk => hz k (by omega)).symm
     | fail)
def conIxB : Con := { ps := [.d false (.sl yTK), .cl 37 [.p 44 yCT]], rs := [.d false (.int .i64)], pre := fun _ => True, out := fun (x : List Tsk × (Cnt × Unit) × Unit) => (idxV (fun (y : Tsk) => decide (y.1 = x.2.1.1.num)) x.1, ()), nw := id }
theorem cIxB : CtrOk Tryz.prog 52 conIxB.ctr :=
 con_sound (G := ⟨[(37, con37.ctr)], [], [], [], []⟩) tab_ok (EnvOk.cons c37 has37 EnvOk.nil) rfl Tryz.func52 rfl conIxB 66483 (by kernel_rfl) (by decide) (by decide) rfl (by decide) rfl (by
  rintro ⟨(l : List Tsk), ⟨⟨(n : Int), ⟨a1, (a2 : Int), a3, (a4 : Int)⟩, (c : Int), (lm : Int), (t : Int), (p : Int), (r : Int), (pl : List Pce)⟩, _⟩, _⟩ hpre hwf X hT hG hk hK
  (simp -implicitDefEqProofs (maxSteps := 4000000) only [go_sem, Bool.not_eq_true', Bool.not_eq_false', Bool.or_eq_true, Bool.or_eq_false_iff, Bool.and_eq_true, Bool.and_eq_false_iff, decide_eq_true_eq, decide_eq_false_iff_not, Classical.not_not, not_or, maxLen, conIxB, con37, hT, hG, hk, hK, Tryz.results52] at hwf ⊢); (try simp (disch := decide +kernel) only [drawn, true_and, and_true])
  clear hwf
  refine fun _ => evk_loop ⟨{ i : Nat // i ≤ l.length ∧ ∀ k, k < i → (fun (y : Tsk) => decide (y.1 = n)) (l.getD k tk0) = false }, 1000, fun q => [(0, .one (.sl yTK l false)), (1, .one (.fn 37 [.loc 12 0])), (4, .one (.int .i64 0)), (7, .one (.int .i64 l.length)), (8, .one (.int .i64 q.1))], fun q => [(12, .cells 44 [.int .i64 n, .str a1, .int .i64 a2, .str a3, .int .i64 a4, .int .i64 c, .int .i64 lm, .int .i64 t, .int .i64 p, .int .i64 r, .sl yPC pl false])], fun q => l.length - q.1⟩ ⟨0, by omega, fun k hk => by omega⟩ ?_ ?_
  · simp only [go_sem]
    try (first | rfl | exact ⟨rfl, rfl⟩ | (and_intros <;> first | trivial | rfl | omega))
  · rintro ⟨i, (hi : i ≤ l.length), hz⟩
    (simp -implicitDefEqProofs (maxSteps := 4000000) only [go_sem, Bool.not_eq_true', Bool.not_eq_false', Bool.or_eq_true, Bool.or_eq_false_iff, Bool.and_eq_true, Bool.and_eq_false_iff, decide_eq_true_eq, decide_eq_false_iff_not, Classical.not_not, not_or, maxLen, conIxB, con37, hT, hG, hk, hK, Tryz.results52]); (try simp (disch := decide +kernel) only [drawn, true_and, and_true])
    obtain ⟨o, ho⟩ : ∃ o, l.getD i tk0 = o := ⟨_, rfl⟩
    have eo : l.getD (i : Int).toNat (0, []) = o := ho
    simp only [eo]
    (repeat' (with_reducible (first | refine And.intro ?_ ?_ | intro _))) <;> (try (first | with_reducible (first | done | assumption | omega | contradiction) | decide))
    all_goals first
     | (have h : o.1 = n := by assumption
        exact (idxV_at (d := tk0) hz (by omega) (by show decide ((l.getD i tk0).1 = n) = true; rw [ho]; exact decide_eq_true h)).symm)
     | (have h : ¬ o.1 = n := by assumption
        refine fin_lp ⟨i + 1, by omega, lt_succ hz (by show decide ((l.getD i tk0).1 = n) = false; rw [ho]; exact decide_eq_false h)⟩ (by simp only [go_sem]; first | rfl | ((repeat' apply And.intro) <;> first | rfl | assumption | omega)) (by dsimp only; omega)
        done)
     | exact (idxV_none (d := tk0) fun k hk => hz k (by omega)).symm
     | fail)
def conCnA : Con := { ps := [.d false (.sl yTK), .cl 36 [.p 44 yCT]], rs := [.d false .bool], pre := fun _ => True, out := fun (x : List Tsk × (Cnt × Unit) × Unit) => (hitV x.1 x.2.1.1, ()), nw := id }
theorem cCnA : CtrOk Tryz.prog 35 conCnA.ctr :=
 con_sound (G := ⟨[(52, conIxA.ctr)], [], [], [], []⟩) tab_ok (EnvOk.cons cIxA has52 EnvOk.nil) rfl Tryz.func35 rfl conCnA 19 (by kernel_rfl) (by decide) (by decide) rfl (by decide) rfl (by
  rintro ⟨(l : List Tsk), ⟨⟨(n : Int), ⟨a1, (a2 : Int), a3, (a4 : Int)⟩, (c : Int), (lm : Int), (t : Int), (p : Int), (r : Int), (pl : List Pce)⟩, _⟩, _⟩ hpre hwf X hT hG hk hK
  (simp -implicitDefEqProofs (maxSteps := 4000000) only [go_sem, Bool.not_eq_true', Bool.not_eq_false', Bool.or_eq_true, Bool.or_eq_false_iff, Bool.and_eq_true, Bool.and_eq_false_iff, decide_eq_true_eq, decide_eq_false_iff_not, Classical.not_not, not_or, maxLen, conCnA, conIxA, hT, hG, hk, hK, Tryz.results35] at hwf ⊢); (try simp (disch := decide +kernel) only [drawn, true_and, and_true])
  intro _
  exact idx_any _ l tk0)
def conCnB : Con := { ps := [.d false (.sl yTK), .cl 37 [.p 44 yCT]], rs := [.d false .bool], pre := fun _ => True, out := fun (x : List Tsk × (Cnt × Unit) × Unit) => (hitV x.1 x.2.1.1, ()), nw := id }
theorem cCnB : CtrOk Tryz.prog 35 conCnB.ctr :=
 con_sound (G := ⟨[(52, conIxB.ctr)], [], [], [], []⟩) tab_ok (EnvOk.cons cIxB has52 EnvOk.nil) rfl Tryz.func35 rfl conCnB 19 (by kernel_rfl) (by decide) (by decide) rfl (by decide) rfl (by
  rintro ⟨(l : List Tsk), ⟨⟨(n : Int), ⟨a1, (a2 : Int), a3, (a4 : Int)⟩, (c : Int), (lm : Int), (t : Int), (p : Int), (r : Int), (pl : List Pce)⟩, _⟩, _⟩ hpre hwf X hT hG hk hK
  (simp -implicitDefEqProofs (maxSteps := 4000000) only [go_sem, Bool.not_eq_true', Bool.not_eq_false', Bool.or_eq_true, Bool.or_eq_false_iff, Bool.and_eq_true, Bool.and_eq_false_iff, decide_eq_true_eq, decide_eq_false_iff_not, Classical.not_not, not_or, maxLen, conCnB, conIxB, hT, hG, hk, hK, Tryz.results35] at hwf ⊢); (try simp (disch := decide +kernel) only [drawn, true_and, and_true])
  intro _
  exact idx_any _ l tk0)
def con35 : Go.Ev.Raw := ⟨orFn 36 conCnA.ctr conCnB.ctr⟩
theorem c35 : CtrOk Tryz.prog 35 con35.ctr := orFn_ok cCnA cCnB
/-- What has to be taken off. -/
def orderL (st : List Cnt) (t : List Tsk) : List Int := ((st.dropWhile (fun x => !hitV t x)).map (fun x => x.num)).reverse
def ordV (c : List Cnt) (f : Flt) (t : List Tsk) : List Int × Int :=
 if checkV c ≠ 0 then ([], checkV c) else if t.any (fun u => decide (numIdx c u.1 < 0)) = true then ([], 6) else (orderL (aboV c f) t, 0)
theorem dropW {p : Cnt → Bool} : ∀ (a b : List Cnt), (∀ x ∈ a, p x = true) → (∀ x, b.head? = some x → p x = false) → (a ++ b).dropWhile p = b
 | [], [], _, _ => rfl
 | [], y :: b, _, h => by rw [List.nil_append, List.dropWhile_cons_of_neg (by rw [h y rfl]; simp)]
 | x :: a, b, ha, hb => by rw [List.cons_append, List.dropWhile_cons_of_pos (ha x List.mem_cons_self)]; exact dropW a b (fun x hx => ha x (List.mem_cons_of_mem _ hx)) hb
theorem aboV_len (c : List Cnt) (f : Flt) : (aboV c f).length ≤ c.length := by
 unfold aboV sortC
 rw [(List.mergeSort_perm _ _).length_eq]; exact List.length_filter_le _ _
def con14 : Con := { ps := [.d false (.sl yCT), .d true yFL, .d false (.sl yTK)], rs := [.d false (.sl (.int .i64)), .d false (.int .i64)], pre := fun _ => True, out := fun (x : List Cnt × Flt × List Tsk × Unit) => ((ordV x.1 x.2.1 x.2.2.1).1, (ordV x.1 x.2.1 x.2.2.1).2, ()), nw := id }
theorem c14 : CtrOk Tryz.prog 14 con14.ctr :=
 con_sound (G := ⟨[(32, con32.ctr), (33, con33.ctr), (34, con34.ctr), (35, con35.ctr)], [], [], [], []⟩) tab_ok (EnvOk.cons c32 has32 (EnvOk.cons c33 has33 (EnvOk.cons c34 has34 (EnvOk.cons c35 has35 EnvOk.nil)))) rfl Tryz.func14 rfl con14 590296973508927937495 (by kernel_rfl) (by decide) (by decide) rfl (by decide) rfl (by
  rintro ⟨(c : List Cnt), ⟨f1, (f2 : Int), f3, (f4 : Int)⟩, (t : List Tsk), _⟩ hpre hwf X hT hG hk hK
  (simp -implicitDefEqProofs (maxSteps := 4000000) only [go_sem, Bool.not_eq_true', Bool.not_eq_false', Bool.or_eq_true, Bool.or_eq_false_iff, Bool.and_eq_true, Bool.and_eq_false_iff, decide_eq_true_eq, decide_eq_false_iff_not, Classical.not_not, not_or, maxLen, con14, con32, con33, con34, con35, hT, hG, hk, hK, Tryz.results14, conCnA, conCnB] at hwf ⊢); (try simp (disch := decide +kernel) only [drawn, true_and, and_true])
  clear hwf
  obtain ⟨f, hf⟩ : ∃ f : Flt, (f1, f2, f3, f4) = f := ⟨_, rfl⟩
  simp only [hf]
  refine fun _ => ⟨fun h => ?_, fun h _ => ?_⟩
  · have e : ordV c f t = ([], checkV c) := by unfold ordV; rw [if_pos h]
    rw [e]; exact ⟨rfl, rfl⟩
  have hC := checkV_iff.1 h
  have hlen := hC.len
  have hoA : t.any (fun u => decide (numIdx c u.1 < 0)) = true → ordV c f t = ([], 6) := fun q => by unfold ordV; rw [if_neg (by omega), if_pos q]
  have hoB : ¬ t.any (fun u => decide (numIdx c u.1 < 0)) = true → ordV c f t = (orderL (aboV c f) t, 0) := fun q => by unfold ordV; rw [if_neg (by omega), if_neg q]
  have hpn := posN_of hC f
  have hal := aboV_len c f
  refine evk_loop ⟨{ i : Nat // i ≤ t.length ∧ ∀ k, k < i → ¬ numIdx c (t.getD k tk0).1 < 0 }, 1000, fun q => [(0, .one (.sl yCT c false)), (2, .one (.sl yTK t false)), (4, .one (.loc 70 0)), (9, .one (.int .i64 0)), (22, .one (.sl yTK t false)), (23, .one (.int .i64 t.length)), (24, .one (.int .i64 q.1))], fun q => [(70, .cells 25 [.str f.1, .int .i64 f.2.1, .str f.2.2.1, .int .i64 f.2.2.2])], fun q => t.length - q.1⟩ ⟨0, Nat.zero_le _, fun k hk => by omega⟩ ?_ ?_
  · subst hf
    simp only [go_sem]
    try (first | rfl | exact ⟨rfl, rfl⟩ | (and_intros <;> first | trivial | rfl | omega))
  · rintro ⟨i, (hi : i ≤ t.length), hz⟩
    (simp -implicitDefEqProofs (maxSteps := 4000000) only [go_sem, Bool.not_eq_true', Bool.not_eq_false', Bool.or_eq_true, Bool.or_eq_false_iff, Bool.and_eq_true, Bool.and_eq_false_iff, decide_eq_true_eq, decide_eq_false_iff_not, Classical.not_not, not_or, maxLen, con14, con32, con33, con34, con35, hT, hG, hk, hK, Tryz.results14, conCnA, conCnB]); (try simp (disch := decide +kernel) only [drawn, true_and, and_true])
    obtain ⟨o, ho⟩ : ∃ o, t.getD i tk0 = o := ⟨_, rfl⟩
    have eo : t.getD (i : Int).toNat (0, []) = o := ho
    try simp only [eo, hf]
    refine ⟨fun hlt => ⟨⟨by omega, hlt⟩, fun _ _ _ => ⟨fun hq => ?_, fun hq => ?_⟩⟩, fun hge => ?_⟩
    · rw [hoA (List.any_eq_true.2 ⟨o, by rw [← ho]; exact getD_mem (by omega), decide_eq_true hq⟩)]; exact ⟨rfl, rfl⟩
    · refine ⟨by omega, ?_⟩
      refine fin_lp ⟨i + 1, by omega, lt_succ hz (by rw [ho]; exact hq)⟩ ?_ (by dsimp only; omega)
      simp only [go_sem]
      try (first | rfl | exact ⟨rfl, rfl⟩ | (and_intros <;> first | trivial | rfl | omega))
    · have hno : ¬ t.any (fun u => decide (numIdx c u.1 < 0)) = true := by
       intro q
       obtain ⟨x, hx, hq⟩ := List.any_eq_true.1 q
       obtain ⟨k, hk, rfl⟩ := List.mem_iff_getElem.1 hx
       have := hz k (by omega)
       rw [getD_lt hk] at this
       exact this (of_decide_eq_true hq)
      have hoC := hoB hno
      refine ⟨⟨by omega, hpn⟩, fun _ _ => ?_⟩
      generalize aboV c f = st at hal hoC ⊢
      have hst : ∀ k, k < st.length → st.take (k + 1) = st.take k ++ [st.getD k ct0] := fun k hk => by rw [List.take_succ_eq_append_getElem hk, ← getD_lt (d := ct0) hk]
      have hcs : ∀ k, k < st.length → (st.take (k + 1)).countP (hitV t) = (st.take k).countP (hitV t) + (if hitV t (st.getD k ct0) = true then 1 else 0) := fun k hk => by
       rw [hst k hk, List.countP_append, List.countP_singleton]
      have hcb : ∀ k, (st.take k).countP (hitV t) ≤ 1000 := fun k => by
       have := List.countP_le_length (p := hitV t) (l := st.take k)
       rw [List.length_take] at this; omega
      refine evk_loop ⟨{ i : Nat // i ≤ st.length }, 2000, fun q => [(2, .one (.sl yTK t false)), (9, .one (.int .i64 ((st.take q.1).countP (hitV t) : Nat))), (12, .one (.sl yCT st false)), (37, .one (.sl yCT st false)), (38, .one (.int .i64 st.length)), (39, .one (.int .i64 q.1))], fun q => [], fun q => st.length - q.1⟩ ⟨0, Nat.zero_le _⟩ ?_ ?_
      · simp only [go_sem]
        try (first | rfl | exact ⟨rfl, rfl⟩ | (and_intros <;> first | trivial | rfl | omega))
      · rintro ⟨i2, (hi2 : i2 ≤ st.length)⟩
        (simp -implicitDefEqProofs (maxSteps := 4000000) only [go_sem, Bool.not_eq_true', Bool.not_eq_false', Bool.or_eq_true, Bool.or_eq_false_iff, Bool.and_eq_true, Bool.and_eq_false_iff, decide_eq_true_eq, decide_eq_false_iff_not, Classical.not_not, not_or, maxLen, con14, con32, con33, con34, con35, hT, hG, hk, hK, Tryz.results14, conCnA, conCnB]); (try simp (disch := decide +kernel) only [drawn, true_and, and_true])
        obtain ⟨o2, ho2⟩ : ∃ o, st.getD i2 ct0 = o := ⟨_, rfl⟩
        have eo2 : st.getD (i2 : Int).toNat (0, (ByteArray.empty, 0, ByteArray.empty, 0), 0, 0, 0, 0, 0, []) = o2 := ho2
        try simp only [eo2, hf]
        have hb := hcb i2
        refine ⟨fun hlt2 => ?_, fun hge2 => ?_⟩
        · have h1 := hcs i2 (by omega)
          rw [ho2] at h1
          (repeat' (with_reducible (first | refine And.intro ?_ ?_ | intro _))) <;> (try (first | with_reducible (first | done | assumption | omega | contradiction) | decide))
          all_goals first
           | omega
           | (have h : hitV t o2 = true := by assumption
              rw [if_pos h] at h1
              refine fin_lp ⟨i2 + 1, by omega⟩ ?_ (by dsimp only; omega)
              simp only [go_sem]
              rw [h1]
              try (first | rfl | exact ⟨rfl, rfl⟩ | (and_intros <;> first | trivial | rfl | omega))
              done)
           | (have h : hitV t o2 = false := by assumption
              rw [if_neg (by rw [h]; simp), Nat.add_zero] at h1
              refine fin_lp ⟨i2 + 1, by omega⟩ ?_ (by dsimp only; omega)
              simp only [go_sem]
              rw [h1]
              try (first | rfl | exact ⟨rfl, rfl⟩ | (and_intros <;> first | trivial | rfl | omega))
              done)
           | fail
        · have e2 : i2 = st.length := by omega
          have e3 : st.take i2 = st := List.take_of_length_le (by omega)
          simp only [e3]
          refine evk_loop ⟨{ k : Nat // k ≤ st.length ∧ ((st.take k).countP (hitV t) = 0 → ∀ x, (st.drop k).head? = some x → hitV t x = true) }, 3000, fun q => [(2, .one (.sl yTK t false)), (9, .one (.int .i64 ((st.take q.1).countP (hitV t) : Nat))), (12, .one (.sl yCT (st.take q.1) false)), (15, .one (.row 66))], fun q => [(66, .row 3 (.int .i64) ((st.drop q.1).map (fun x => x.num)).reverse)], fun q => q.1⟩ ⟨st.length, Nat.le_refl _, fun _ x hx => by rw [List.drop_length] at hx; cases hx⟩ ?_ ?_
          · simp only [go_sem]
            simp only [List.take_length, List.drop_length]
            try (first | rfl | exact ⟨rfl, rfl⟩ | (and_intros <;> first | trivial | rfl | omega))
          · rintro ⟨k, (hk0 : k ≤ st.length), hki⟩
            (simp -implicitDefEqProofs (maxSteps := 4000000) only [go_sem, Bool.not_eq_true', Bool.not_eq_false', Bool.or_eq_true, Bool.or_eq_false_iff, Bool.and_eq_true, Bool.and_eq_false_iff, decide_eq_true_eq, decide_eq_false_iff_not, Classical.not_not, not_or, maxLen, con14, con32, con33, con34, con35, hT, hG, hk, hK, Tryz.results14, conCnA, conCnB]); (try simp (disch := decide +kernel) only [drawn, true_and, and_true])
            try simp only [hf]
            have hkl : (st.take k).length = k := by rw [List.length_take]; omega
            have hbk := hcb k
            refine ⟨fun hgt => ?_, fun hle => ?_⟩
            · obtain ⟨j, rfl⟩ : ∃ j, k = j + 1 := by
               cases k with
               | zero => rw [List.take_zero] at hgt; simp at hgt
               | succ j => exact ⟨j, rfl⟩
              have hjl : j < st.length := by omega
              obtain ⟨o3, ho3⟩ : ∃ o, st.getD j ct0 = o := ⟨_, rfl⟩
              have h1 := hcs j hjl
              rw [ho3] at h1
              have e4 : (((st.take (j + 1)).length : Int) - 1) = (j : Int) := by rw [hkl]; omega
              have e5 : ((j : Int)).toNat = j := by omega
              have e6 : (st.take (j + 1)).getD j (0, (ByteArray.empty, 0, ByteArray.empty, 0), 0, 0, 0, 0, 0, []) = o3 := by
               rw [← ho3, List.getD_eq_getElem?_getD, List.getElem?_take_of_lt (by omega), ← List.getD_eq_getElem?_getD]; rfl
              have e7 : (st.take (j + 1)).take j = st.take j := by rw [List.take_take, Nat.min_eq_left (by omega)]
              have e8 : st.drop j = o3 :: st.drop (j + 1) := by rw [List.drop_eq_getElem_cons hjl, ← ho3, getD_lt hjl]
              have e9 : ((st.drop j).map (fun x => x.num)).reverse = ((st.drop (j + 1)).map (fun x => x.num)).reverse ++ [o3.num] := by rw [e8, List.map_cons, List.reverse_cons]
              have e10 : (((st.drop (j + 1)).map (fun x => x.num)).reverse).length ≤ 1000 := by rw [List.length_reverse, List.length_map, List.length_drop]; omega
              have hn : ∀ q : Bool, hitV t o3 = q → ((st.take j).countP (hitV t) = 0 → ∀ x, (st.drop j).head? = some x → hitV t x = true) := fun q hq h0 x hx => by
               rw [e8] at hx
               cases hx
               cases hh : hitV t o3 with
               | true => rfl
               | false =>
                 rw [hh, if_neg (by simp)] at h1
                 omega
              simp only [e4, e5, e6, e7]
              simp only [hkl]
              (repeat' (with_reducible (first | refine And.intro ?_ ?_ | intro _))) <;> (try (first | with_reducible (first | done | assumption | omega | contradiction) | decide))
              all_goals first
               | omega
               | (have h : hitV t o3 = true := by assumption
                  rw [if_pos h] at h1
                  refine fin_lp ⟨j, by omega, hn true h⟩ ?_ (by dsimp only; omega)
                  simp only [go_sem]
                  rw [h1, e9]
                  and_intros <;> first | rfl | omega
                  done)
               | (have h : hitV t o3 = false := by assumption
                  rw [if_neg (by rw [h]; simp), Nat.add_zero] at h1
                  refine fin_lp ⟨j, by omega, hn false h⟩ ?_ (by dsimp only; omega)
                  simp only [go_sem]
                  rw [h1, e9]
                  try (first | rfl | exact ⟨rfl, rfl⟩ | (and_intros <;> first | trivial | rfl | omega))
                  done)
               | fail
            · rw [hoC]
              have h0 : (st.take k).countP (hitV t) = 0 := by omega
              have hne : ∀ x ∈ st.take k, hitV t x = false := fun x hx => by
               have := List.countP_eq_zero.1 h0 x hx
               simpa using this
              have hw := dropW (p := fun x => !hitV t x) (st.take k) (st.drop k) (fun x hx => by rw [hne x hx]; rfl) (fun x hx => by rw [hki h0 x hx]; rfl)
              rw [List.take_append_drop] at hw
              refine ⟨rfl, ?_⟩
              show _ = ((st.dropWhile (fun x => !hitV t x)).map (fun x => x.num)).reverse
              rw [hw])
def setPos (c : Cnt) (p : Int) : Cnt := (c.1, c.2.1, c.2.2.1, c.2.2.2.1, c.2.2.2.2.1, p, c.2.2.2.2.2.2.1, c.2.2.2.2.2.2.2)
def lastV (l : List Cnt) : Cnt := l.getD (l.length - 1) ct0
def offV (c : List Cnt) (n : Int) : List Cnt × Int :=
 if checkV c ≠ 0 then ([], checkV c) else if numIdx c n < 0 then ([], 6) else if (c.getD (numIdx c n).toNat ct0).pos = 0 then ([], 7)
 else if (lastV (aboV c (c.getD (numIdx c n).toNat ct0).flt)).num ≠ n then ([], 9) else (c.set (numIdx c n).toNat (setPos (c.getD (numIdx c n).toNat ct0) 0), 0)
def nextP (c : List Cnt) (f : Flt) : Int := if 0 < (aboV c f).length then 1 + (lastV (aboV c f)).pos else 1
def onV (c : List Cnt) (n : Int) : List Cnt × Int :=
 if checkV c ≠ 0 then ([], checkV c) else if numIdx c n < 0 then ([], 6) else if (c.getD (numIdx c n).toNat ct0).pos ≠ 0 then ([], 7)
 else if nextP c (c.getD (numIdx c n).toNat ct0).flt > 24 then ([], 8) else (c.set (numIdx c n).toNat (setPos (c.getD (numIdx c n).toNat ct0) (nextP c (c.getD (numIdx c n).toNat ct0).flt)), 0)
def remV (c : List Cnt) (w : List Plt) : List Plt := w.filter (fun p => (findV c p).2)
theorem aboV_mem {c : List Cnt} {f : Flt} {x : Cnt} : x ∈ aboV c f ↔ x ∈ c ∧ x.flt = f ∧ x.pos ≠ 0 := by
 unfold aboV sortC
 rw [(List.mergeSort_perm _ _).mem_iff, List.mem_filter]
 unfold onB
 rw [Bool.and_eq_true, decide_eq_true_eq, decide_eq_true_eq]
def con17 : Con := { ps := [.d false (.sl yCT), .d false (.int .i64)], rs := [.d false (.sl yCT), .d false (.int .i64)], pre := fun _ => True, out := fun (x : List Cnt × Int × Unit) => ((offV x.1 x.2.1).1, (offV x.1 x.2.1).2, ()), nw := id }
theorem c17 : CtrOk Tryz.prog 17 con17.ctr :=
 con_sound (G := ⟨[(32, con32.ctr), (33, con33.ctr), (34, con34.ctr), (39, con39.ctr)], [], [], [], []⟩) tab_ok (EnvOk.cons c32 has32 (EnvOk.cons c33 has33 (EnvOk.cons c34 has34 (EnvOk.cons c39 has39 EnvOk.nil)))) rfl Tryz.func17 rfl con17 2199057343475 (by kernel_rfl) (by decide) (by decide) rfl (by decide) rfl (by
  rintro ⟨(c : List Cnt), (n : Int), _⟩ hpre hwf X hT hG hk hK
  (simp -implicitDefEqProofs (maxSteps := 4000000) only [go_sem, Bool.not_eq_true', Bool.not_eq_false', Bool.or_eq_true, Bool.or_eq_false_iff, Bool.and_eq_true, Bool.and_eq_false_iff, decide_eq_true_eq, decide_eq_false_iff_not, Classical.not_not, not_or, maxLen, con17, con32, con33, con34, con39, hT, hG, hk, hK, Tryz.results17] at hwf ⊢); (try simp (disch := decide +kernel) only [drawn, true_and, and_true])
  clear hwf
  have hni := idxV_lt (fun (x : Cnt) => decide (x.num = n)) c
  have hni1 : -1 ≤ numIdx c n := hni.1
  have hni2 : numIdx c n < c.length := hni.2
  refine fun _ => ⟨fun h => ?_, fun h _ => ⟨fun h2 => ?_, fun h2 => ?_⟩⟩
  · have e : offV c n = ([], checkV c) := by unfold offV; rw [if_pos h]
    rw [e]; exact ⟨rfl, rfl⟩
  · have e : offV c n = ([], 6) := by unfold offV; rw [if_neg (by omega), if_pos h2]
    rw [e]; exact ⟨rfl, rfl⟩
  have hC := checkV_iff.1 h
  have hlen := hC.len
  have hpc : ∀ o ∈ c, o.pcs.length ≤ 100000 := fun o ho => by have := (hC.ok o ho).2.1; omega
  obtain ⟨k, hkk⟩ : ∃ k : Nat, numIdx c n = k := ⟨(numIdx c n).toNat, by omega⟩
  have hF : offV c n = (if (c.getD k ct0).pos = 0 then ([], 7) else if (lastV (aboV c (c.getD k ct0).flt)).num ≠ n then ([], 9) else (c.set k (setPos (c.getD k ct0) 0), 0)) := by
   unfold offV; rw [if_neg (by omega), if_neg (by omega), hkk]; rfl
  rw [hF, hkk]
  have hkl : k < c.length := by omega
  have ekn : ((k : Int)).toNat = k := by omega
  obtain ⟨o, ho⟩ : ∃ o, c.getD k ct0 = o := ⟨_, rfl⟩
  have eo : c.getD k (0, (ByteArray.empty, 0, ByteArray.empty, 0), 0, 0, 0, 0, 0, []) = o := ho
  have hom : o ∈ c := by rw [← ho]; exact getD_mem hkl
  have hpn := posN_of hC o.flt
  have hal := aboV_len c o.flt
  have hpos : 0 ≤ o.pos ∧ o.pos ≤ 24 := by
   have := (hC.ok o hom).1
   unfold propC inV at this
   simp only [Bool.and_eq_true, decide_eq_true_eq] at this
   omega
  simp only [ekn, eo, ho]
  have hne : ¬ o.2.2.2.2.2.1 = 0 → 0 < (aboV c o.flt).length := fun q => List.length_pos_of_mem (aboV_mem.2 ⟨hom, rfl, q⟩)
  obtain ⟨st, hst⟩ : ∃ st, aboV c o.2.1 = st := ⟨_, rfl⟩
  have hst2 : aboV c o.flt = st := hst
  have hlm : 0 < st.length → lastV st ∈ c := fun q => by
   have : lastV st ∈ aboV c o.flt := by rw [hst2]; exact getD_mem (by omega)
   exact (aboV_mem.1 this).1
  have hlp : 0 < st.length → 0 ≤ (lastV st).pos ∧ (lastV st).pos ≤ 24 := fun q => by
   have := (hC.ok _ (hlm q)).1
   unfold propC inV at this
   simp only [Bool.and_eq_true, decide_eq_true_eq] at this
   omega
  rw [hst2] at hal
  have elv : st.getD ((st.length : Int) - 1).toNat (0, (ByteArray.empty, 0, ByteArray.empty, 0), 0, 0, 0, 0, 0, []) = lastV st := by
   unfold lastV
   rw [show ((st.length : Int) - 1).toNat = st.length - 1 by omega]; rfl
  rw [hst2] at hne
  simp only [hst, hst2, elv]
  generalize lastV st = z at hlm hlp ⊢
  refine ⟨⟨by omega, by omega⟩, fun _ _ => ⟨fun q => ?_, fun q => ?_⟩⟩
  · rw [if_pos q]; exact ⟨rfl, rfl⟩
  rw [if_neg q]
  have hl0 := hne q
  (repeat' (with_reducible (first | refine And.intro ?_ ?_ | intro _))) <;> (try (first | with_reducible (first | done | assumption | omega | contradiction) | decide))
  all_goals first
   | omega
   | exact hpn
   | exact hpc _ (by assumption)
   | (have h : ¬ z.1 = n := by assumption
      rw [if_pos h])
   | (have h : z.1 = n := by assumption
      rw [if_neg (by rw [show z.num = n from h]; simp)]; rfl)
   | (have h : z.1 = n := by assumption
      rw [if_neg (by rw [show z.num = n from h]; simp)])
   | fail)
def con20 : Con := { ps := [.d false (.sl yCT), .d false (.int .i64)], rs := [.d false (.sl yCT), .d false (.int .i64)], pre := fun _ => True, out := fun (x : List Cnt × Int × Unit) => ((onV x.1 x.2.1).1, (onV x.1 x.2.1).2, ()), nw := id }
theorem c20 : CtrOk Tryz.prog 20 con20.ctr :=
 con_sound (G := ⟨[(32, con32.ctr), (33, con33.ctr), (34, con34.ctr), (39, con39.ctr)], [], [], [], []⟩) tab_ok (EnvOk.cons c32 has32 (EnvOk.cons c33 has33 (EnvOk.cons c34 has34 (EnvOk.cons c39 has39 EnvOk.nil)))) rfl Tryz.func20 rfl con20 140806276007923 (by kernel_rfl) (by decide) (by decide) rfl (by decide) rfl (by
  rintro ⟨(c : List Cnt), (n : Int), _⟩ hpre hwf X hT hG hk hK
  (simp -implicitDefEqProofs (maxSteps := 4000000) only [go_sem, Bool.not_eq_true', Bool.not_eq_false', Bool.or_eq_true, Bool.or_eq_false_iff, Bool.and_eq_true, Bool.and_eq_false_iff, decide_eq_true_eq, decide_eq_false_iff_not, Classical.not_not, not_or, maxLen, con20, con32, con33, con34, con39, hT, hG, hk, hK, Tryz.results20] at hwf ⊢); (try simp (disch := decide +kernel) only [drawn, true_and, and_true])
  clear hwf
  have hni := idxV_lt (fun (x : Cnt) => decide (x.num = n)) c
  have hni1 : -1 ≤ numIdx c n := hni.1
  have hni2 : numIdx c n < c.length := hni.2
  refine fun _ => ⟨fun h => ?_, fun h _ => ⟨fun h2 => ?_, fun h2 => ?_⟩⟩
  · have e : onV c n = ([], checkV c) := by unfold onV; rw [if_pos h]
    rw [e]; exact ⟨rfl, rfl⟩
  · have e : onV c n = ([], 6) := by unfold onV; rw [if_neg (by omega), if_pos h2]
    rw [e]; exact ⟨rfl, rfl⟩
  have hC := checkV_iff.1 h
  have hlen := hC.len
  have hpc : ∀ o ∈ c, o.pcs.length ≤ 100000 := fun o ho => by have := (hC.ok o ho).2.1; omega
  obtain ⟨k, hkk⟩ : ∃ k : Nat, numIdx c n = k := ⟨(numIdx c n).toNat, by omega⟩
  have hF : onV c n = (if (c.getD k ct0).pos ≠ 0 then ([], 7) else if nextP c (c.getD k ct0).flt > 24 then ([], 8) else (c.set k (setPos (c.getD k ct0) (nextP c (c.getD k ct0).flt)), 0)) := by
   unfold onV; rw [if_neg (by omega), if_neg (by omega), hkk]; rfl
  rw [hF, hkk]
  have hkl : k < c.length := by omega
  have ekn : ((k : Int)).toNat = k := by omega
  obtain ⟨o, ho⟩ : ∃ o, c.getD k ct0 = o := ⟨_, rfl⟩
  have eo : c.getD k (0, (ByteArray.empty, 0, ByteArray.empty, 0), 0, 0, 0, 0, 0, []) = o := ho
  have hom : o ∈ c := by rw [← ho]; exact getD_mem hkl
  have hpn := posN_of hC o.flt
  have hal := aboV_len c o.flt
  have hpos : 0 ≤ o.pos ∧ o.pos ≤ 24 := by
   have := (hC.ok o hom).1
   unfold propC inV at this
   simp only [Bool.and_eq_true, decide_eq_true_eq] at this
   omega
  simp only [ekn, eo, ho]
  obtain ⟨st, hst⟩ : ∃ st, aboV c o.2.1 = st := ⟨_, rfl⟩
  have hst2 : aboV c o.flt = st := hst
  have hlm : 0 < st.length → lastV st ∈ c := fun q => by
   have : lastV st ∈ aboV c o.flt := by rw [hst2]; exact getD_mem (by omega)
   exact (aboV_mem.1 this).1
  have hlp : 0 < st.length → 0 ≤ (lastV st).pos ∧ (lastV st).pos ≤ 24 := fun q => by
   have := (hC.ok _ (hlm q)).1
   unfold propC inV at this
   simp only [Bool.and_eq_true, decide_eq_true_eq] at this
   omega
  rw [hst2] at hal
  have elv : st.getD ((st.length : Int) - 1).toNat (0, (ByteArray.empty, 0, ByteArray.empty, 0), 0, 0, 0, 0, 0, []) = lastV st := by
   unfold lastV
   rw [show ((st.length : Int) - 1).toNat = st.length - 1 by omega]; rfl
  have hnx : nextP c o.flt = if 0 < st.length then 1 + (lastV st).pos else 1 := by unfold nextP; rw [hst2]
  simp only [hst, hst2, elv, hnx]
  generalize lastV st = z at hlm hlp ⊢
  refine ⟨⟨by omega, by omega⟩, fun _ _ => ⟨fun q => ?_, fun q => ?_⟩⟩
  · rw [if_pos q]; exact ⟨rfl, rfl⟩
  rw [if_neg (by exact fun r => r q)]
  have hzp : z.pos = z.2.2.2.2.2.1 := rfl
  (repeat' (with_reducible (first | refine And.intro ?_ ?_ | intro _))) <;> (try (first | with_reducible (first | done | assumption | omega | contradiction) | decide))
  all_goals first
   | omega
   | exact hpn
   | exact hpc _ (by assumption)
   | (rename_i g1 g2
      have hs : 0 < st.length := by omega
      rw [if_pos hs]
      first
       | (rw [if_pos (by omega)]; done)
       | (rw [if_neg (by omega)]; rfl)
       | (rw [if_neg (by omega)]; done))
   | (rename_i g1 g2
      have hs : ¬ 0 < st.length := by omega
      rw [if_neg hs]
      first
       | (rw [if_pos (by omega)]; done)
       | (rw [if_neg (by omega)]; rfl)
       | (rw [if_neg (by omega)]; done))
   | fail)
def con45 : Con := { ps := [.d false (.sl yCT), .d false (.sl yPL)], rs := [.d false (.sl yPL)], pre := fun (x : List Cnt × List Plt × Unit) => x.2.1.length ≤ 100000, out := fun (x : List Cnt × List Plt × Unit) => (remV x.1 x.2.1, ()), nw := id }
theorem c45 : CtrOk Tryz.prog 45 con45.ctr :=
 con_sound (G := ⟨[(68, con68.ctr)], [], [], [], []⟩) tab_ok (EnvOk.cons c68 has68 EnvOk.nil) rfl Tryz.func45 rfl con45 4210355 (by kernel_rfl) (by decide) (by decide) rfl (by decide) rfl (by
  rintro ⟨(c : List Cnt), (w : List Plt), _⟩ hpre hwf X hT hG hk hK
  have hw : w.length ≤ 100000 := hpre
  (simp -implicitDefEqProofs (maxSteps := 4000000) only [go_sem, Bool.not_eq_true', Bool.not_eq_false', Bool.or_eq_true, Bool.or_eq_false_iff, Bool.and_eq_true, Bool.and_eq_false_iff, decide_eq_true_eq, decide_eq_false_iff_not, Classical.not_not, not_or, maxLen, con45, con68, hT, hG, hk, hK, Tryz.results45] at hwf ⊢); (try simp (disch := decide +kernel) only [drawn, true_and, and_true])
  clear hwf
  refine fun _ => evk_loop ⟨{ i : Nat // i ≤ w.length }, 1000, fun q => [(0, .one (.sl yCT c false)), (5, .one (.row 64)), (10, .one (.sl yPL w false)), (11, .one (.int .i64 w.length)), (12, .one (.int .i64 q.1))], fun q => [(64, .row 65 yPL (remV c (w.take q.1)))], fun q => w.length - q.1⟩ ⟨0, Nat.zero_le _⟩ ?_ ?_
  · simp only [go_sem]
    try (first | rfl | exact ⟨rfl, rfl⟩ | (and_intros <;> first | trivial | rfl | omega))
  · rintro ⟨i, (hi : i ≤ w.length)⟩
    (simp -implicitDefEqProofs (maxSteps := 4000000) only [go_sem, Bool.not_eq_true', Bool.not_eq_false', Bool.or_eq_true, Bool.or_eq_false_iff, Bool.and_eq_true, Bool.and_eq_false_iff, decide_eq_true_eq, decide_eq_false_iff_not, Classical.not_not, not_or, maxLen, con45, con68, hT, hG, hk, hK, Tryz.results45]); (try simp (disch := decide +kernel) only [drawn, true_and, and_true])
    obtain ⟨o, ho⟩ : ∃ o, w.getD i pl0 = o := ⟨_, rfl⟩
    have eo : w.getD (i : Int).toNat (0, 0, 0) = o := ho
    try simp only [eo]
    have hst : i < w.length → remV c (w.take (i + 1)) = remV c (w.take i) ++ (if (findV c o).2 = true then [o] else []) := fun h => by
     unfold remV
     rw [List.take_succ_eq_append_getElem h, ← getD_lt (d := pl0) h, ho, List.filter_append]
     by_cases q : (findV c o).2 = true
     · rw [List.filter_cons_of_pos (by exact q), if_pos q]; rfl
     · rw [List.filter_cons_of_neg (by exact q), if_neg q]; rfl
    have hfl : (remV c (w.take i)).length ≤ i := Nat.le_trans (List.length_filter_le _ _) (by rw [List.length_take]; omega)
    (repeat' (with_reducible (first | refine And.intro ?_ ?_ | intro _))) <;> (try (first | with_reducible (first | done | assumption | omega | contradiction) | decide))
    all_goals first
     | omega
     | (have h : (findV c o).2 = true := by assumption
        have h1 := hst (by omega)
        rw [if_pos h] at h1
        refine fin_lp ⟨i + 1, by omega⟩ ?_ (by dsimp only; omega)
        simp only [go_sem]
        rw [h1]
        try (first | rfl | exact ⟨rfl, rfl⟩ | (and_intros <;> first | trivial | rfl | omega))
        done)
     | (have h : (findV c o).2 = false := by assumption
        have h1 := hst (by omega)
        rw [if_neg (by rw [h]; simp), List.append_nil] at h1
        refine fin_lp ⟨i + 1, by omega⟩ ?_ (by dsimp only; omega)
        simp only [go_sem]
        rw [h1]
        try (first | rfl | exact ⟨rfl, rfl⟩ | (and_intros <;> first | trivial | rfl | omega))
        done)
     | (rw [List.take_of_length_le (by omega)]; done)
     | fail)
end Go.Proofs.YteheklpenjjfaaaGreat
