/- Part. -/
import Derived.Test.YtpglcghgklmedaaGreatOdKFToKY
import Derived.Test.YtpglcghgklmedaaGreatOdKDToKeys
import Derived.WalkKit
set_option linter.all false
set_option maxRecDepth 100000
set_option maxHeartbeats 8000000
namespace Go.Proofs.YtpglcghgklmedaaGreat
open Go.Ev
def isFnA (g : FuncId) : List AV → Bool
 | [_, .one (.fn g' _)] => decide (g' = g)
 | _ => false
def orFn (g : FuncId) (A B : Ctr) : Ctr := fun avs m fr => if isFnA g avs = true then A avs m fr else B avs m fr
theorem orFn_ok {P : Program} {f : FuncId} {g : FuncId} {A B : Ctr} (hA : CtrOk P f A) (hB : CtrOk P f B) : CtrOk P f (orFn g A B) := by
 intro D gv hD cx hcx σ N m w fr avs vs h1 h2 h3 h4
 unfold orFn at h4 ⊢
 by_cases h : isFnA g avs = true
 · simp only [if_pos h] at h4 ⊢; exact hA D gv hD cx hcx σ N m w fr avs vs h1 h2 h3 h4
 · simp only [if_neg h] at h4 ⊢; exact hB D gv hD cx hcx σ N m w fr avs vs h1 h2 h3 h4
attribute [go_sem] isFnA orFn
def hitV (t : List Tsk) (x : Cnt) : Bool := t.any (fun y => decide (y.1 = x.num))
def conIxA : Con := { ps := [.d false (.sl yTK), .cl 82 [.p 31 yCT]], rs := [.d false (.int .i64)], pre := fun _ => True, out := fun (x : List Tsk × (Cnt × Unit) × Unit) => (idxV (fun (y : Tsk) => decide (y.1 = x.2.1.1.num)) x.1, ()), nw := id }
theorem cIxA : CtrOk Tryz.prog 107 conIxA.ctr :=
 con_sound (G := ⟨[(82, con82.ctr)], [], [], [], []⟩) tab_ok (EnvOk.cons c82 has82 EnvOk.nil) rfl Tryz.func107 rfl conIxA 66483 (by kernel_rfl) (by decide) (by decide) rfl (by decide) rfl (by
  rintro ⟨(l : List Tsk), ⟨⟨(n : Int), ⟨a1, (a2 : Int), a3, (a4 : Int)⟩, (c : Int), (lm : Int), (t : Int), (p : Int), (r : Int), (pl : List Pce)⟩, _⟩, _⟩ hpre hwf X hT hG hk hK
  (simp -implicitDefEqProofs only [go_sem, bP, conIxA, con82, hT, hG, hk, hK, Tryz.results107] at hwf ⊢)
  clear hwf
  refine fun _ => evk_loop ⟨{ i : Nat // i ≤ l.length ∧ ∀ k, k < i → (fun (y : Tsk) => decide (y.1 = n)) (l.getD k tk0) = false }, 1000, fun q => [(0, .one (.sl yTK l false)), (1, .one (.fn 82 [.loc 12 0])), (4, .one (.int .i64 0)), (7, .one (.int .i64 l.length)), (8, .one (.int .i64 q.1))], fun q => [(12, .cells 31 [.int .i64 n, .str a1, .int .i64 a2, .str a3, .int .i64 a4, .int .i64 c, .int .i64 lm, .int .i64 t, .int .i64 p, .int .i64 r, .sl yPC pl false])], fun q => l.length - q.1⟩ ⟨0, by omega, fun k hk => by omega⟩ ?_ ?_
  · simp only [go_sem]
    try first | rfl | (and_intros <;> first | trivial | rfl | omega)
  · rintro ⟨i, (hi : i ≤ l.length), hz⟩
    (simp -implicitDefEqProofs only [go_sem, bP, conIxA, con82, hT, hG, hk, hK, Tryz.results107])
    obtain ⟨o, ho⟩ : ∃ o, l.getD i tk0 = o := ⟨_, rfl⟩
    have eo : l.getD (i : Int).toNat (0, []) = o := ho
    simp only [eo]
    (repeat' with_reducible first | refine And.intro ?_ ?_ | intro _) <;> try first | with_reducible (first | assumption | omega | contradiction) | decide
    all_goals first
     | (have h : o.1 = n := by assumption
        exact (idxV_at (d := tk0) hz (by omega) (by show decide ((l.getD i tk0).1 = n) = true; rw [ho]; exact decide_eq_true h)).symm)
     | (have h : ¬ o.1 = n := by assumption
        refine fin_lp ⟨i + 1, by omega, lt_succ hz (by show decide ((l.getD i tk0).1 = n) = false; rw [ho]; exact decide_eq_false h)⟩ (by simp only [go_sem]; first | rfl | ((repeat' apply And.intro) <;> first | rfl | assumption | omega)) (by dsimp only; omega)
        done)
     | exact (idxV_none (d := tk0) fun k hk => hz k (by omega)).symm)
def conIxB : Con := { ps := [.d false (.sl yTK), .cl 83 [.p 31 yCT]], rs := [.d false (.int .i64)], pre := fun _ => True, out := fun (x : List Tsk × (Cnt × Unit) × Unit) => (idxV (fun (y : Tsk) => decide (y.1 = x.2.1.1.num)) x.1, ()), nw := id }
theorem cIxB : CtrOk Tryz.prog 107 conIxB.ctr :=
 con_sound (G := ⟨[(83, con83.ctr)], [], [], [], []⟩) tab_ok (EnvOk.cons c83 has83 EnvOk.nil) rfl Tryz.func107 rfl conIxB 66483 (by kernel_rfl) (by decide) (by decide) rfl (by decide) rfl (by
  rintro ⟨(l : List Tsk), ⟨⟨(n : Int), ⟨a1, (a2 : Int), a3, (a4 : Int)⟩, (c : Int), (lm : Int), (t : Int), (p : Int), (r : Int), (pl : List Pce)⟩, _⟩, _⟩ hpre hwf X hT hG hk hK
  (simp -implicitDefEqProofs only [go_sem, bP, conIxB, con83, hT, hG, hk, hK, Tryz.results107] at hwf ⊢)
  clear hwf
  refine fun _ => evk_loop ⟨{ i : Nat // i ≤ l.length ∧ ∀ k, k < i → (fun (y : Tsk) => decide (y.1 = n)) (l.getD k tk0) = false }, 1000, fun q => [(0, .one (.sl yTK l false)), (1, .one (.fn 83 [.loc 12 0])), (4, .one (.int .i64 0)), (7, .one (.int .i64 l.length)), (8, .one (.int .i64 q.1))], fun q => [(12, .cells 31 [.int .i64 n, .str a1, .int .i64 a2, .str a3, .int .i64 a4, .int .i64 c, .int .i64 lm, .int .i64 t, .int .i64 p, .int .i64 r, .sl yPC pl false])], fun q => l.length - q.1⟩ ⟨0, by omega, fun k hk => by omega⟩ ?_ ?_
  · simp only [go_sem]
    try first | rfl | (and_intros <;> first | trivial | rfl | omega)
  · rintro ⟨i, (hi : i ≤ l.length), hz⟩
    (simp -implicitDefEqProofs only [go_sem, bP, conIxB, con83, hT, hG, hk, hK, Tryz.results107])
    obtain ⟨o, ho⟩ : ∃ o, l.getD i tk0 = o := ⟨_, rfl⟩
    have eo : l.getD (i : Int).toNat (0, []) = o := ho
    simp only [eo]
    (repeat' with_reducible first | refine And.intro ?_ ?_ | intro _) <;> try first | with_reducible (first | assumption | omega | contradiction) | decide
    all_goals first
     | (have h : o.1 = n := by assumption
        exact (idxV_at (d := tk0) hz (by omega) (by show decide ((l.getD i tk0).1 = n) = true; rw [ho]; exact decide_eq_true h)).symm)
     | (have h : ¬ o.1 = n := by assumption
        refine fin_lp ⟨i + 1, by omega, lt_succ hz (by show decide ((l.getD i tk0).1 = n) = false; rw [ho]; exact decide_eq_false h)⟩ (by simp only [go_sem]; first | rfl | ((repeat' apply And.intro) <;> first | rfl | assumption | omega)) (by dsimp only; omega)
        done)
     | exact (idxV_none (d := tk0) fun k hk => hz k (by omega)).symm)
def conCnA : Con := { ps := [.d false (.sl yTK), .cl 82 [.p 31 yCT]], rs := [.d false .bool], pre := fun _ => True, out := fun (x : List Tsk × (Cnt × Unit) × Unit) => (hitV x.1 x.2.1.1, ()), nw := id }
theorem cCnA : CtrOk Tryz.prog 81 conCnA.ctr :=
 con_sound (G := ⟨[(107, conIxA.ctr)], [], [], [], []⟩) tab_ok (EnvOk.cons cIxA has107 EnvOk.nil) rfl Tryz.func81 rfl conCnA 19 (by kernel_rfl) (by decide) (by decide) rfl (by decide) rfl (by
  rintro ⟨(l : List Tsk), ⟨⟨(n : Int), ⟨a1, (a2 : Int), a3, (a4 : Int)⟩, (c : Int), (lm : Int), (t : Int), (p : Int), (r : Int), (pl : List Pce)⟩, _⟩, _⟩ hpre hwf X hT hG hk hK
  (simp -implicitDefEqProofs only [go_sem, bP, conCnA, conIxA, hT, hG, hk, hK, Tryz.results81] at hwf ⊢)
  intro _
  exact idx_any _ l tk0)
def conCnB : Con := { ps := [.d false (.sl yTK), .cl 83 [.p 31 yCT]], rs := [.d false .bool], pre := fun _ => True, out := fun (x : List Tsk × (Cnt × Unit) × Unit) => (hitV x.1 x.2.1.1, ()), nw := id }
theorem cCnB : CtrOk Tryz.prog 81 conCnB.ctr :=
 con_sound (G := ⟨[(107, conIxB.ctr)], [], [], [], []⟩) tab_ok (EnvOk.cons cIxB has107 EnvOk.nil) rfl Tryz.func81 rfl conCnB 19 (by kernel_rfl) (by decide) (by decide) rfl (by decide) rfl (by
  rintro ⟨(l : List Tsk), ⟨⟨(n : Int), ⟨a1, (a2 : Int), a3, (a4 : Int)⟩, (c : Int), (lm : Int), (t : Int), (p : Int), (r : Int), (pl : List Pce)⟩, _⟩, _⟩ hpre hwf X hT hG hk hK
  (simp -implicitDefEqProofs only [go_sem, bP, conCnB, conIxB, hT, hG, hk, hK, Tryz.results81] at hwf ⊢)
  intro _
  exact idx_any _ l tk0)
def con81 : Go.Ev.Raw := ⟨orFn 82 conCnA.ctr conCnB.ctr⟩
theorem c81 : CtrOk Tryz.prog 81 con81.ctr := orFn_ok cCnA cCnB
def orderL (st : List Cnt) (t : List Tsk) : List Int := ((st.dropWhile (fun x => !hitV t x)).map (fun x => x.num)).reverse
def ordV (c : List Cnt) (f : Flt) (t : List Tsk) : List Int × Int :=
 if checkV c ≠ 0 then ([], checkV c) else if t.any (fun u => decide (numIdx c u.1 < 0)) = true then ([], 6) else (orderL (aboV c f) t, 0)
theorem dropW {p : Cnt → Bool} : ∀ (a b : List Cnt), (∀ x ∈ a, p x = true) → (∀ x, b.head? = some x → p x = false) → (a ++ b).dropWhile p = b
 | [], [], _, _ => rfl
 | [], y :: b, _, h => by rw [List.nil_append, List.dropWhile_cons_of_neg (by rw [h y rfl]; simp)]
 | x :: a, b, ha, hb => by rw [List.cons_append, List.dropWhile_cons_of_pos (ha x List.mem_cons_self)]; exact dropW a b (fun x hx => ha x (List.mem_cons_of_mem _ hx)) hb
theorem aboV_len (c : List Cnt) (f : Flt) : (aboV c f).length ≤ c.length := by
 unfold aboV sortC
 rw [(List.mergeSort_perm _ _).length_eq]; exact List.length_filter_le _ _
def con46 : Con := { ps := [.d false (.sl yCT), .d true yFL, .d false (.sl yTK)], rs := [.d false (.sl (.int .i64)), .d false (.int .i64)], pre := fun _ => True, out := fun (x : List Cnt × Flt × List Tsk × Unit) => ((ordV x.1 x.2.1 x.2.2.1).1, (ordV x.1 x.2.1 x.2.2.1).2, ()), nw := id }
theorem c46 : CtrOk Tryz.prog 46 con46.ctr :=
 con_sound (G := ⟨[(28, con28.ctr), (34, con34.ctr), (80, con80.ctr), (81, con81.ctr)], [], [], [], []⟩) tab_ok (EnvOk.cons c28 has28 (EnvOk.cons c34 has34 (EnvOk.cons c80 has80 (EnvOk.cons c81 has81 EnvOk.nil)))) rfl Tryz.func46 rfl con46 590296973508927937495 (by kernel_rfl) (by decide) (by decide) rfl (by decide) rfl (by
  rintro ⟨(c : List Cnt), ⟨f1, (f2 : Int), f3, (f4 : Int)⟩, (t : List Tsk), _⟩ hpre hwf X hT hG hk hK
  (simp -implicitDefEqProofs only [go_sem, bP, con46, con28, con34, con80, con81, hT, hG, hk, hK, Tryz.results46, conCnA, conCnB] at hwf ⊢)
  clear hwf
  obtain ⟨f, hf⟩ : ∃ f : Flt, (f1, f2, f3, f4) = f := ⟨_, rfl⟩
  simp only [hf]
  refine fun _ => ⟨fun h => ?_, fun h _ => ?_⟩
  · have e : ordV c f t = ([], checkV c) := by unfold ordV; rw [if_pos h]
    rw [e]; exact ⟨rfl, rfl⟩
  have hC := checkV_iff.1 h
  have hlen := hC.len
  have hoA : t.any (fun u => decide (numIdx c u.1 < 0)) = true → ordV c f t = ([], 6) := fun q => by unfold ordV; rw [if_neg (by omega), if_pos q]
  have hoB : ¬ t.any (fun u => decide (numIdx c u.1 < 0)) = true → ordV c f t = (orderL (aboV c f) t, 0) := fun q => by unfold ordV; rw [if_neg (by omega), if_neg q]
  have hpn := posN_of hC f
  have hal := aboV_len c f
  refine evk_loop ⟨{ i : Nat // i ≤ t.length ∧ ∀ k, k < i → ¬ numIdx c (t.getD k tk0).1 < 0 }, 1000, fun q => [(0, .one (.sl yCT c false)), (2, .one (.sl yTK t false)), (4, .one (.loc 70 0)), (9, .one (.int .i64 0)), (22, .one (.sl yTK t false)), (23, .one (.int .i64 t.length)), (24, .one (.int .i64 q.1))], fun q => [(70, .cells 27 [.str f.1, .int .i64 f.2.1, .str f.2.2.1, .int .i64 f.2.2.2])], fun q => t.length - q.1⟩ ⟨0, Nat.zero_le _, fun k hk => by omega⟩ ?_ ?_
  · subst hf
    simp only [go_sem]
    try first | rfl | (and_intros <;> first | trivial | rfl | omega)
  · rintro ⟨i, (hi : i ≤ t.length), hz⟩
    (simp -implicitDefEqProofs only [go_sem, bP, con46, con28, con34, con80, con81, hT, hG, hk, hK, Tryz.results46, conCnA, conCnB])
    obtain ⟨o, ho⟩ : ∃ o, t.getD i tk0 = o := ⟨_, rfl⟩
    have eo : t.getD (i : Int).toNat (0, []) = o := ho
    try simp only [eo, hf]
    refine ⟨fun hlt => ⟨⟨by omega, hlt⟩, fun _ _ _ => ⟨fun hq => ?_, fun hq => ?_⟩⟩, fun hge => ?_⟩
    · rw [hoA (List.any_eq_true.2 ⟨o, by rw [← ho]; exact getD_mem (by omega), decide_eq_true hq⟩)]; exact ⟨rfl, rfl⟩
    · refine ⟨by omega, ?_⟩
      refine fin_lp ⟨i + 1, by omega, lt_succ hz (by rw [ho]; exact hq)⟩ ?_ (by dsimp only; omega)
      simp only [go_sem]
      try first | rfl | (and_intros <;> first | trivial | rfl | omega)
    · have hno : ¬ t.any (fun u => decide (numIdx c u.1 < 0)) = true := by
       intro q
       obtain ⟨x, hx, hq⟩ := List.any_eq_true.1 q
       obtain ⟨k, hk, rfl⟩ := List.mem_iff_getElem.1 hx
       have := hz k (by omega)
       rw [getD_lt hk] at this
       exact this (of_decide_eq_true hq)
      have hoC := hoB hno
      refine ⟨⟨by omega, hpn⟩, fun _ _ => ?_⟩
      generalize aboV c f = st at hal hoC ⊢
      have hst : ∀ k, k < st.length → st.take (k + 1) = st.take k ++ [st.getD k ct0] := fun k hk => by rw [List.take_succ_eq_append_getElem hk, ← getD_lt (d := ct0) hk]
      have hcs : ∀ k, k < st.length → (st.take (k + 1)).countP (hitV t) = (st.take k).countP (hitV t) + (if hitV t (st.getD k ct0) = true then 1 else 0) := fun k hk => by
       rw [hst k hk, List.countP_append, List.countP_singleton]
      have hcb : ∀ k, (st.take k).countP (hitV t) ≤ 1000 := fun k => by
       have := List.countP_le_length (p := hitV t) (l := st.take k)
       rw [List.length_take] at this; omega
      refine evk_loop ⟨{ i : Nat // i ≤ st.length }, 2000, fun q => [(2, .one (.sl yTK t false)), (9, .one (.int .i64 ((st.take q.1).countP (hitV t) : Nat))), (12, .one (.sl yCT st false)), (37, .one (.sl yCT st false)), (38, .one (.int .i64 st.length)), (39, .one (.int .i64 q.1))], fun q => [], fun q => st.length - q.1⟩ ⟨0, Nat.zero_le _⟩ ?_ ?_
      · simp only [go_sem]
        try first | rfl | (and_intros <;> first | trivial | rfl | omega)
      · rintro ⟨i2, (hi2 : i2 ≤ st.length)⟩
        (simp -implicitDefEqProofs only [go_sem, bP, con46, con28, con34, con80, con81, hT, hG, hk, hK, Tryz.results46, conCnA, conCnB])
        obtain ⟨o2, ho2⟩ : ∃ o, st.getD i2 ct0 = o := ⟨_, rfl⟩
        have eo2 : st.getD (i2 : Int).toNat (0, (ByteArray.empty, 0, ByteArray.empty, 0), 0, 0, 0, 0, 0, []) = o2 := ho2
        try simp only [eo2, hf]
        have hb := hcb i2
        refine ⟨fun hlt2 => ?_, fun hge2 => ?_⟩
        · have h1 := hcs i2 (by omega)
          rw [ho2] at h1
          (repeat' with_reducible first | refine And.intro ?_ ?_ | intro _) <;> try first | with_reducible (first | assumption | omega | contradiction) | decide
          all_goals first
           | omega
           | (have h : hitV t o2 = true := by assumption
              rw [if_pos h] at h1
              refine fin_lp ⟨i2 + 1, by omega⟩ ?_ (by dsimp only; omega)
              simp only [go_sem]
              rw [h1]
              try first | rfl | (and_intros <;> first | trivial | rfl | omega)
              done)
           | (have h : hitV t o2 = false := by assumption
              rw [if_neg (by rw [h]; simp), Nat.add_zero] at h1
              refine fin_lp ⟨i2 + 1, by omega⟩ ?_ (by dsimp only; omega)
              simp only [go_sem]
              rw [h1]
              try first | rfl | (and_intros <;> first | trivial | rfl | omega)
              done)
        · have e2 : i2 = st.length := by omega
          have e3 : st.take i2 = st := List.take_of_length_le (by omega)
          simp only [e3]
          refine evk_loop ⟨{ k : Nat // k ≤ st.length ∧ ((st.take k).countP (hitV t) = 0 → ∀ x, (st.drop k).head? = some x → hitV t x = true) }, 3000, fun q => [(2, .one (.sl yTK t false)), (9, .one (.int .i64 ((st.take q.1).countP (hitV t) : Nat))), (12, .one (.sl yCT (st.take q.1) false)), (15, .one (.row 66))], fun q => [(66, .row 3 (.int .i64) ((st.drop q.1).map (fun x => x.num)).reverse)], fun q => q.1⟩ ⟨st.length, Nat.le_refl _, fun _ x hx => by rw [List.drop_length] at hx; cases hx⟩ ?_ ?_
          · simp only [go_sem]
            simp only [List.take_length, List.drop_length]
            try first | rfl | (and_intros <;> first | trivial | rfl | omega)
          · rintro ⟨k, (hk0 : k ≤ st.length), hki⟩
            (simp -implicitDefEqProofs only [go_sem, bP, con46, con28, con34, con80, con81, hT, hG, hk, hK, Tryz.results46, conCnA, conCnB])
            try simp only [hf]
            have hkl : (st.take k).length = k := by rw [List.length_take]; omega
            have hbk := hcb k
            refine ⟨fun hgt => ?_, fun hle => ?_⟩
            · obtain ⟨j, rfl⟩ : ∃ j, k = j + 1 := by
               cases k with
               | zero => rw [List.take_zero] at hgt; simp at hgt
               | succ j => exact ⟨j, rfl⟩
              have hjl : j < st.length := by omega
              obtain ⟨o3, ho3⟩ : ∃ o, st.getD j ct0 = o := ⟨_, rfl⟩
              have h1 := hcs j hjl
              rw [ho3] at h1
              have e4 : (((st.take (j + 1)).length : Int) - 1) = (j : Int) := by rw [hkl]; omega
              have e5 : ((j : Int)).toNat = j := by omega
              have e6 : (st.take (j + 1)).getD j (0, (ByteArray.empty, 0, ByteArray.empty, 0), 0, 0, 0, 0, 0, []) = o3 := by
               rw [← ho3, List.getD_eq_getElem?_getD, List.getElem?_take_of_lt (by omega), ← List.getD_eq_getElem?_getD]; rfl
              have e7 : (st.take (j + 1)).take j = st.take j := by rw [List.take_take, Nat.min_eq_left (by omega)]
              have e8 : st.drop j = o3 :: st.drop (j + 1) := by rw [List.drop_eq_getElem_cons hjl, ← ho3, getD_lt hjl]
              have e9 : ((st.drop j).map (fun x => x.num)).reverse = ((st.drop (j + 1)).map (fun x => x.num)).reverse ++ [o3.num] := by rw [e8, List.map_cons, List.reverse_cons]
              have e10 : (((st.drop (j + 1)).map (fun x => x.num)).reverse).length ≤ 1000 := by rw [List.length_reverse, List.length_map, List.length_drop]; omega
              have hn : ∀ q : Bool, hitV t o3 = q → ((st.take j).countP (hitV t) = 0 → ∀ x, (st.drop j).head? = some x → hitV t x = true) := fun q hq h0 x hx => by
               rw [e8] at hx
               cases hx
               cases hh : hitV t o3 with
               | true => rfl
               | false =>
                 rw [hh, if_neg (by simp)] at h1
                 omega
              simp only [e4, e5, e6, e7]
              simp only [hkl]
              (repeat' with_reducible first | refine And.intro ?_ ?_ | intro _) <;> try first | with_reducible (first | assumption | omega | contradiction) | decide
              all_goals first
               | omega
               | (have h : hitV t o3 = true := by assumption
                  rw [if_pos h] at h1
                  refine fin_lp ⟨j, by omega, hn true h⟩ ?_ (by dsimp only; omega)
                  simp only [go_sem]
                  rw [h1, e9]
                  and_intros <;> first | rfl | omega
                  done)
               | (have h : hitV t o3 = false := by assumption
                  rw [if_neg (by rw [h]; simp), Nat.add_zero] at h1
                  refine fin_lp ⟨j, by omega, hn false h⟩ ?_ (by dsimp only; omega)
                  simp only [go_sem]
                  rw [h1, e9]
                  try first | rfl | (and_intros <;> first | trivial | rfl | omega)
                  done)
            · rw [hoC]
              have h0 : (st.take k).countP (hitV t) = 0 := by omega
              have hne : ∀ x ∈ st.take k, hitV t x = false := fun x hx => by
               have := List.countP_eq_zero.1 h0 x hx
               simpa using this
              have hw := dropW (p := fun x => !hitV t x) (st.take k) (st.drop k) (fun x hx => by rw [hne x hx]; rfl) (fun x hx => by rw [hki h0 x hx]; rfl)
              rw [List.take_append_drop] at hw
              refine ⟨rfl, ?_⟩
              show _ = ((st.dropWhile (fun x => !hitV t x)).map (fun x => x.num)).reverse
              rw [hw])
def remV (c : List Cnt) (w : List Plt) : List Plt := w.filter (fun p => (findV c p).2)
def con14 : Con := { ps := [.d false (.sl yCT), .d false (.sl yPL)], rs := [.d false (.sl yPL)], pre := fun (x : List Cnt × List Plt × Unit) => x.2.1.length ≤ 100000, out := fun (x : List Cnt × List Plt × Unit) => (remV x.1 x.2.1, ()), nw := id }
theorem c14 : CtrOk Tryz.prog 14 con14.ctr :=
 con_sound (G := ⟨[(43, con43.ctr)], [], [], [], []⟩) tab_ok (EnvOk.cons c43 has43 EnvOk.nil) rfl Tryz.func14 rfl con14 4210355 (by kernel_rfl) (by decide) (by decide) rfl (by decide) rfl (by
  rintro ⟨(c : List Cnt), (w : List Plt), _⟩ hpre hwf X hT hG hk hK
  have hw : w.length ≤ 100000 := hpre
  (simp -implicitDefEqProofs only [go_sem, bP, con14, con43, hT, hG, hk, hK, Tryz.results14] at hwf ⊢)
  clear hwf
  refine fun _ => evk_loop ⟨{ i : Nat // i ≤ w.length }, 1000, fun q => [(0, .one (.sl yCT c false)), (5, .one (.row 64)), (10, .one (.sl yPL w false)), (11, .one (.int .i64 w.length)), (12, .one (.int .i64 q.1))], fun q => [(64, .row 37 yPL (remV c (w.take q.1)))], fun q => w.length - q.1⟩ ⟨0, Nat.zero_le _⟩ ?_ ?_
  · simp only [go_sem]
    try first | rfl | (and_intros <;> first | trivial | rfl | omega)
  · rintro ⟨i, (hi : i ≤ w.length)⟩
    (simp -implicitDefEqProofs only [go_sem, bP, con14, con43, hT, hG, hk, hK, Tryz.results14])
    obtain ⟨o, ho⟩ : ∃ o, w.getD i pl0 = o := ⟨_, rfl⟩
    have eo : w.getD (i : Int).toNat (0, 0, 0) = o := ho
    try simp only [eo]
    have hst : i < w.length → remV c (w.take (i + 1)) = remV c (w.take i) ++ (if (findV c o).2 = true then [o] else []) := fun h => by
     unfold remV
     rw [List.take_succ_eq_append_getElem h, ← getD_lt (d := pl0) h, ho, List.filter_append]
     by_cases q : (findV c o).2 = true
     · rw [List.filter_cons_of_pos (by exact q), if_pos q]; rfl
     · rw [List.filter_cons_of_neg (by exact q), if_neg q]; rfl
    have hfl : (remV c (w.take i)).length ≤ i := Nat.le_trans (List.length_filter_le _ _) (by rw [List.length_take]; omega)
    (repeat' with_reducible first | refine And.intro ?_ ?_ | intro _) <;> try first | with_reducible (first | assumption | omega | contradiction) | decide
    all_goals first
     | omega
     | (have h : (findV c o).2 = true := by assumption
        have h1 := hst (by omega)
        rw [if_pos h] at h1
        refine fin_lp ⟨i + 1, by omega⟩ ?_ (by dsimp only; omega)
        simp only [go_sem]
        rw [h1]
        try first | rfl | (and_intros <;> first | trivial | rfl | omega)
        done)
     | (have h : (findV c o).2 = false := by assumption
        have h1 := hst (by omega)
        rw [if_neg (by rw [h]; simp), List.append_nil] at h1
        refine fin_lp ⟨i + 1, by omega⟩ ?_ (by dsimp only; omega)
        simp only [go_sem]
        rw [h1]
        try first | rfl | (and_intros <;> first | trivial | rfl | omega)
        done)
     | (rw [List.take_of_length_le (by omega)]; done))
end Go.Proofs.YtpglcghgklmedaaGreat

set_option maxRecDepth 100000
set_option maxHeartbeats 4000000
namespace Go.Proofs.YtpglcghgklmedaaGreat
open Go.Ev Go.RowKit
theorem copied_walk (v : Value) (n : Nat) (w : World) (hbig : n ≤ 9223372036854775807) (I : Nat → World → Option Addr → Nat → Prop)
 (hcl : Calls Tryz.prog 49 #[v] w fun e w1 => ∃ a cap, e = .returned (.slice a n cap) ∧ I 0 w1 a cap)
 (hr : ∀ k wr a cap, k < n → I k wr a cap → ∃ g off pv, a = some ⟨g, off, none⟩ ∧ wr.cell? ⟨g, off + k * 11 + 10, none⟩ = some pv ∧ Calls Tryz.prog 50 #[pv] wr fun e w2 => ∃ a2 n2 c2 old, e = .returned (.slice a2 n2 c2) ∧ w2.cell? ⟨g, off + k * 11 + 10, none⟩ = some old ∧ w2.frozen? ⟨g, off + k * 11 + 10, none⟩ = false ∧ I (k + 1) (w2.setCell ⟨g, off + k * 11 + 10, none⟩ (.slice a2 n2 c2)) a cap) :
 Calls Tryz.prog 40 #[v] w fun e w' => ∃ a cap, e = .returned (.slice a n cap) ∧ I n w' a cap := by
 go_enter Tryz.func40, Tryz.ntmps40
 go_wp2_with (go_at_call 49; refine hcl.mono ?_; rintro e w1 ⟨a, cap, rfl, hI0⟩)
 go_loopw [9] (fun i wr => ∃ k : Nat, k ≤ n ∧ i = .int .i64 k ∧ I k wr a cap) (fun i _ => n - (intOf i).toNat)
 case atStart => exact ⟨0, Nat.zero_le _, rfl, hI0⟩
 case round =>
  obtain ⟨k, hk, rfl, hI⟩ := hrel
  by_cases hlt : k < n
  · obtain ⟨g, off, pv, rfl, hcell, hcall⟩ := hr k wr a cap hlt hI
    go_wp2_with (go_at_call 50; refine hcall.mono ?_; rintro e w2 ⟨a2, n2, c2, old, rfl, hst, hfz, hI3⟩)
    go_roundw
    case rel => exact ⟨k + 1, by omega, by go_num, hI3⟩
    case measure => simp only [intOf]; omega
  · obtain rfl : k = n := by omega
    go_wp2
    go_ret
    exact ⟨a, cap, rfl, hI⟩
theorem ct_cells {w : World} {O : Nat → Prop} {x : Cnt} {c : List Value} (h : ro w O yCT x c) : c.length = 11 ∧ (∀ u ∈ c, u.oneCell' = true) ∧ (∃ pv, c[10]? = some pv ∧ ro w O (.sl yPC) x.pcs [pv]) ∧ (∀ wX OX, ro wX OX yCT (setPcs x []) (c.set 10 (.slice none 0 0))) := by
 refine ⟨ro_len _ _ _ h, ro_one _ _ _ h, ?_⟩
 obtain ⟨c1, d1, rfl, h1, c2, d2, rfl, h2, c3, d3, rfl, h3, c4, d4, rfl, h4, c5, d5, rfl, h5, c6, d6, rfl, h6, c7, d7, rfl, h7, h8⟩ := h
 obtain ⟨e1, f1, rfl, g1, e2, f2, rfl, g2, e3, f3, rfl, g3, g4⟩ := h2
 obtain ⟨rfl, r1⟩ := h1
 obtain ⟨rfl, r3⟩ := h3
 obtain ⟨rfl, r4⟩ := h4
 obtain ⟨rfl, r5⟩ := h5
 obtain ⟨rfl, r6⟩ := h6
 obtain ⟨rfl, r7⟩ := h7
 obtain ⟨rfl, s1⟩ := g1
 obtain ⟨rfl, s2⟩ := g2
 obtain ⟨rfl, s3⟩ := g3
 obtain ⟨rfl, s4⟩ := g4
 have h9 := h8
 obtain ⟨a, n, cap, rfl, hh⟩ := h8
 refine ⟨⟨_, rfl, h9⟩, fun wX OX => ?_⟩
 exact ⟨_, _, rfl, ⟨rfl, r1⟩, _, _, rfl, ⟨_, _, rfl, ⟨rfl, s1⟩, _, _, rfl, ⟨rfl, s2⟩, _, _, rfl, ⟨rfl, s3⟩, ⟨rfl, s4⟩⟩, _, _, rfl, ⟨rfl, r3⟩, _, _, rfl, ⟨rfl, r4⟩, _, _, rfl, ⟨rfl, r5⟩, _, _, rfl, ⟨rfl, r6⟩, _, _, rfl, ⟨rfl, r7⟩, none, 0, 0, rfl, rfl, Nat.le_refl _, by simp [maxLen], .inl rfl⟩
theorem roAll_mix {w : World} {O : Nat → Prop} {y : Rx} : ∀ (l : List Cnt) (vs f0 f1 : List Value), vs.length = l.length → roAll (ro w O yCT) l f0 → f1.length = l.length * 11 → (∀ i, i < l.length * 11 → f1[i]? = if i % 11 = 10 then vs[i / 11]? else f0[i]?) → (∀ v ∈ vs, v.oneCell' = true) →
 roAll (elG y yCT 10) ((l.map (fun o => setPcs o [])).zip (vs.map some)) f1
 | [], [], f0, f1, _, _, hl, _, _ => List.eq_nil_of_length_eq_zero (by simpa using hl)
 | o :: l, v :: vs, _, f1, h1, ⟨c, d, rfl, hc, hd⟩, hl, hi, hv => by
   obtain ⟨q1, q2, q3, q4⟩ := ct_cells hc
   rw [List.length_cons] at hl hi
   have e1 : f1.take 11 = c.set 10 v := by
    apply List.ext_getElem?
    intro i
    by_cases hi11 : i < 11
    · rw [List.getElem?_take_of_lt hi11, hi i (by omega), List.getElem?_set]
      by_cases e : i = 10
      · subst e; rw [if_pos (by decide), if_pos rfl, if_pos (by omega)]; rfl
      · rw [if_neg (by omega), if_neg (by omega), List.getElem?_append_left (by omega)]
    · rw [List.getElem?_eq_none (by rw [List.length_take]; omega), List.getElem?_eq_none (by rw [List.length_set]; omega)]
   refine ⟨c.set 10 v, f1.drop 11, by rw [← e1, List.take_append_drop], ⟨by rw [List.length_set]; omega, fun u hu => ?_, fun u hu => ?_, ?_⟩, roAll_mix l vs d (f1.drop 11) (by simpa using h1) hd (by rw [List.length_drop]; omega) (fun i hil => ?_) (fun u hu => hv u (List.mem_cons_of_mem _ hu))⟩
   · cases hu
     rw [List.getElem?_set, if_pos rfl, if_pos (by omega)]
   · rcases List.mem_or_eq_of_mem_set hu with h | h
     · exact q2 u h
     · rw [h]; exact hv v List.mem_cons_self
   · rw [List.set_set]; exact q4 _ _
   · rw [List.getElem?_drop, hi (11 + i) (by omega), show (11 + i) % 11 = i % 11 by omega, show (11 + i) / 11 = i / 11 + 1 by omega, List.getElem?_cons_succ, List.getElem?_append_right (by omega), show 11 + i - c.length = i by omega]
theorem setCell_at {w : World} {g p : Nat} {cur : Array Value} {t : TypeId} (h : w.heap[g]? = some (.cells cur t (0, 0))) (u : Value) : (w.setCell ⟨g, p, none⟩ u).heap[g]? = some (.cells (cur.setIfInBounds p u) t (0, 0)) := by
 have hlt := lt_of_block h
 have h' : w.heap[g] = .cells cur t (0, 0) := by simpa [Array.getElem?_eq_getElem hlt] using h
 show (w.heap.modify g _)[g]? = _
 rw [Array.getElem?_eq_getElem (by simpa using hlt), Array.getElem_modify_self, h']
 rfl
structure CpI (cxb : Cx) (l : List Cnt) (w1 : World) (v1 : Value) (f0 : List Value) (k : Nat) (wr : World) : Prop where
 evo : Evo cxb wr
 size : w1.heap.size ≤ wr.heap.size
 same : ∀ b, b < w1.heap.size → blkOf v1 ≠ some b → wr.heap[b]? = w1.heap[b]?
 ex : ∃ (vs f1 : List Value), vs.length = k ∧ RowR wr 31 11 v1 l.length f1 ∧ (∀ i, i < l.length * 11 → f1[i]? = if i % 11 = 10 ∧ i / 11 < k then vs[i / 11]? else f0[i]?) ∧
  (∀ (j : Nat) v, vs[j]? = some v → v.oneCell' = true ∧ (∀ b, blkOf v = some b → w1.heap.size ≤ b ∧ b < wr.heap.size) ∧ ∃ fl, RowR wr 39 5 v (l.getD j ct0).pcs.length fl ∧ ∀ wX OX, roAll (ro wX OX yPC) (l.getD j ct0).pcs fl) ∧
  (∀ (i j : Nat) u v b, vs[i]? = some u → vs[j]? = some v → blkOf u = some b → blkOf v = some b → i = j)
theorem CpI.next {cxb : Cx} {l : List Cnt} {w1 w2 wr : World} {g cap : Nat} {f0 fl : List Value} {k : Nat} {a2 : Option Addr} {n2 c2 : Nat} (h : CpI cxb l w1 (.slice (some ⟨g, 0, none⟩) l.length cap) f0 k wr) (hk : k < l.length) (hcap : 0 < cap)
 (hg : g < w1.heap.size) (hg0 : cxb.w0.heap.size ≤ g) (hMu : ∀ b, ¬ cxb.Mu b) (hev : Evo cxb w2) (hs : wr.heap.size ≤ w2.heap.size) (hb : ∀ b, b < wr.heap.size → w2.heap[b]? = wr.heap[b]?)
 (hr : RowR w2 39 5 (.slice a2 n2 c2) (l.getD k ct0).pcs.length fl) (hro : ∀ wX OX, roAll (ro wX OX yPC) (l.getD k ct0).pcs fl) (hb2 : ∀ b, blkOf (.slice a2 n2 c2) = some b → wr.heap.size ≤ b ∧ b < w2.heap.size) :
 (∃ cur, w2.heap[g]? = some (.cells cur 31 (0, 0))) ∧ CpI cxb l w1 (.slice (some ⟨g, 0, none⟩) l.length cap) f0 (k + 1) (w2.setCell ⟨g, 0 + k * 11 + 10, none⟩ (.slice a2 n2 c2)) := by
 obtain ⟨vs, f1, e1, e2, e3, e4, e5⟩ := h.ex
 obtain ⟨e6, e7⟩ := e2
 rcases e7 with ⟨q, _⟩ | ⟨g', cap', cur, p1, p2, p3, p4, p5, p6, p7⟩
 · omega
 cases p2
 have hg2 : w2.heap[g]? = some (.cells cur 31 (0, 0)) := by rw [hb g (Nat.lt_of_lt_of_le hg h.size)]; exact p3
 have hoth : ∀ b, b ≠ g → (w2.setCell ⟨g, 0 + k * 11 + 10, none⟩ (.slice a2 n2 c2)).heap[b]? = w2.heap[b]? := fun b hbg => Below.heap_setCell w2 _ _ b hbg
 have hsz : (w2.setCell ⟨g, 0 + k * 11 + 10, none⟩ (.slice a2 n2 c2)).heap.size = w2.heap.size := by simp [World.setCell]
 have hgv : ∀ b, blkOf (.slice (some ⟨g, 0, none⟩) l.length cap) ≠ some b ↔ b ≠ g := fun b => by rw [blkOf_slice hcap]; simp [eq_comm]
 refine ⟨⟨cur, hg2⟩, ⟨hev.os, hev.tape, hev.output, hev.drawn, by rw [hsz]; exact hev.size, fun b q1 q2 => by rw [hoth b (by omega)]; exact hev.block b q1 q2⟩, by rw [hsz]; exact Nat.le_trans h.size hs, fun b q1 q2 => ?_, vs ++ [.slice a2 n2 c2], f1.set (k * 11 + 10) (.slice a2 n2 c2), by simp [e1], ⟨by rw [List.length_set]; exact e6, .inr ⟨g, cap, cur.setIfInBounds (0 + k * 11 + 10) (.slice a2 n2 c2), p1, rfl, setCell_at hg2 _, p4, p5, by simpa using p6, ?_⟩⟩, fun i hi => ?_, fun j v hv => ?_, fun i j u v b hu hv hbu hbv => ?_⟩
 · rw [hoth b ((hgv b).1 q2), hb b (Nat.lt_of_lt_of_le q1 h.size)]; exact h.same b q1 q2
 · rw [← p7, Array.toList_setIfInBounds, List.take_set, Nat.zero_add]
 · rw [List.getElem?_set]
   by_cases ei : k * 11 + 10 = i
   · rw [if_pos ei, if_pos (by omega), if_pos ⟨by omega, by omega⟩, show i / 11 = k by omega, List.getElem?_append_right (by omega), e1, Nat.sub_self]; rfl
   · rw [if_neg ei, e3 i hi]
     by_cases q : i % 11 = 10 ∧ i / 11 < k
     · rw [if_pos q, if_pos ⟨q.1, by omega⟩, List.getElem?_append_left (by omega)]
     · rw [if_neg q, if_neg (fun r => q ⟨r.1, by omega⟩)]
 · by_cases hj : j < k
   · rw [List.getElem?_append_left (by omega)] at hv
     obtain ⟨r1, r2, fl', r3, r4⟩ := e4 j v hv
     refine ⟨r1, fun b hb' => ⟨(r2 b hb').1, by rw [hsz]; exact Nat.lt_of_lt_of_le (r2 b hb').2 hs⟩, fl', rowR_of_block r3 (fun b hb' => ?_), r4⟩
     have := r2 b hb'
     rw [hoth b (by omega), hb b this.2]
   · have hj2 := (List.getElem?_eq_some_iff.1 hv).1
     rw [List.length_append, List.length_singleton, e1] at hj2
     have : j = k := by omega
     subst this
     rw [List.getElem?_append_right (by omega), e1, Nat.sub_self] at hv
     cases hv
     refine ⟨rfl, fun b hb' => ⟨Nat.le_trans h.size (hb2 b hb').1, by rw [hsz]; exact (hb2 b hb').2⟩, fl, rowR_of_block hr (fun b hb' => ?_), hro⟩
     have h1 := (hb2 b hb').1
     have h2 := h.size
     exact hoth b (by omega)
 · have split : ∀ (j : Nat) v, (vs ++ [Value.slice a2 n2 c2])[j]? = some v → (j < k ∧ vs[j]? = some v) ∨ (j = k ∧ v = .slice a2 n2 c2) := fun j v hv => by
    by_cases hj : j < k
    · rw [List.getElem?_append_left (by omega)] at hv; exact .inl ⟨hj, hv⟩
    · have hj2 := (List.getElem?_eq_some_iff.1 hv).1
      rw [List.length_append, List.length_singleton, e1] at hj2
      rw [List.getElem?_append_right (by omega), e1, show j - k = 0 by omega] at hv
      cases hv
      exact .inr ⟨by omega, rfl⟩
   rcases split i u hu with ⟨i1, i2⟩ | ⟨i1, rfl⟩ <;> rcases split j v hv with ⟨j1, j2⟩ | ⟨j1, rfl⟩
   · exact e5 i j u v b i2 j2 hbu hbv
   · have h1 := ((e4 i u i2).2.1 b hbu).2
     have h2 := (hb2 b hbv).1
     omega
   · have h1 := ((e4 j v j2).2.1 b hbv).2
     have h2 := (hb2 b hbu).1
     omega
   · omega
def copG (fr : Nat) (l : List Cnt) : Eff := ⟨l.length ≤ 1000 ∧ ∀ o ∈ l, o.pcs.length ≤ 100000, .one (.row fr), [(fr + 1, .fam 39 yPC (l.map (fun o => o.pcs))), (fr, .rowg 31 yCT 10 (fr + 1) (l.map (fun o => setPcs o [])) none)], True⟩
def copO (fr : Nat) : Option (List Cnt) → Eff
 | some l => copG fr l
 | none => bad
def copV (fr : Nat) : AV → Eff
 | .one (.sl u xs _) => copO fr (castTy u yCT xs)
 | _ => bad
def copC : Ctr := fun avs _ fr => match avs with
 | [v] => copV fr v
 | _ => bad
theorem copC_inv {avs : List AV} {m : Mem} {fr : Nat} (hp : (copC avs m fr).pre) : ∃ (l : List Cnt) (cp : Bool), avs = [.one (.sl yCT l cp)] ∧ copC avs m fr = copG fr l := by
 unfold copC at hp ⊢
 split at hp
 case h_2 => exact hp.elim
 rename_i v
 unfold copV at hp
 split at hp
 case h_2 => exact hp.elim
 rename_i u xs cp
 unfold copO at hp
 split at hp
 case h_2 => exact hp.elim
 rename_i l hcast
 obtain ⟨e1, e2⟩ := castTy_eq hcast
 subst e1
 have e2 : xs = l := e2.symm
 subst e2
 exact ⟨xs, cp, rfl, by simp only [copV, hcast, copO]⟩
theorem bare_at {cx : Cx} {σ : Nat → Value} {N : Nat → Prop} {m : Mem} {w wr : World} (h : RepM cx σ N m w) (he : Evo (cx.bare w) wr) : RepM (cx.bare wr) σ N (fun _ => .dead) wr where
 blk _ := trivial
 fresh _ _ := rfl
 inj _ _ _ h := by cases h
 notF _ _ h := by cases h
 low _ _ h := by cases h
 evo := ⟨rfl, rfl, rfl, fun _ => Nat.le_refl _, Nat.le_refl _, fun _ _ _ => rfl⟩
 hF _ h := h.elim
 hone := h.hone
 fix _ h := absurd h (Nat.not_lt_zero _)
 mks _ h := by cases h
 gl := fun g v hg => by
  obtain ⟨h1, h2, h3, vs, e, hh, h4, h5⟩ := glOk_bare h g v hg
  exact ⟨fun h => h, fun h => h, Nat.lt_of_lt_of_le h3 he.size, vs, e, hh, (he.block g h3 h1).trans h4, h5⟩
theorem evo_trans {cx : Cx} {w w1 w2 : World} (h1 : Evo (cx.bare w) w1) (h2 : Evo (cx.bare w1) w2) : Evo (cx.bare w) w2 :=
 ⟨h2.os.trans h1.os, h2.tape.trans h1.tape, h2.output.trans h1.output, fun d => Nat.le_trans (h1.drawn d) (h2.drawn d), Nat.le_trans h1.size h2.size, fun b hb hm => (h2.block b (Nat.lt_of_lt_of_le hb h1.size) hm).trans (h1.block b hb hm)⟩
theorem cloneC_eff (l : List Cnt) (cp : Bool) (fr : Nat) : con49.ctr [.one (.sl yCT l cp)] (fun _ => .dead) fr = ⟨l.length ≤ 100000, .one (.row fr), [(fr, .row 31 yCT l)], Wf (.sl yCT) l ∧ True⟩ := by
 simp [go_sem, con49]
theorem cloneP_eff (l : List Pce) (cp : Bool) (fr : Nat) : con50.ctr [.one (.sl yPC l cp)] (fun _ => .dead) fr = ⟨l.length ≤ 100000, .one (.row fr), [(fr, .row 39 yPC l)], Wf (.sl yPC) l ∧ True⟩ := by
 simp [go_sem, con50]
theorem copC_ok : CtrOk Tryz.prog 40 copC := by
 intro D gv hD cx hcx σ N m w fr avs vs h hfr hr hp
 obtain ⟨l, cp, rfl, hC⟩ := copC_inv hp
 rw [hC] at hp ⊢
 obtain ⟨hl, hlo⟩ : l.length ≤ 1000 ∧ ∀ o ∈ l, o.pcs.length ≤ 100000 := hp
 clear hC
 have hb0 := repM_bare h
 have hr2 := repAs_keep (keeps_bare h) _ _ hr
 unfold repAs at hr
 obtain ⟨v, vs', rfl, g1, g2⟩ := hr
 unfold repAs at g2
 subst g2
 have hcl := c49 D gv hD (cx.bare w) hcx σ N (fun _ => .dead) w fr _ _ hb0 hfr hr2 (by rw [cloneC_eff]; exact Nat.le_trans hl (by decide))
 rw [cloneC_eff] at hcl
 have hown1 : ∀ (wr : World) b, ¬ Owned (cx.bare wr) σ (fun _ => .dead) b := fun wr b hb => hb.elim id (fun ⟨_, h, _⟩ => by cases h)
 have hcp : ∀ (wr : World) (pcs : List Pce) (pv : Value), Evo (cx.bare w) wr → pcs.length ≤ 100000 → ro wr (Owned (cx.bare wr) σ (fun _ => .dead)) (.sl yPC) pcs [pv] → Calls Tryz.prog 50 #[pv] wr fun e w2 => ∃ a2 n2 c2 fl, e = .returned (.slice a2 n2 c2) ∧ Evo (cx.bare w) w2 ∧ wr.heap.size ≤ w2.heap.size ∧ (∀ b, b < wr.heap.size → w2.heap[b]? = wr.heap[b]?) ∧
  RowR w2 39 5 (.slice a2 n2 c2) pcs.length fl ∧ (∀ wX OX, roAll (ro wX OX yPC) pcs fl) ∧ (∀ b, blkOf (.slice a2 n2 c2) = some b → wr.heap.size ≤ b ∧ b < w2.heap.size) := fun wr pcs pv he hpl hro => by
  have hb := bare_at h he
  have hargs : repAs (rx (cx.bare wr) σ N (fun _ => .dead) wr) [.one (.sl yPC pcs false)] [pv] := by
   unfold repAs
   refine ⟨pv, [], rfl, ?_, by unfold repAs; rfl⟩
   unfold repA repC
   exact ⟨hro, fun h => by cases h⟩
  have hc := c50 D gv hD (cx.bare wr) hcx σ N (fun _ => .dead) wr fr _ _ hb hfr hargs (by rw [cloneP_eff]; exact hpl)
  rw [cloneP_eff] at hc
  refine hc.mono ?_
  rintro e w2 ⟨v2, rfl, σ2, q1, q2, q3, _⟩
  have hblk := q1.blk fr
  have hm2 : updM (fun _ => Blk.dead) [(fr, .row 39 yPC pcs)] fr = .row 39 yPC pcs := by simp [updM, upd]
  simp only [hm2] at hblk
  obtain ⟨n, fl, rfl, k1, k2⟩ := hblk
  simp only [rx] at k1 k2
  unfold repA repC at q3
  have hv2 : v2 = σ2 fr := q3.2
  have hbf : ∀ b, blkOf (σ2 fr) = some b → wr.heap.size ≤ b ∧ b < w2.heap.size := fun b hb => by
   have ho : own (updM (fun _ => Blk.dead) [(fr, .row 39 yPC pcs)] fr) = true := by rw [hm2]; rfl
   refine ⟨?_, repB_lt (q1.blk fr) ho b (.inl hb)⟩
   rcases q1.low fr b ho (.inl hb) with h1 | h1
   · exact h1
   · exact h1.elim
  have hfl : ∀ wX OX, roAll (ro wX OX yPC) pcs fl := fun wX OX => roAll_mono (fun x c hx => ro_flat yPC x c rfl hx) _ _ k2
  have hev := evo_trans he q1.evo
  have hsame : ∀ b, b < wr.heap.size → w2.heap[b]? = wr.heap[b]? := fun b hb => q1.evo.block b hb (fun h => h)
  rw [hv2]
  rcases k1.2 with ⟨_, a, e⟩ | ⟨g, cap, cur, _, e, _⟩
  · rw [e] at k1 hbf ⊢
    exact ⟨a, 0, 0, fl, rfl, hev, q1.evo.size, hsame, k1, hfl, hbf⟩
  · rw [e] at k1 hbf ⊢
    exact ⟨_, _, cap, fl, rfl, hev, q1.evo.size, hsame, k1, hfl, hbf⟩
 have hbig : l.length ≤ 9223372036854775807 := by omega
 refine (copied_walk v l.length w hbig (fun k wr a cap => ∃ w1 v1 f0 O1, v1 = .slice a l.length cap ∧ Evo (cx.bare w) w1 ∧ (∃ f, RowR w1 31 11 v1 l.length f) ∧ roAll (ro w1 O1 yCT) l f0 ∧ (∀ b, blkOf v1 = some b → O1 b) ∧ (∀ b, blkOf v1 = some b → w.heap.size ≤ b ∧ b < w1.heap.size) ∧ CpI (cx.bare w) l w1 v1 f0 k wr) ?_ ?_).mono ?_
 · refine hcl.mono ?_
   rintro e w1 ⟨v1, rfl, σ1, q1, q2, q3, _⟩
   have hblk := q1.blk fr
   have hm2 : updM (fun _ => Blk.dead) [(fr, .row 31 yCT l)] fr = .row 31 yCT l := by simp [updM, upd]
   simp only [hm2] at hblk
   obtain ⟨n, f0, rfl, k1, k2⟩ := hblk
   simp only [rx] at k1 k2
   unfold repA repC at q3
   have hv2 : v1 = σ1 fr := q3.2
   have ho : own (updM (fun _ => Blk.dead) [(fr, .row 31 yCT l)] fr) = true := by rw [hm2]; rfl
   have hbf : ∀ b, blkOf (σ1 fr) = some b → w.heap.size ≤ b ∧ b < w1.heap.size := fun b hb => by
    refine ⟨?_, repB_lt (q1.blk fr) ho b (.inl hb)⟩
    rcases q1.low fr b ho (.inl hb) with h1 | h1
    · exact h1
    · exact h1.elim
   have hOw : ∀ b, blkOf (σ1 fr) = some b → Owned (cx.bare w) σ1 (updM (fun _ => Blk.dead) [(fr, .row 31 yCT l)]) b := fun b hb => .inr ⟨fr, ho, .inl hb⟩
   have hI : ∀ a cap, σ1 fr = .slice a l.length cap → CpI (cx.bare w) l w1 (σ1 fr) f0 0 w1 := fun a cap e =>
    ⟨q1.evo, Nat.le_refl _, fun b _ _ => rfl, [], f0, rfl, k1, fun i _ => by rw [if_neg (by omega)], fun j v hv => by simp at hv, fun i j u v b hu => by simp at hu⟩
   rcases k1.2 with ⟨hz, a, e⟩ | ⟨g, cap, cur, _, e, _⟩
   · have e' : σ1 fr = .slice a l.length 0 := by rw [e, hz]
     exact ⟨a, 0, by rw [hv2, e'], w1, σ1 fr, f0, _, e', q1.evo, ⟨f0, k1⟩, k2, hOw, hbf, hI a 0 e'⟩
   · exact ⟨_, cap, by rw [hv2, e], w1, σ1 fr, f0, _, e, q1.evo, ⟨f0, k1⟩, k2, hOw, hbf, hI _ _ e⟩
 · rintro k wr a cap hkl ⟨w1, v1, f0, O1, rfl, he1, ⟨f, hrow⟩, hf0, hO1, hv1, hI⟩
   obtain ⟨vs, f1, e1, e2, e3, e4, e5⟩ := hI.ex
   rcases hrow.2 with ⟨q, _⟩ | ⟨g, cap', cur, p1, p2, _⟩
   · omega
   cases p2
   have hbg : blkOf (.slice (some ⟨g, 0, none⟩) l.length cap) = some g := blkOf_slice p1
   obtain ⟨pre, c, post, r1, r2, r3, _, _⟩ := roAll_at (n := (yCT : Ty).n) (fun x c hx => ro_len _ _ _ hx) hf0 hkl
   have r2 : pre.length = k * 11 := r2
   obtain ⟨t1, t2, ⟨pv, t3, t4⟩, _⟩ := ct_cells r3
   have hpv : f0[k * 11 + 10]? = some pv := by
    rw [r1, List.getElem?_append_right (by omega), r2, show k * 11 + 10 - k * 11 = 10 by omega, List.getElem?_append_left (by omega)]; exact t3
   have hpv1 : f1[k * 11 + 10]? = some pv := by rw [e3 _ (by omega), if_neg (by omega)]; exact hpv
   have hcell := rowR_cells e2 hbg (k * 11 + 10) pv hpv1
   have hlk : l.getD k ct0 = l[k] := getD_lt hkl
   have hpcs : (l[k]).pcs.length ≤ 100000 := hlo _ (List.getElem_mem hkl)
   have hrow2 : ro wr (Owned (cx.bare wr) σ (fun _ => .dead)) (.sl yPC) (l[k]).pcs [pv] := ro_keep ⟨fun b hb hno => ⟨hown1 wr b, fun o ho _ => by
    rw [hI.same b hb (fun e => hno (hO1 b e))]
    exact ho⟩⟩ _ _ _ t4
   refine ⟨g, 0, pv, rfl, by rw [show 0 + k * 11 + 10 = k * 11 + 10 by omega]; exact hcell, (hcp wr _ pv hI.evo hpcs hrow2).mono ?_⟩
   rintro e w2 ⟨a2, n2, c2, fl, rfl, hev, hs, hsame, hr3, hro, hb2⟩
   obtain ⟨hgl, hgu⟩ := hv1 g hbg
   obtain ⟨⟨cur2, hc2⟩, hN⟩ := hI.next (fl := fl) (a2 := a2) (n2 := n2) (c2 := c2) hkl p1 hgu hgl (fun b h => h) hev hs hsame (by rw [hlk]; exact hr3) (by rw [hlk]; exact hro) hb2
   refine ⟨a2, n2, c2, pv, rfl, ?_, by simp [World.frozen?, hc2], w1, _, f0, O1, rfl, he1, ⟨f, hrow⟩, hf0, hO1, hv1, hN⟩
   rw [show 0 + k * 11 + 10 = k * 11 + 10 by omega]
   have hgs : g < wr.heap.size := Nat.lt_of_lt_of_le hgu hI.size
   rw [World.cell?_of_block (a := ⟨g, k * 11 + 10, none⟩) (hsame g hgs)]
   exact hcell
 · rintro e w' ⟨a, cap, rfl, w1, v1, f0, O1, rfl, he1, ⟨f, hrow⟩, hf0, hO1, hv1, hI⟩
   obtain ⟨vs, f1, e1, e2, e3, e4, e5⟩ := hI.ex
   have hfr0 : N fr := hfr fr (Nat.le_refl _) (by omega)
   have hfr1 : N (fr + 1) := hfr (fr + 1) (by omega) (by omega)
   have hne : fr ≠ fr + 1 := by omega
   let m' : Mem := upd (upd m (fr + 1) (.fam 39 yPC (l.map (fun o => o.pcs)))) fr (.rowg 31 yCT 10 (fr + 1) (l.map (fun o => setPcs o [])) none)
   have m1 : m' fr = .rowg 31 yCT 10 (fr + 1) (l.map (fun o => setPcs o [])) none := upd_same _ _ _
   have m2 : m' (fr + 1) = .fam 39 yPC (l.map (fun o => o.pcs)) := by simp only [m']; rw [upd_ne _ _ (fun k => hne k.symm), upd_same]
   have m3 : ∀ i, i ≠ fr → i ≠ fr + 1 → m' i = m i := fun i h1 h2 => by simp only [m']; rw [upd_ne _ _ h1, upd_ne _ _ h2]
   let σ' : Nat → Value := upd (upd σ fr (.slice a l.length cap)) (fr + 1) (.func (.func 0) #[] vs.toArray)
   have s1 : σ' fr = .slice a l.length cap := by simp only [σ']; rw [upd_ne _ _ hne, upd_same]
   have s2 : σ' (fr + 1) = .func (.func 0) #[] vs.toArray := upd_same _ _ _
   have s3 : ∀ i, i ≠ fr → i ≠ fr + 1 → σ' i = σ i := fun i h1 h2 => by simp only [σ']; rw [upd_ne _ _ h2, upd_ne _ _ h1]
   have hb1 : ∀ b, hb (σ' fr) b → blkOf (.slice a l.length cap) = some b := fun b hb => by
    rw [s1] at hb
    exact hb_slice.1 hb
   have hb2 : ∀ b, hb (σ' (fr + 1)) b → ∃ j u, vs[j]? = some u ∧ blkOf u = some b := fun b hb => by
    rw [s2] at hb
    obtain ⟨u, hu, hub⟩ := hb_fam.1 hb
    obtain ⟨j, hj⟩ := List.getElem?_of_mem hu
    exact ⟨j, u, by simpa using hj, hub⟩
   obtain ⟨k1, k2⟩ := h.stepD (σ' := σ') (N' := Nx N fr) (m' := m') (w' := w') (fun i => i = fr ∨ i = fr + 1) (fun i k => k.1)
    (fun i k => by
      have h1 : i ≠ fr := fun e => k.2 ⟨by omega, by omega⟩
      have h2 : i ≠ fr + 1 := fun e => k.2 ⟨by omega, by omega⟩
      rw [m3 i h1 h2]; exact h.fresh i k.1)
    (fun i k => by simp only [not_or] at k; exact ⟨m3 i k.1 k.2, s3 i k.1 k.2⟩)
    (fun i k => s3 i (fun e => k (e ▸ hfr0)) (fun e => k (e ▸ hfr1)))
    (fun b hb _ => hI.evo.block b hb (fun h => h))
    ⟨hI.evo.size, hI.evo.drawn⟩ hI.evo.os hI.evo.tape hI.evo.output
    (fun i b hi _ hbb => by
      rcases hi with rfl | rfl
      · exact .inl (hv1 b (hb1 b hbb)).1
      · obtain ⟨j, u, h1, h2⟩ := hb2 b hbb
        exact .inl (Nat.le_trans he1.size ((e4 j u h1).2.1 b h2).1))
    (fun i i' b hi hi' _ _ hbb hbb' => by
      rcases hi with rfl | rfl <;> rcases hi' with rfl | rfl
      · rfl
      · obtain ⟨j, u, h1, h2⟩ := hb2 b hbb'
        have q1 := (hv1 b (hb1 b hbb)).2
        have q2 := ((e4 j u h1).2.1 b h2).1
        omega
      · obtain ⟨j, u, h1, h2⟩ := hb2 b hbb
        have q1 := (hv1 b (hb1 b hbb')).2
        have q2 := ((e4 j u h1).2.1 b h2).1
        omega
      · rfl)
    (fun i hi => by
      rcases hi with rfl | rfl
      · rw [s1]; rfl
      · rw [s2]; rfl)
    (fun hk i hi => by
      rcases hi with rfl | rfl
      · rw [m1]
        refine ⟨.func 0, vs.toArray, f1, fun k => k.2 ⟨by omega, by omega⟩, s2, by simp [e1], ?_, ?_⟩
        · rw [List.length_map]
          show RowR w' 31 11 (σ' i) l.length f1
          rw [s1]; exact e2
        · show roAll _ ((l.map (fun o => setPcs o [])).zip (vs.map some)) f1
          refine roAll_mix l vs f0 f1 e1 hf0 e2.1 (fun q hq => ?_) (fun u hu => ?_)
          · rw [e3 q hq]
            by_cases hh : q % 11 = 10
            · rw [if_pos ⟨hh, by omega⟩, if_pos hh]
            · rw [if_neg (fun r => hh r.1), if_neg hh]
          · obtain ⟨j, hj⟩ := List.getElem?_of_mem hu
            exact (e4 j u hj).1
      · rw [m2]
        refine ⟨.func 0, vs.toArray, s2, by simp [e1], fun q xs u hx hu => ?_, fun q q' u u' b hu hu' => ?_⟩
        · have hu : vs[q]? = some u := by simpa using hu
          obtain ⟨r1, _, fl, r3, r4⟩ := e4 q u hu
          have hql : q < l.length := by
           have := (List.getElem?_eq_some_iff.1 hx).1
           rwa [List.length_map] at this
          have hxs : xs = (l.getD q ct0).pcs := by
           rw [List.getElem?_map, List.getElem?_eq_getElem hql] at hx
           rw [getD_lt hql]
           simpa using hx.symm
          subst hxs
          exact ⟨r1, fl, r3, r4 _ _⟩
        · exact e5 q q' u u' b (by simpa using hu) (by simpa using hu'))
   refine ⟨_, rfl, σ', k1, k2, ?_, trivial⟩
   unfold repA repC
   exact ⟨fun k => k.2 ⟨by omega, by omega⟩, s1.symm⟩
attribute [go_sem] copG copO copV copC
def conCopG : Go.Ev.Raw := ⟨copC⟩
theorem cCopG : CtrOk Tryz.prog 40 conCopG.ctr := copC_ok
end Go.Proofs.YtpglcghgklmedaaGreat
