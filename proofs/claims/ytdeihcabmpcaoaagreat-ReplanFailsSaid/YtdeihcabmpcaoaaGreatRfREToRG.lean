/- The contracts of the functions that the statements about the makeup reach: rows. -/
import Derived.Test.YtdeihcabmpcaoaaGreatRfRAToRD
set_option linter.unusedSimpArgs false
set_option linter.unusedVariables false
set_option maxRecDepth 100000
set_option maxHeartbeats 4000000
namespace Go.Proofs.YtdeihcabmpcaoaaGreat
open Go.Ev

/-- The flights that are open at a time. -/
def openV (l : List Dep) (t : Int) : List Flt := (l.filter (fun d => isOpenV d t)).map (·.1)
theorem openV_snoc (l : List Dep) (t : Int) (d : Dep) : openV (l ++ [d]) t = if isOpenV d t = true then openV l t ++ [d.1] else openV l t := by
 unfold openV
 rw [List.filter_append]
 by_cases h : isOpenV d t = true
 · rw [if_pos h]; simp [h]
 · rw [if_neg h]; simp [h]
theorem openV_len (l : List Dep) (t : Int) : (openV l t).length ≤ l.length := by
 unfold openV
 rw [List.length_map]
 exact List.length_filter_le _ _
def con42 : Con := { ps := [.d false (.sl yDP), .d false (.int .i64)], rs := [.o 44 yFL], pre := fun (x : List Dep × Int × Unit) => x.1.length ≤ 1048576, out := fun x => (openV x.1 x.2.1, ()), nw := id }
theorem c42 : CtrOk Tryz.prog 42 con42.ctr :=
 con_sound (G := ⟨[(17, con17.ctr)], [], [], [], []⟩) tab_ok (EnvOk.cons c17 has17 EnvOk.nil) rfl Tryz.func42 rfl con42 263283 (by kernel_rfl) (by decide) (by decide) rfl (by decide) rfl (by
  rintro ⟨(l : List Dep), (t : Int), _⟩ hpre hwf X hT hG hk hK
  have hl : l.length ≤ 1048576 := hpre
  (simp -implicitDefEqProofs (maxSteps := 4000000) only [go_sem, Bool.not_eq_true', Bool.not_eq_false', Bool.or_eq_true, Bool.or_eq_false_iff, Bool.and_eq_true, Bool.and_eq_false_iff, decide_eq_true_eq, decide_eq_false_iff_not, Classical.not_not, not_or, maxLen, con42, con17, hT, hG, hk, hK, Tryz.results42] at hwf ⊢); (try simp (disch := decide +kernel) only [drawn, true_and, and_true])
  refine evk_loop ⟨{ i : Nat // i ≤ l.length }, 1000, fun i => [(0, .one (.sl yDP l false)), (1, .one (.int .i64 t)), (5, .one (.row 64)), (6, .one (.int .i64 i.1))], fun i => [(64, .row 44 yFL (openV (l.take i.1) t))], fun i => l.length - i.1⟩ ⟨0, by simp⟩ ?_ ?_
  · simp only [go_sem]
    exact ⟨rfl, rfl⟩
  · rintro ⟨i, (hi : i ≤ l.length)⟩
    (simp -implicitDefEqProofs (maxSteps := 4000000) only [go_sem, Bool.not_eq_true', Bool.not_eq_false', Bool.or_eq_true, Bool.or_eq_false_iff, Bool.and_eq_true, Bool.and_eq_false_iff, decide_eq_true_eq, decide_eq_false_iff_not, Classical.not_not, not_or, maxLen, con42, con17, hT, hG, hk, hK, Tryz.results42]); (try simp (disch := decide +kernel) only [drawn, true_and, and_true])
    refine fun _ => ⟨fun hlt => ?_, fun hge => ?_⟩
    · have hi' : i < l.length := by omega
      have ek : ∀ z, l.getD (i : Int).toNat z = l[i] := fun z => by simp [hi']
      simp only [ek]
      have hst : openV (l.take (i + 1)) t = if isOpenV l[i] t = true then openV (l.take i) t ++ [l[i].1] else openV (l.take i) t := by
       rw [List.take_succ_eq_append_getElem hi', openV_snoc]
      have hlen := openV_len (l.take i) t
      rw [List.length_take] at hlen
      (repeat' (with_reducible (first | refine And.intro ?_ ?_ | intro _))) <;> (try (first | with_reducible (first | done | assumption | omega | contradiction) | decide))
      · have h : isOpenV l[i] t = true := by assumption
        refine fin_lp ⟨i + 1, by omega⟩ ?_ ?_
        · simp only [go_sem]
          rw [hst, if_pos h]
          exact ⟨rfl, rfl⟩
        · dsimp only; omega
      · have h : isOpenV l[i] t = false := by assumption
        refine fin_lp ⟨i + 1, by omega⟩ ?_ ?_
        · simp only [go_sem]
          rw [hst, if_neg (by rw [h]; simp)]
          exact ⟨rfl, rfl⟩
        · dsimp only; omega
    · rw [List.take_of_length_le (by omega)])
def con24 : Con := { ps := [.d false (.sl yDP), .d false (.int .i64)], rs := [.o 44 yFL], pre := fun (x : List Dep × Int × Unit) => x.1.length ≤ 1048576, out := fun x => (openV x.1 x.2.1, ()), nw := id }
theorem c24 : CtrOk Tryz.prog 24 con24.ctr :=
 con_sound (G := ⟨[(53, con53.ctr)], [], [], [], []⟩) tab_ok (EnvOk.cons c53 has53 EnvOk.nil) rfl Tryz.func24 rfl con24 69555 (by kernel_rfl) (by decide) (by decide) rfl (by decide) rfl (by
  rintro ⟨(l : List Dep), (t : Int), _⟩ hpre hwf X hT hG hk hK
  have hl : l.length ≤ 1048576 := hpre
  (simp -implicitDefEqProofs (maxSteps := 4000000) only [go_sem, Bool.not_eq_true', Bool.not_eq_false', Bool.or_eq_true, Bool.or_eq_false_iff, Bool.and_eq_true, Bool.and_eq_false_iff, decide_eq_true_eq, decide_eq_false_iff_not, Classical.not_not, not_or, maxLen, con24, con53, hT, hG, hk, hK, Tryz.results24] at hwf ⊢); (try simp (disch := decide +kernel) only [drawn, true_and, and_true])
  refine fun _ => evk_loop ⟨{ i : Nat // i ≤ l.length }, 1000, fun i => [(1, .one (.int .i64 t)), (5, .one (.row 64)), (8, .one (.sl yDP l false)), (9, .one (.int .i64 l.length)), (10, .one (.int .i64 i.1))], fun i => [(64, .row 44 yFL (openV (l.take i.1) t))], fun i => l.length - i.1⟩ ⟨0, by simp⟩ ?_ ?_
  · simp only [go_sem]
    exact ⟨rfl, rfl⟩
  · rintro ⟨i, (hi : i ≤ l.length)⟩
    (simp -implicitDefEqProofs (maxSteps := 4000000) only [go_sem, Bool.not_eq_true', Bool.not_eq_false', Bool.or_eq_true, Bool.or_eq_false_iff, Bool.and_eq_true, Bool.and_eq_false_iff, decide_eq_true_eq, decide_eq_false_iff_not, Classical.not_not, not_or, maxLen, con24, con53, hT, hG, hk, hK, Tryz.results24]); (try simp (disch := decide +kernel) only [drawn, true_and, and_true])
    refine ⟨fun hlt => ?_, fun hge => ?_⟩
    · have hi' : i < l.length := by omega
      have ek : ∀ z, l.getD (i : Int).toNat z = l[i] := fun z => by simp [hi']
      simp only [ek]
      have hst : openV (l.take (i + 1)) t = if isOpenV l[i] t = true then openV (l.take i) t ++ [l[i].1] else openV (l.take i) t := by
       rw [List.take_succ_eq_append_getElem hi', openV_snoc]
      have hlen := openV_len (l.take i) t
      rw [List.length_take] at hlen
      (repeat' (with_reducible (first | refine And.intro ?_ ?_ | intro _))) <;> (try (first | with_reducible (first | done | assumption | omega | contradiction) | decide))
      · have h : isOpenV l[i] t = true := by assumption
        refine fin_lp ⟨i + 1, by omega⟩ ?_ ?_
        · simp only [go_sem]
          rw [hst, if_pos h]
          exact ⟨rfl, rfl⟩
        · dsimp only; omega
      · have h : isOpenV l[i] t = false := by assumption
        refine fin_lp ⟨i + 1, by omega⟩ ?_ ?_
        · simp only [go_sem]
          rw [hst, if_neg (by rw [h]; simp)]
          exact ⟨rfl, rfl⟩
        · dsimp only; omega
    · rw [List.take_of_length_le (by omega)])
def planV (l : List Dep) : List Dep := l.filter (fun d => decide (d.state = 0))
theorem planV_snoc (l : List Dep) (d : Dep) : planV (l ++ [d]) = if d.state = 0 then planV l ++ [d] else planV l := by
 unfold planV
 rw [List.filter_append]
 by_cases h : d.state = 0
 · rw [if_pos h]; simp [h]
 · rw [if_neg h]; simp [h]
theorem idxF_spec {α : Type} (p : α → Bool) : ∀ (l : List α) (k : Int), 0 ≤ k → (idxF p l k = -1 ∧ ∀ x ∈ l, p x = false) ∨ ∃ (i : Nat) (h : i < l.length), idxF p l k = k + i ∧ p l[i] = true ∧ ∀ x ∈ l.take i, p x = false
 | [], k, _ => .inl ⟨rfl, by simp⟩
 | x :: l, k, hk => by
   unfold idxF
   by_cases h : p x = true
   · rw [if_pos h]
     exact .inr ⟨0, by simp, by simp, by simpa using h, by simp⟩
   · rw [if_neg h]
     have hx : p x = false := by simpa using h
     rcases idxF_spec p l (k + 1) (by omega) with ⟨h1, h2⟩ | ⟨i, hi, h1, h2, h3⟩
     · exact .inl ⟨h1, fun y hy => by rcases List.mem_cons.1 hy with rfl | hy; exact hx; exact h2 y hy⟩
     · refine .inr ⟨i + 1, by simpa using hi, by rw [h1]; omega, by simpa using h2, fun y hy => ?_⟩
       rw [List.take_succ_cons] at hy
       rcases List.mem_cons.1 hy with rfl | hy
       · exact hx
       · exact h3 y hy
theorem planV_all {l : List Dep} (h : ∀ x ∈ l, (!decide (Dep.state x = 0)) = false) : planV l = l := by
 unfold planV
 rw [List.filter_eq_self]
 intro x hx
 have := h x hx
 simpa using this
theorem row_at {l R : List Dep} {r : Nat} (h : R.drop r = l.drop r) (h1 : r < R.length) (h2 : r < l.length) : R[r] = l[r] := by
 have e1 := List.drop_eq_getElem_cons h1
 have e2 := List.drop_eq_getElem_cons h2
 rw [h, e2] at e1
 exact (List.cons.inj e1).1.symm
def con54 : Con := { ps := [.oc 52 yDP, .cl 55 []], rs := [.o 52 yDP], pre := fun x => x.1.length ≤ 1048576, out := fun x => (planV x.1, ()), nw := id }
theorem c54 : CtrOk Tryz.prog 54 con54.ctr :=
 con_sound (G := ⟨[(72, con72.ctr), (55, con55.ctr)], [], [(13, 2), (38, 1), (41, 2)], [], []⟩) tab_ok (EnvOk.cons c72 has72 (EnvOk.cons c55 has55 EnvOk.nil)) rfl Tryz.func54 rfl con54 537399539 (by kernel_rfl) (by decide) (by decide) rfl (by decide) rfl (by
  rintro ⟨(l : List Dep), _⟩ hpre hwf X hT hG hk hK
  have hl : l.length ≤ 1048576 := hpre
  (simp -implicitDefEqProofs (maxSteps := 4000000) only [go_sem, Bool.not_eq_true', Bool.not_eq_false', Bool.or_eq_true, Bool.or_eq_false_iff, Bool.and_eq_true, Bool.and_eq_false_iff, decide_eq_true_eq, decide_eq_false_iff_not, Classical.not_not, not_or, maxLen, con54, con72, con55, hT, hG, hk, hK, Tryz.results54] at hwf ⊢); (try simp (disch := decide +kernel) only [drawn, true_and, and_true])
  have hs := idxF_spec (fun d : Dep => !decide (d.state = 0)) l 0 (Int.le_refl _)
  generalize idxF (fun d : Dep => !decide (d.state = 0)) l 0 = q at hs ⊢
  refine fun _ => ⟨fun h => ?_, fun h => ?_⟩
  · rcases hs with ⟨_, h2⟩ | ⟨i, hi, h1, _⟩
    · exact (planV_all h2).symm
    · omega
  · rcases hs with ⟨h1, _⟩ | ⟨i, hi, h1, h2, h3⟩
    · exact absurd h1 h
    · refine ⟨⟨by omega, by omega⟩, ?_⟩
      have hq : q = i := by omega
      subst hq
      have b1 : l.take i = planV (l.take (i + 1)) := by
       rw [List.take_succ_eq_append_getElem hi, planV_snoc, planV_all h3, if_neg (by simpa using h2)]
      refine evk_loop ⟨{ q : Nat × Nat × List Dep // q.1 ≤ q.2.1 ∧ q.2.1 ≤ l.length ∧ q.2.2.length = l.length ∧ q.2.2.take q.1 = planV (l.take q.2.1) ∧ q.2.2.drop q.2.1 = l.drop q.2.1 }, 1000, fun q => [(0, .one (.row 0)), (1, .one (.fn 55 [])), (5, .one (.int .i64 q.1.1)), (6, .one (.int .i64 q.1.2.1))], fun q => [(0, .row 52 yDP q.1.2.2)], fun q => l.length - q.1.2.1⟩ ⟨(i, i + 1, l), by simp, by simp; omega, rfl, b1, rfl⟩ ?_ ?_
      · simp only [go_sem]
        rfl
      · rintro ⟨⟨a, r, R⟩, (c1 : a ≤ r), (c2 : r ≤ l.length), (c3 : R.length = l.length), (c4 : R.take a = planV (l.take r)), (c5 : R.drop r = l.drop r)⟩
        (simp -implicitDefEqProofs (maxSteps := 4000000) only [go_sem, Bool.not_eq_true', Bool.not_eq_false', Bool.or_eq_true, Bool.or_eq_false_iff, Bool.and_eq_true, Bool.and_eq_false_iff, decide_eq_true_eq, decide_eq_false_iff_not, Classical.not_not, not_or, maxLen, con54, con72, con55, hT, hG, hk, hK, Tryz.results54]); (try simp (disch := decide +kernel) only [drawn, true_and, and_true])
        refine fun _ => ⟨fun hlt => ?_, fun hge => ?_⟩
        · have hr : r < R.length := by omega
          have hr2 : r < l.length := by omega
          have ek : ∀ z, R.getD (r : Int).toNat z = l[r] := fun z => by rw [← row_at c5 hr hr2]; simp [hr]
          simp only [ek]
          have hd : R.drop (r + 1) = l.drop (r + 1) := by rw [← List.drop_drop, c5, List.drop_drop]
          have hst : planV (l.take (r + 1)) = if l[r].state = 0 then planV (l.take r) ++ [l[r]] else planV (l.take r) := by
           rw [List.take_succ_eq_append_getElem hr2, planV_snoc]
          (repeat' (with_reducible (first | refine And.intro ?_ ?_ | intro _))) <;> (try (first | with_reducible (first | done | assumption | omega | contradiction) | decide))
          · have h0 : l[r].state = 0 := by assumption
            have har : a < R.length := by omega
            refine fin_lp ⟨(a + 1, r + 1, R.set a l[r]), by dsimp only; omega, by dsimp only; omega, by dsimp only; rw [List.length_set]; exact c3, ?_, ?_⟩ (by simp only [go_sem]; first | rfl | ((repeat' apply And.intro) <;> first | rfl | assumption | omega)) (by dsimp only; omega)
            · dsimp only
              rw [hst, if_pos h0, ← c4, List.take_succ_eq_append_getElem (by rw [List.length_set]; omega), List.take_set_of_le (Nat.le_refl _), List.getElem_set_self]
            · dsimp only
              rw [List.drop_set_of_lt (by omega), hd]
          · have h0 : ¬ l[r].state = 0 := by assumption
            refine fin_lp ⟨(a, r + 1, R), by dsimp only; omega, by dsimp only; omega, c3, by dsimp only; rw [hst, if_neg h0]; exact c4, hd⟩ (by simp only [go_sem]; first | rfl | ((repeat' apply And.intro) <;> first | rfl | assumption | omega)) (by dsimp only; omega)
        · refine ⟨by omega, ?_⟩
          have hr : r = l.length := by omega
          have e1 : (a : Int).toNat = a := by omega
          have e2 : ((R.length : Int) - (a : Int)).toNat = R.length - a := by omega
          have e3 : (a + (R.length - a) ≤ R.length) = True := by rw [eq_iff_iff, iff_true]; omega
          (simp -implicitDefEqProofs (maxSteps := 4000000) only [go_sem, Bool.not_eq_true', Bool.not_eq_false', Bool.or_eq_true, Bool.or_eq_false_iff, Bool.and_eq_true, Bool.and_eq_false_iff, decide_eq_true_eq, decide_eq_false_iff_not, Classical.not_not, not_or, maxLen, con54, con72, con55, hT, hG, hk, hK, Tryz.results54, e1, e2, e3]); (try simp (disch := decide +kernel) only [drawn, true_and, and_true])
          have e5 : (R.take a).length = a := by rw [List.length_take]; omega
          have e4 : List.take a (List.take a R ++ (List.replicate (R.length - a) ((ByteArray.empty, 0, ByteArray.empty, 0), ByteArray.empty, 0, 0, 0, 0, 0) ++ List.drop (a + (R.length - a)) R)) = planV l := by
           rw [List.take_append_of_le_length (by omega), List.take_of_length_le (by omega), c4, hr, List.take_of_length_le (Nat.le_refl _)]
          refine ⟨⟨by omega, ?_⟩, e4⟩
          rw [List.length_append, e5]
          omega)
end Go.Proofs.YtdeihcabmpcaoaaGreat

/- The contracts of the functions that the statements about the makeup reach: schedules out of numbers. -/
set_option linter.unusedSimpArgs false
set_option linter.unusedVariables false
set_option maxRecDepth 100000
set_option maxHeartbeats 4000000
namespace Go.Proofs.YtdeihcabmpcaoaaGreat
open Go.Ev

def con25 : Con := { ps := [.d false (.sl yDP)], rs := [.o 52 yDP], pre := fun (x : List Dep × Unit) => x.1.length ≤ 1048576, out := fun x => (planV x.1, ()), nw := id }
theorem c25 : CtrOk Tryz.prog 25 con25.ctr :=
 con_sound (G := ⟨[(54, con54.ctr)], [], [], [], []⟩) tab_ok (EnvOk.cons c54 has54 EnvOk.nil) rfl Tryz.func25 rfl con25 13 (by kernel_rfl) (by decide) (by decide) rfl (by decide) rfl (by
  rintro ⟨(l : List Dep), _⟩ hpre hwf X hT hG hk hK
  have hl : l.length ≤ 1048576 := hpre
  (simp -implicitDefEqProofs (maxSteps := 4000000) only [go_sem, Bool.not_eq_true', Bool.not_eq_false', Bool.or_eq_true, Bool.or_eq_false_iff, Bool.and_eq_true, Bool.and_eq_false_iff, decide_eq_true_eq, decide_eq_false_iff_not, Classical.not_not, not_or, maxLen, con25, con54, hT, hG, hk, hK, Tryz.results25] at hwf ⊢); (try simp (disch := decide +kernel) only [drawn, true_and, and_true])
  (repeat' (with_reducible (first | refine And.intro ?_ ?_ | intro _))) <;> (try (first | with_reducible (first | done | assumption | omega | contradiction) | decide)))
def ascI : List Int → Bool
 | a :: b :: l => decide (a < b) && ascI (b :: l)
 | _ => true
def argsV (l : List Dep) (cs : List Int) : Int :=
 if validateV l ≠ 0 then validateV l else if ((planV l).length : Int) > 16 ∨ (cs.length : Int) > 6 then 2 else if cs.all (fun c => decide (0 ≤ c)) = false then 1 else if ascI cs = false then 9 else 0
def con22 : Con := { ps := [.d false (.sl yDP), .d false (.sl (.int .i64))], rs := [.d false (.int .i64)], pre := fun (x : List Dep × List Int × Unit) => x.1.length ≤ 1048576, out := fun x => (argsV x.1 x.2.1, ()), nw := id }
theorem c22 : CtrOk Tryz.prog 22 con22.ctr :=
 con_sound (G := ⟨[(25, con25.ctr), (51, con51.ctr)], [], [], [], []⟩) tab_ok (EnvOk.cons c25 has25 (EnvOk.cons c51 has51 EnvOk.nil)) rfl Tryz.func22 rfl con22 140773051863475 (by kernel_rfl) (by decide) (by decide) rfl (by decide) rfl (by
  rintro ⟨(l : List Dep), (cs : List Int), _⟩ hpre hwf X hT hG hk hK
  have hl : l.length ≤ 1048576 := hpre
  (simp -implicitDefEqProofs (maxSteps := 4000000) only [go_sem, Bool.not_eq_true', Bool.not_eq_false', Bool.or_eq_true, Bool.or_eq_false_iff, Bool.and_eq_true, Bool.and_eq_false_iff, decide_eq_true_eq, decide_eq_false_iff_not, Classical.not_not, not_or, maxLen, con22, con25, con51, hT, hG, hk, hK, Tryz.results22] at hwf ⊢); (try simp (disch := decide +kernel) only [drawn, true_and, and_true])
  (repeat' (with_reducible (first | refine And.intro ?_ ?_ | intro _))) <;> (try (first | with_reducible (first | done | assumption | omega | contradiction) | decide))
  · rename_i h
    unfold argsV; rw [if_pos h]
  · have h0 : validateV l = 0 := by assumption
    have h1 : ((planV l).length : Int) > 16 ∨ (cs.length : Int) > 6 := by assumption
    unfold argsV; rw [if_neg (by omega), if_pos h1]
  · have h0 : validateV l = 0 := by assumption
    have h1 : ¬ ((planV l).length : Int) > 16 ∧ ¬ (cs.length : Int) > 6 := by assumption
    have e0 : argsV l cs = if cs.all (fun c => decide (0 ≤ c)) = false then 1 else if ascI cs = false then 9 else 0 := by
     unfold argsV; rw [if_neg (by omega), if_neg (by omega)]
    refine evk_loop ⟨{ i : Nat // i ≤ cs.length ∧ (cs.take i).all (fun c => decide (0 ≤ c)) = true }, 1000, fun i => [(1, .one (.sl (.int .i64) cs false)), (23, .one (.sl (.int .i64) cs false)), (24, .one (.int .i64 cs.length)), (25, .one (.int .i64 i.1))], fun _ => [], fun i => cs.length - i.1⟩ ⟨0, by simp, by simp⟩ ?_ ?_
    · simp only [go_sem]
      rfl
    · rintro ⟨i, (hi : i ≤ cs.length), (hx : (cs.take i).all (fun c => decide (0 ≤ c)) = true)⟩
      (simp -implicitDefEqProofs (maxSteps := 4000000) only [go_sem, Bool.not_eq_true', Bool.not_eq_false', Bool.or_eq_true, Bool.or_eq_false_iff, Bool.and_eq_true, Bool.and_eq_false_iff, decide_eq_true_eq, decide_eq_false_iff_not, Classical.not_not, not_or, maxLen, con22, con25, con51, hT, hG, hk, hK, Tryz.results22]); (try simp (disch := decide +kernel) only [drawn, true_and, and_true])
      refine ⟨fun hlt => ?_, fun hge => ?_⟩
      · have hi' : i < cs.length := by omega
        have ek : ∀ z, cs.getD (i : Int).toNat z = cs[i] := fun z => by simp [hi']
        simp only [ek]
        (repeat' (with_reducible (first | refine And.intro ?_ ?_ | intro _))) <;> (try (first | with_reducible (first | done | assumption | omega | contradiction) | decide))
        · rename_i h
          rw [e0, if_pos]
          rw [List.all_eq_false]
          exact ⟨cs[i], List.getElem_mem hi', by rw [decide_eq_true_eq]; omega⟩
        · rename_i h
          refine fin_lp ⟨i + 1, by omega, by rw [List.take_succ_eq_append_getElem hi', List.all_append, hx]; simp; omega⟩ (by simp only [go_sem]; first | rfl | ((repeat' apply And.intro) <;> first | rfl | assumption | omega)) (by dsimp only; omega)
      · rw [List.take_of_length_le (by omega)] at hx
        have e1 : argsV l cs = if ascI cs = false then 9 else 0 := by rw [e0, if_neg (by rw [hx]; simp)]
        refine evk_loop ⟨{ i : Nat // (i ≤ cs.length ∨ i = 0) ∧ ascI cs = ascI (cs.drop i) }, 2000, fun i => [(1, .one (.sl (.int .i64) cs false)), (8, .one (.int .i64 (i.1 + 1)))], fun _ => [], fun i => cs.length - i.1⟩ ⟨0, by simp, by simp⟩ ?_ ?_
        · simp only [go_sem]
          rfl
        · rintro ⟨i, (hi : i ≤ cs.length ∨ i = 0), (he : ascI cs = ascI (cs.drop i))⟩
          (simp -implicitDefEqProofs (maxSteps := 4000000) only [go_sem, Bool.not_eq_true', Bool.not_eq_false', Bool.or_eq_true, Bool.or_eq_false_iff, Bool.and_eq_true, Bool.and_eq_false_iff, decide_eq_true_eq, decide_eq_false_iff_not, Classical.not_not, not_or, maxLen, con22, con25, con51, hT, hG, hk, hK, Tryz.results22]); (try simp (disch := decide +kernel) only [drawn, true_and, and_true])
          refine fun _ => ⟨fun hlt => ?_, fun hge => ?_⟩
          · have hi' : i < cs.length := by omega
            have hi2 : i + 1 < cs.length := by omega
            have ek : ∀ z, cs.getD ((i : Int) + 1).toNat z = cs[i + 1] := fun z => by
             rw [show ((i : Int) + 1).toNat = i + 1 by omega]; simp [hi2]
            have ek2 : ∀ z, cs.getD ((i : Int) + 1 - 1).toNat z = cs[i] := fun z => by
             rw [show ((i : Int) + 1 - 1).toNat = i by omega]; simp [hi']
            simp only [ek, ek2]
            have hst : ascI cs = (decide (cs[i] < cs[i + 1]) && ascI (cs.drop (i + 1))) := by
             rw [he, List.drop_eq_getElem_cons hi', List.drop_eq_getElem_cons hi2, ascI]
            (repeat' (with_reducible (first | refine And.intro ?_ ?_ | intro _))) <;> (try (first | with_reducible (first | done | assumption | omega | contradiction) | decide))
            · rename_i h
              rw [e1, hst, decide_eq_false (by omega)]
              rfl
            · rename_i h
              refine fin_lp ⟨i + 1, by omega, by rw [hst, decide_eq_true (by omega)]; rfl⟩ (by simp only [go_sem]; first | rfl | ((repeat' apply And.intro) <;> first | rfl | assumption | omega)) (by dsimp only; omega)
          · have ha : ascI cs = true := by
             rw [he]
             rcases h : cs.drop i with _ | ⟨a, _ | ⟨b, q⟩⟩
             · rfl
             · rfl
             · have := congrArg List.length h
               rw [List.length_drop] at this
               simp only [List.length_cons] at this
               omega
            rw [e1, if_neg (by rw [ha]; simp)])
def strs3 : List ByteArray := [⟨#[66, 65]⟩, ⟨#[76, 72]⟩, ⟨#[83, 75]⟩]
def fltsV (n : Int) : Flt := (strs3.getD (goMod n 27 / 9).toNat ByteArray.empty, 1 + goMod n 27 / 3 % 3, ByteArray.empty, 1 + goMod n 27 % 3)
def con20 : Con := { ps := [.d false (.int .i64)], rs := [.d true yFL], pre := fun _ => True, out := fun x => (fltsV x.1, ()), nw := id }
theorem c20 : CtrOk Tryz.prog 20 con20.ctr :=
 con_sound (G := ⟨[(9, con9.ctr)], [], [], [], []⟩) tab_ok (EnvOk.cons c9 has9 EnvOk.nil) rfl Tryz.func20 rfl con20 5 (by kernel_rfl) (by decide) (by decide) rfl (by decide) rfl (by
  rintro ⟨(n : Int), _⟩ hpre hwf X hT hG hk hK
  (simp -implicitDefEqProofs (maxSteps := 4000000) only [go_sem, Bool.not_eq_true', Bool.not_eq_false', Bool.or_eq_true, Bool.or_eq_false_iff, Bool.and_eq_true, Bool.and_eq_false_iff, decide_eq_true_eq, decide_eq_false_iff_not, Classical.not_not, not_or, maxLen, con20, con9, hT, hG, hk, hK, Tryz.results20] at hwf ⊢); (try simp (disch := decide +kernel) only [drawn, true_and, and_true])
  have hb := goMod_bd n 27 (by omega)
  have e : fltsV n = (strs3.getD (goMod n 27 / 9).toNat ByteArray.empty, 1 + goMod n 27 / 3 % 3, ByteArray.empty, 1 + goMod n 27 % 3) := rfl
  rw [e]
  generalize goMod n 27 = k at hb ⊢
  have e1 : k.tdiv 9 = k / 9 := Int.tdiv_eq_ediv_of_nonneg hb.1
  have e2 : k.tdiv 3 = k / 3 := Int.tdiv_eq_ediv_of_nonneg hb.1
  have e3 : k.tmod 3 = k % 3 := Int.tmod_eq_emod_of_nonneg hb.1
  have e4 : (k / 3).tmod 3 = k / 3 % 3 := Int.tmod_eq_emod_of_nonneg (by omega)
  simp only [e1, e2, e3, e4]
  (repeat' (with_reducible (first | refine And.intro ?_ ?_ | intro _))) <;> (try (first | with_reducible (first | done | assumption | omega | contradiction) | decide))
  all_goals rfl)
def con50 : Con := { ps := [.p 57 ySR, .d false (.sl .str)], rs := [.d false .str], pre := fun (x : Src × List ByteArray × Unit) => 0 ≤ x.1.2 ∧ 0 < x.2.1.length, out := fun (x : Src × List ByteArray × Unit) => (x.2.1.getD (goMod x.1.raw x.2.1.length).toNat ByteArray.empty, ()), nw := fun x => (Src.step x.1, x.2) }
theorem c50 : CtrOk Tryz.prog 50 con50.ctr :=
 con_sound (G := ⟨[(10, con10.ctr)], [], [], [], []⟩) tab_ok (EnvOk.cons c10 has10 EnvOk.nil) rfl Tryz.func50 rfl con50 19 (by kernel_rfl) (by decide) (by decide) rfl (by decide) rfl (by
  rintro ⟨⟨(l : List Int), (a : Int)⟩, (s : List ByteArray), _⟩ hpre hwf X hT hG hk hK
  obtain ⟨h1, h2⟩ : 0 ≤ a ∧ 0 < s.length := hpre
  (simp -implicitDefEqProofs (maxSteps := 4000000) only [go_sem, Bool.not_eq_true', Bool.not_eq_false', Bool.or_eq_true, Bool.or_eq_false_iff, Bool.and_eq_true, Bool.and_eq_false_iff, decide_eq_true_eq, decide_eq_false_iff_not, Classical.not_not, not_or, maxLen, con50, con10, hT, hG, hk, hK, Tryz.results50] at hwf ⊢); (try simp (disch := decide +kernel) only [drawn, true_and, and_true])
  have := goMod_bd (Src.raw (l, a)) s.length (by omega)
  (repeat' (with_reducible (first | refine And.intro ?_ ?_ | intro _))) <;> (try (first | with_reducible (first | done | assumption | omega | contradiction) | decide)))
def ports : List ByteArray := [⟨#[67, 80, 72]⟩, ⟨#[76, 72, 82]⟩, ⟨#[70, 82, 65]⟩, ⟨#[79, 83, 76]⟩, ⟨#[65, 82, 78]⟩]
def con21 : Con := { ps := [.p 57 ySR], rs := [.d false .str], pre := fun (x : Src × Unit) => 0 ≤ x.1.2, out := fun (x : Src × Unit) => (ports.getD (goMod x.1.raw 5).toNat ByteArray.empty, ()), nw := fun x => (Src.step x.1, x.2) }
theorem c21 : CtrOk Tryz.prog 21 con21.ctr :=
 con_sound (G := ⟨[(50, con50.ctr)], [], [], [], []⟩) tab_ok (EnvOk.cons c50 has50 EnvOk.nil) rfl Tryz.func21 rfl con21 5 (by kernel_rfl) (by decide) (by decide) rfl (by decide) rfl (by
  rintro ⟨⟨(l : List Int), (a : Int)⟩, _⟩ hpre hwf X hT hG hk hK
  have h1 : 0 ≤ a := hpre
  (simp -implicitDefEqProofs (maxSteps := 4000000) only [go_sem, Bool.not_eq_true', Bool.not_eq_false', Bool.or_eq_true, Bool.or_eq_false_iff, Bool.and_eq_true, Bool.and_eq_false_iff, decide_eq_true_eq, decide_eq_false_iff_not, Classical.not_not, not_or, maxLen, con21, con50, hT, hG, hk, hK, Tryz.results21] at hwf ⊢); (try simp (disch := decide +kernel) only [drawn, true_and, and_true])
  (repeat' (with_reducible (first | refine And.intro ?_ ?_ | intro _))) <;> (try (first | with_reducible (first | done | assumption | omega | contradiction) | decide))
  all_goals rfl)
def depV (k : Int) (s : Src) : Dep :=
 (fltsV k, ports.getD (goMod s.raw 5).toNat ByteArray.empty, goMod s.step.raw 40, goMod s.step.raw 40 + 1 + goMod s.step.step.step.raw 20, goMod s.step.raw 40 + 1 + goMod s.step.step.step.raw 20 + goMod s.step.step.step.step.raw 10, goMod s.step.step.raw 100, ([0, 0, 0, 0, 1, 2] : List Int).getD (goMod s.step.step.step.step.step.raw 6).toNat 0)
def dep6 (s : Src) : Src := s.step.step.step.step.step.step
def schedL : Nat → Src → Int → List Dep × Src
 | 0, s, _ => ([], s)
 | n + 1, s, k => if k < 27 then (if k + goMod s.raw 3 ≥ 27 then ([], s.step) else (depV (k + goMod s.raw 3) s.step :: (schedL n (dep6 s.step) (k + goMod s.raw 3 + 1)).1, (schedL n (dep6 s.step) (k + goMod s.raw 3 + 1)).2)) else ([], s)
def schedV (s : Src) (most : Int) : List Dep × Src := schedL (goMod s.raw (most + 1)).toNat s.step 0
def con6 : Con := { ps := [.p 57 ySR, .d false (.int .i64)], rs := [.d false (.sl yDP)], pre := fun (x : Src × Int × Unit) => 0 ≤ x.1.2 ∧ 0 ≤ x.2.1 ∧ x.2.1 ≤ 1000, out := fun (x : Src × Int × Unit) => ((schedV x.1 x.2.1).1, ()), nw := fun x => ((schedV x.1 x.2.1).2, x.2) }
theorem c6 : CtrOk Tryz.prog 6 con6.ctr :=
 con_sound (G := ⟨[(10, con10.ctr), (20, con20.ctr), (21, con21.ctr)], [], [], [], []⟩) tab_ok (EnvOk.cons c10 has10 (EnvOk.cons c20 has20 (EnvOk.cons c21 has21 EnvOk.nil))) rfl Tryz.func6 rfl con6 269485043 (by kernel_rfl) (by decide) (by decide) rfl (by decide) rfl (by
  rintro ⟨⟨(sl : List Int), (sa : Int)⟩, (most : Int), _⟩ hpre hwf X hT hG hk hK
  obtain ⟨h1, h2, h3⟩ : 0 ≤ sa ∧ 0 ≤ most ∧ most ≤ 1000 := hpre
  (simp -implicitDefEqProofs (maxSteps := 4000000) only [go_sem, Bool.not_eq_true', Bool.not_eq_false', Bool.or_eq_true, Bool.or_eq_false_iff, Bool.and_eq_true, Bool.and_eq_false_iff, decide_eq_true_eq, decide_eq_false_iff_not, Classical.not_not, not_or, maxLen, con6, con10, con20, con21, hT, hG, hk, hK, Tryz.results6] at hwf ⊢); (try simp (disch := decide +kernel) only [drawn, true_and, and_true])
  have hn0 := goMod_bd (Src.raw (sl, sa)) (most + 1) (by omega)
  have hs := Src.step_pos (sl, sa) h1
  have hv : schedV (sl, sa) most = schedL (goMod (Src.raw (sl, sa)) (most + 1)).toNat (Src.step (sl, sa)) 0 := rfl
  generalize goMod (Src.raw (sl, sa)) (most + 1) = n0 at hn0 hv ⊢
  generalize Src.step (sl, sa) = s1 at hs hv ⊢
  (repeat' (with_reducible (first | refine And.intro ?_ ?_ | intro _))) <;> (try (first | with_reducible (first | done | assumption | omega | contradiction) | decide))
  refine evk_loop ⟨{ q : Src × Int × Nat × List Dep // 0 ≤ q.1.2 ∧ 0 ≤ q.2.1 ∧ q.2.1 ≤ 27 ∧ q.2.2.1 ≤ n0.toNat ∧ q.2.2.2.length ≤ q.2.2.1 ∧ schedL n0.toNat s1 0 = (q.2.2.2 ++ (schedL (n0.toNat - q.2.2.1) q.1 q.2.1).1, (schedL (n0.toNat - q.2.2.1) q.1 q.2.1).2) }, 1000,
   fun q => [(0, .one (.loc 0 0)), (5, .one (.int .i64 n0)), (6, .one (.row 64)), (7, .one (.int .i64 q.1.2.1)), (8, .one (.int .i64 q.1.2.2.1))],
   fun q => [(0, .cells 57 [.sl (.int .i64) q.1.1.1 false, .int .i64 q.1.1.2]), (64, .row 52 yDP q.1.2.2.2)], fun q => n0.toNat - q.1.2.2.1⟩
   ⟨(s1, 0, 0, []), hs, by simp, by simp, by simp, by simp, by simp⟩ ?_ ?_
  · simp only [go_sem]
    rfl
  · rintro ⟨⟨⟨ql, qa⟩, k, i, out⟩, (c1 : 0 ≤ qa), (c2 : 0 ≤ k), (c3 : k ≤ 27), (c4 : i ≤ n0.toNat), (c5 : out.length ≤ i), (c6 : schedL n0.toNat s1 0 = (out ++ (schedL (n0.toNat - i) (ql, qa) k).1, (schedL (n0.toNat - i) (ql, qa) k).2))⟩
    (simp -implicitDefEqProofs (maxSteps := 4000000) only [go_sem, Bool.not_eq_true', Bool.not_eq_false', Bool.or_eq_true, Bool.or_eq_false_iff, Bool.and_eq_true, Bool.and_eq_false_iff, decide_eq_true_eq, decide_eq_false_iff_not, Classical.not_not, not_or, maxLen, con6, con10, con20, con21, hT, hG, hk, hK, Tryz.results6]); (try simp (disch := decide +kernel) only [drawn, true_and, and_true])
    have b3 := goMod_bd (Src.raw (ql, qa)) 3 (by omega)
    have p1 := Src.step_pos (ql, qa) c1
    have p2 := Src.step_pos _ p1
    have p3 := Src.step_pos _ p2
    have p4 := Src.step_pos _ p3
    have p5 := Src.step_pos _ p4
    have p6 := Src.step_pos _ p5
    have p7 := Src.step_pos _ p6
    refine ⟨fun hc => ?_, fun hc => ?_⟩
    · have hm : n0.toNat - i = (n0.toNat - (i + 1)) + 1 := by omega
      rw [hm, schedL, if_pos hc.2] at c6
      have q40 := goMod_bd (Src.raw (Src.step (Src.step (ql, qa)))) 40 (by omega)
      have q100 := goMod_bd (Src.raw (Src.step (Src.step (Src.step (ql, qa))))) 100 (by omega)
      have q20 := goMod_bd (Src.raw (Src.step (Src.step (Src.step (Src.step (ql, qa)))))) 20 (by omega)
      have q10 := goMod_bd (Src.raw (Src.step (Src.step (Src.step (Src.step (Src.step (ql, qa))))))) 10 (by omega)
      have q6 := goMod_bd (Src.raw (Src.step (Src.step (Src.step (Src.step (Src.step (Src.step (ql, qa)))))))) 6 (by omega)
      have e := @depV.eq_1 (k + goMod (Src.raw (ql, qa)) 3) (Src.step (ql, qa))
      have e7 : dep6 (Src.step (ql, qa)) = Src.step (Src.step (Src.step (Src.step (Src.step (Src.step (Src.step (ql, qa))))))) := rfl
      (repeat' (with_reducible (first | refine And.intro ?_ ?_ | intro _))) <;> (try (first | with_reducible (first | done | assumption | omega | contradiction) | decide))
      · rename_i h
        rw [if_pos h] at c6
        rw [hv, c6]
      · rename_i h
        rw [if_pos h] at c6
        rw [hv, c6]
      · rename_i h
        rw [if_pos h] at c6
        rw [hv, c6]; simp
      · have h : ¬ k + goMod (Src.raw (ql, qa)) 3 ≥ 27 := by assumption
        rw [if_neg h] at c6
        rw [e7] at c6
        refine fin_lp ⟨(Src.step (Src.step (Src.step (Src.step (Src.step (Src.step (Src.step (ql, qa))))))), k + goMod (Src.raw (ql, qa)) 3 + 1, i + 1, out ++ [depV (k + goMod (Src.raw (ql, qa)) 3) (Src.step (ql, qa))]), p7, by dsimp only; omega, by dsimp only; omega, by dsimp only; omega, by rw [List.length_append]; simp only [List.length_singleton]; omega, by dsimp only; rw [c6]; simp⟩ (by simp only [go_sem]; first | rfl | ((repeat' apply And.intro) <;> first | rfl | assumption | omega)) (by dsimp only; omega)
    · have hx : schedL (n0.toNat - i) (ql, qa) k = ([], (ql, qa)) := by
       cases hq : n0.toNat - i with
       | zero => rfl
       | succ m => rw [schedL, if_neg (by omega)]
      rw [hx] at c6
      rw [hv, c6]
      exact ⟨rfl, rfl, by simp⟩)
def day1 (i : Nat) (t : Int) : Dep := (fltsV i, ⟨#[67, 80, 72]⟩, t, t + 10, t + 12, 0, 0)
end Go.Proofs.YtdeihcabmpcaoaaGreat

/- The contracts of the functions that the statements about the makeup reach: the stable sort of at most 19. -/
set_option linter.unusedSimpArgs false
set_option linter.unusedVariables false
set_option maxRecDepth 100000
set_option maxHeartbeats 4000000
namespace Go.Proofs.YtdeihcabmpcaoaaGreat
open Go.Ev

/-- Insertion behind all that are not greater. -/
def insV (x : Dep) : List Dep → List Dep
 | [] => [x]
 | y :: l => if x.opens < y.opens then x :: y :: l else y :: insV x l
def isort (l : List Dep) : List Dep := l.foldl (fun acc x => insV x acc) []
theorem insV_perm (x : Dep) : ∀ l : List Dep, (insV x l).Perm (x :: l)
 | [] => List.Perm.refl _
 | y :: l => by
   unfold insV
   split
   · exact List.Perm.refl _
   · exact ((insV_perm x l).cons y).trans (List.Perm.swap x y l)
theorem foldl_perm : ∀ (l acc : List Dep), (l.foldl (fun acc x => insV x acc) acc).Perm (acc ++ l)
 | [], acc => by simp
 | x :: l, acc => by
   refine (foldl_perm l _).trans ?_
   refine ((insV_perm x acc).append_right l).trans ?_
   exact List.perm_middle.symm
theorem isort_perm (l : List Dep) : (isort l).Perm l := by
 have := foldl_perm l []
 rwa [List.nil_append] at this
theorem isort_len (l : List Dep) : (isort l).length = l.length := (isort_perm l).length_eq
theorem isort_snoc (l : List Dep) (x : Dep) : isort (l ++ [x]) = insV x (isort l) := by simp [isort]
theorem isort_sorted (l : List Dep) : (isort l).Pairwise (fun a b => a.opens ≤ b.opens) := by
 have key : ∀ (l acc : List Dep), acc.Pairwise (fun a b => a.opens ≤ b.opens) → (l.foldl (fun acc x => insV x acc) acc).Pairwise (fun a b => a.opens ≤ b.opens) := by
  intro l
  induction l with
  | nil => intro acc h; exact h
  | cons x l ih =>
    intro acc h
    refine ih _ ?_
    clear ih
    induction acc with
    | nil => simp [insV]
    | cons y acc ih =>
      obtain ⟨h1, h2⟩ := List.pairwise_cons.1 h
      have ih2 := ih h2
      show List.Pairwise _ (if x.opens < y.opens then x :: y :: acc else y :: insV x acc)
      split
      · rename_i hlt
        refine List.pairwise_cons.2 ⟨fun z hz => ?_, h⟩
        rcases List.mem_cons.1 hz with rfl | hz
        · omega
        · have := h1 z hz; omega
      · rename_i hlt
        refine List.pairwise_cons.2 ⟨fun z hz => ?_, ih2⟩
        rcases List.mem_cons.1 ((insV_perm _ _).mem_iff.1 hz) with rfl | hz
        · omega
        · exact h1 z hz
 exact key l [] List.Pairwise.nil
theorem mid_at {α : Type} (z : α) (P R : List α) (x : α) (j : Nat) (h : j ≤ P.length) : (P.take j ++ x :: (P.drop j ++ R)).getD (j : Int).toNat z = x := by
 have e : (P.take j).length = j := by rw [List.length_take]; omega
 simp [List.getElem?_append, e]
theorem mid_before {α : Type} (z : α) (P R : List α) (x : α) (j : Nat) (h : 0 < j ∧ j ≤ P.length) : (P.take j ++ x :: (P.drop j ++ R)).getD ((j : Int) - 1).toNat z = P[j - 1] := by
 have e : (P.take j).length = j := by rw [List.length_take]; omega
 have e2 : ((j : Int) - 1).toNat = j - 1 := by omega
 rw [e2]
 simp [List.getElem?_append, e, show j - 1 < j by omega, show j - 1 < P.length by omega]
theorem set_two {α : Type} (A : List α) (p x : α) (B : List α) : ((A ++ p :: x :: B).set (A.length + 1) p).set A.length x = A ++ x :: p :: B := by
 induction A with
 | nil => rfl
 | cons a A ih =>
   show a :: (((A ++ p :: x :: B).set (A.length + 1) p).set A.length x) = a :: (A ++ x :: p :: B)
   rw [ih]
theorem mid_swap {α : Type} (P R : List α) (x : α) (j : Nat) (h : 0 < j ∧ j ≤ P.length) : ((P.take j ++ x :: (P.drop j ++ R)).set (j : Int).toNat P[j - 1]).set ((j : Int) - 1).toNat x = P.take (j - 1) ++ x :: (P.drop (j - 1) ++ R) := by
 obtain ⟨h1, h2⟩ := h
 obtain ⟨k, rfl⟩ : ∃ k, j = k + 1 := ⟨j - 1, by omega⟩
 have hk : k < P.length := by omega
 have e2 : (((k + 1 : Nat) : Int) - 1).toNat = k := by omega
 have e3 : ((k + 1 : Nat) : Int).toNat = k + 1 := by omega
 rw [e2, e3]
 have e : (P.take k).length = k := by rw [List.length_take]; omega
 have ed : P.drop k = P[k] :: P.drop (k + 1) := List.drop_eq_getElem_cons hk
 have et : P.take (k + 1) = P.take k ++ [P[k]] := List.take_succ_eq_append_getElem hk
 show ((P.take (k + 1) ++ x :: (P.drop (k + 1) ++ R)).set (k + 1) P[k]).set k x = P.take k ++ x :: (P.drop k ++ R)
 rw [ed, et, List.append_assoc]
 have := set_two (P.take k) P[k] x (P.drop (k + 1) ++ R)
 rw [e] at this
 exact this
theorem insV_mid (x : Dep) : ∀ (P : List Dep) (j : Nat), j ≤ P.length → P.Pairwise (fun a b => a.opens ≤ b.opens) → (∀ y ∈ P.drop j, x.opens < y.opens) → (0 < j → ∀ h : j - 1 < P.length, ¬ x.opens < (P[j - 1]).opens) → insV x P = P.take j ++ x :: P.drop j
 | [], j, _, _, _, _ => by simp [insV]
 | y :: P, 0, _, _, h, _ => by
   unfold insV
   rw [if_pos (h y (by simp))]
   rfl
 | y :: P, j + 1, hjl, hs, h, hj => by
   obtain ⟨h1, h2⟩ := List.pairwise_cons.1 hs
   have hy : ¬ x.opens < y.opens := by
    have hl : j < (y :: P).length := hjl
    have := hj (by omega) hl
    cases j with
    | zero => exact this
    | succ j =>
      have hjP : j < P.length := by simpa using hl
      have h3 : ¬ x.opens < (P[j]).opens := this
      have hm := h1 P[j] (List.getElem_mem hjP)
      omega
   unfold insV
   rw [if_neg hy, insV_mid x P j (by simpa using hjl) h2 h (fun hj0 hl => by
    obtain ⟨k, rfl⟩ : ∃ k, j = k + 1 := ⟨j - 1, by omega⟩
    exact hj (by omega) hjl)]
   rfl
def inTime (d : Dep) : Prop := 0 ≤ d.opens ∧ d.opens ≤ 1048576
def con27 : Con := { ps := [.d true yDP, .d true yDP], rs := [.d false (.int .i64)], pre := fun (x : Dep × Dep × Unit) => inTime x.1 ∧ inTime x.2.1, out := fun (x : Dep × Dep × Unit) => (x.1.opens - x.2.1.opens, ()), nw := id }
theorem c27 : CtrOk Tryz.prog 27 con27.ctr :=
 con_sound (G := ⟨[], [], [], [], []⟩) tab_ok EnvOk.nil rfl Tryz.func27 rfl con27 31 (by kernel_rfl) (by decide) (by decide) rfl (by decide) rfl (by
  rintro ⟨(a : Dep), (b : Dep), _⟩ hpre hwf X hT hG hk hK
  obtain ⟨⟨h1, h2⟩, h3, h4⟩ : inTime a ∧ inTime b := hpre
  obtain ⟨a0, a1, (a2 : Int), (a3 : Int), (a4 : Int), (a5 : Int), (a6 : Int)⟩ := a
  obtain ⟨b0, b1, (b2 : Int), (b3 : Int), (b4 : Int), (b5 : Int), (b6 : Int)⟩ := b
  simp only [Dep.opens] at h1 h2 h3 h4
  (simp -implicitDefEqProofs (maxSteps := 4000000) only [go_sem, Bool.not_eq_true', Bool.not_eq_false', Bool.or_eq_true, Bool.or_eq_false_iff, Bool.and_eq_true, Bool.and_eq_false_iff, decide_eq_true_eq, decide_eq_false_iff_not, Classical.not_not, not_or, maxLen, con27, hT, hG, hk, hK, Tryz.results27] at hwf ⊢); (try simp (disch := decide +kernel) only [drawn, true_and, and_true])
  (repeat' (with_reducible (first | refine And.intro ?_ ?_ | intro _))) <;> (try (first | with_reducible (first | done | assumption | omega | contradiction) | decide))
  rfl)
def con73 : Con := { ps := [.o 52 yDP, .d false (.int .i64), .d false (.int .i64), .cl 27 []], rs := [], pre := fun (x : List Dep × Int × Int × Unit × Unit) => x.2.1 = 0 ∧ x.2.2.1 = x.1.length ∧ x.1.length ≤ 1000 ∧ ∀ d ∈ x.1, inTime d, out := fun x => (), nw := fun x => (isort x.1, x.2) }
theorem c73 : CtrOk Tryz.prog 73 con73.ctr :=
 con_sound (G := ⟨[(27, con27.ctr)], [], [], [], []⟩) tab_ok (EnvOk.cons c27 has27 EnvOk.nil) rfl Tryz.func73 rfl con73 17179886351 (by kernel_rfl) (by decide) (by decide) rfl (by decide) rfl (by
  rintro ⟨(l : List Dep), (a : Int), (b : Int), _⟩ hpre hwf X hT hG hk hK
  obtain ⟨rfl, rfl, h3, h4⟩ : a = 0 ∧ b = l.length ∧ l.length ≤ 1000 ∧ ∀ k ∈ l, inTime k := hpre
  (simp -implicitDefEqProofs (maxSteps := 4000000) only [go_sem, Bool.not_eq_true', Bool.not_eq_false', Bool.or_eq_true, Bool.or_eq_false_iff, Bool.and_eq_true, Bool.and_eq_false_iff, decide_eq_true_eq, decide_eq_false_iff_not, Classical.not_not, not_or, maxLen, con73, con27, hT, hG, hk, hK, Tryz.results73] at hwf ⊢); (try simp (disch := decide +kernel) only [drawn, true_and, and_true])
  (repeat' (with_reducible (first | refine And.intro ?_ ?_ | intro _))) <;> (try (first | with_reducible (first | done | assumption | omega | contradiction) | decide))
  refine evk_loop ⟨{ i : Nat // 1 ≤ i }, 1000,
   fun q => [(0, .one (.row 0)), (1, .one (.int .i64 0)), (2, .one (.int .i64 l.length)), (3, .one (.fn 27 [])), (8, .one (.int .i64 q.1))],
   fun q => [(0, .row 52 yDP (isort (l.take q.1) ++ l.drop q.1))], fun q => l.length + 1 - q.1⟩ ⟨1, Nat.le_refl 1⟩ ?_ ?_
  · simp only [go_sem]
    refine ⟨?_, rfl⟩
    cases l with
    | nil => rfl
    | cons x l => rfl
  · rintro ⟨i, (hi : 1 ≤ i)⟩
    (simp -implicitDefEqProofs (maxSteps := 4000000) only [go_sem, Bool.not_eq_true', Bool.not_eq_false', Bool.or_eq_true, Bool.or_eq_false_iff, Bool.and_eq_true, Bool.and_eq_false_iff, decide_eq_true_eq, decide_eq_false_iff_not, Classical.not_not, not_or, maxLen, con73, con27, hT, hG, hk, hK, Tryz.results73]); (try simp (disch := decide +kernel) only [drawn, true_and, and_true])
    refine ⟨fun hlt => ?_, fun hge => ?_⟩
    · have hi' : i < l.length := by omega
      have hP := isort_len (l.take i)
      have hPm := isort_perm (l.take i)
      have hPs := isort_sorted (l.take i)
      have hsn : isort (l.take (i + 1)) = insV l[i] (isort (l.take i)) := by rw [List.take_succ_eq_append_getElem hi', isort_snoc]
      generalize hPe : isort (l.take i) = P at hP hPm hPs hsn ⊢
      have hPl : P.length = i := by rw [hP, List.length_take]; omega
      refine evk_loop ⟨{ j : Nat // j ≤ i ∧ ∀ y ∈ P.drop j, l[i].opens < Dep.opens y }, 2000,
       fun q => [(0, .one (.row 0)), (1, .one (.int .i64 0)), (2, .one (.int .i64 l.length)), (3, .one (.fn 27 [])), (8, .one (.int .i64 i)), (9, .one (.int .i64 q.1))],
       fun q => [(0, .row 52 yDP (P.take q.1 ++ l[i] :: (P.drop q.1 ++ l.drop (i + 1))))], fun q => q.1⟩ ⟨i, Nat.le_refl i, by intro y hy; rw [List.drop_of_length_le (by omega)] at hy; cases hy⟩ ?_ ?_
      · simp only [go_sem]
        rw [List.take_of_length_le (by omega), List.drop_of_length_le (by omega : P.length ≤ i), List.nil_append, ← List.drop_eq_getElem_cons hi']
      · rintro ⟨j, (hj' : j ≤ i), (hgt : ∀ y ∈ P.drop j, l[i].opens < Dep.opens y)⟩
        (simp -implicitDefEqProofs (maxSteps := 4000000) only [go_sem, Bool.not_eq_true', Bool.not_eq_false', Bool.or_eq_true, Bool.or_eq_false_iff, Bool.and_eq_true, Bool.and_eq_false_iff, decide_eq_true_eq, decide_eq_false_iff_not, Classical.not_not, not_or, maxLen, con73, con27, hT, hG, hk, hK, Tryz.results73]); (try simp (disch := decide +kernel) only [drawn, true_and, and_true])
        have hML : (P.take j ++ l[i] :: (P.drop j ++ l.drop (i + 1))).length = l.length := by simp; omega
        have hswap := fun h => mid_swap P (l.drop (i + 1)) l[i] j h
        have hg1 := fun z => mid_at z P (l.drop (i + 1)) l[i] j (by omega)
        have hg2 := fun z h => mid_before z P (l.drop (i + 1)) l[i] j h
        have hins := insV_mid l[i] P j (by omega) hPs hgt
        have hx4 := h4 _ (List.getElem_mem hi')
        generalize hM : P.take j ++ l[i] :: (P.drop j ++ l.drop (i + 1)) = M at hML hswap hg1 hg2 ⊢
        simp only [List.length_set, hg1]
        by_cases hj0 : 0 < j
        · have hg2' := fun z => hg2 z ⟨hj0, by omega⟩
          have hsw := hswap ⟨hj0, by omega⟩
          have hp4 : inTime (P[j - 1]'(by omega)) := h4 _ (List.mem_of_mem_take (hPm.mem_iff.1 (List.getElem_mem _)))
          simp only [hg2', hsw]
          have hdr : P.drop (j - 1) = P[j - 1]'(by omega) :: P.drop j := by
           have := List.drop_eq_getElem_cons (show j - 1 < P.length by omega)
           rwa [show j - 1 + 1 = j by omega] at this
          generalize hpe : P[j - 1]'(by omega) = p at hp4 hdr ⊢
          have hd1 := hx4.1
          have hd2 := hx4.2
          have hd3 := hp4.1
          have hd4 := hp4.2
          (repeat' (with_reducible (first | refine And.intro ?_ ?_ | intro _))) <;> (try (first | with_reducible (first | done | assumption | omega | contradiction) | decide))
          · have hlt2 : l[i].opens < p.opens := by omega
            refine fin_lp ⟨j - 1, by omega, ?_⟩ ?_ ?_
            · intro y hy
              rw [hdr] at hy
              rcases List.mem_cons.1 hy with rfl | hy
              · exact hlt2
              · exact hgt y hy
            · simp only [go_sem]
              omega
            · dsimp only; omega
          · have hins2 := hins (fun _ h => by rw [hpe]; omega)
            refine fin_lp ⟨i + 1, by omega⟩ ?_ ?_
            · simp only [go_sem]
              refine ⟨?_, by omega⟩
              rw [hsn, hins2, ← hM]
              simp
            · dsimp only; omega
        · obtain rfl : j = 0 := by omega
          have hz : ¬ (((0 : Nat) : Int) > 0) := by omega
          have hins2 := hins (fun h => absurd h (by omega))
          (repeat' (with_reducible (first | refine And.intro ?_ ?_ | intro _))) <;> (try (first | with_reducible (first | done | assumption | omega | contradiction) | decide))
          refine fin_lp ⟨i + 1, by omega⟩ ?_ ?_
          · simp only [go_sem]
            refine ⟨?_, by omega⟩
            rw [hsn, hins2, ← hM]
            simp
          · dsimp only; omega
    · rw [List.take_of_length_le (by omega), List.drop_of_length_le (by omega), List.append_nil])
/-- A function that is not called. -/
structure NoC where
 ctr : Ctr
def con74 : NoC := ⟨fun _ _ _ => ⟨False, .one .undef, [], True⟩⟩
theorem c74 : CtrOk Tryz.prog 74 con74.ctr := by
 intro D gv hS cx hD σ N m w fr avs vs _ _ _ h
 exact h.elim
def con56 : Con := { ps := [.o 52 yDP, .d false (.int .i64), .cl 27 []], rs := [], pre := fun (x : List Dep × Int × Unit × Unit) => x.2.1 = x.1.length ∧ x.1.length ≤ 19 ∧ ∀ k ∈ x.1, inTime k, out := fun x => (), nw := fun x => (isort x.1, x.2) }
theorem c56 : CtrOk Tryz.prog 56 con56.ctr :=
 con_sound (G := ⟨[(73, con73.ctr), (74, con74.ctr)], [], [], [], []⟩) tab_ok (EnvOk.cons c73 has73 (EnvOk.cons c74 has74 EnvOk.nil)) rfl Tryz.func56 rfl con56 18014433942971335 (by kernel_rfl) (by decide) (by decide) rfl (by decide) rfl (by
  rintro ⟨(l : List Dep), (n : Int), _⟩ hpre hwf X hT hG hk hK
  obtain ⟨rfl, h3, h4⟩ : n = l.length ∧ l.length ≤ 19 ∧ ∀ k ∈ l, inTime k := hpre
  (simp -implicitDefEqProofs (maxSteps := 4000000) only [go_sem, Bool.not_eq_true', Bool.not_eq_false', Bool.or_eq_true, Bool.or_eq_false_iff, Bool.and_eq_true, Bool.and_eq_false_iff, decide_eq_true_eq, decide_eq_false_iff_not, Classical.not_not, not_or, maxLen, con56, con73, con74, hT, hG, hk, hK, Tryz.results56] at hwf ⊢); (try simp (disch := decide +kernel) only [drawn, true_and, and_true])
  refine evk_loop ⟨Unit, 1000,
   fun q => [(0, .one (.row 0)), (1, .one (.int .i64 l.length)), (2, .one (.fn 27 [])), (6, .one (.int .i64 20)), (7, .one (.int .i64 0)), (8, .one (.int .i64 20))],
   fun q => [(0, .row 52 yDP l)], fun q => 0⟩ () ?_ ?_
  · simp only [go_sem]
  · rintro ⟨⟩
    (simp -implicitDefEqProofs (maxSteps := 4000000) only [go_sem, Bool.not_eq_true', Bool.not_eq_false', Bool.or_eq_true, Bool.or_eq_false_iff, Bool.and_eq_true, Bool.and_eq_false_iff, decide_eq_true_eq, decide_eq_false_iff_not, Classical.not_not, not_or, maxLen, con56, con73, con74, hT, hG, hk, hK, Tryz.results56]); (try simp (disch := decide +kernel) only [drawn, true_and, and_true])
    refine ⟨fun h => absurd h (by omega), fun _ => ⟨⟨by omega, h4⟩, ?_⟩⟩
    refine evk_loop ⟨Unit, 2000,
     fun q => [(0, .one (.row 0)), (1, .one (.int .i64 l.length)), (2, .one (.fn 27 [])), (6, .one (.int .i64 20)), (7, .one (.int .i64 0)), (8, .one (.int .i64 20))],
     fun q => [(0, .row 52 yDP (isort l))], fun q => 0⟩ () ?_ ?_
    · simp only [go_sem]
    · rintro ⟨⟩
      (simp -implicitDefEqProofs (maxSteps := 4000000) only [go_sem, Bool.not_eq_true', Bool.not_eq_false', Bool.or_eq_true, Bool.or_eq_false_iff, Bool.and_eq_true, Bool.and_eq_false_iff, decide_eq_true_eq, decide_eq_false_iff_not, Classical.not_not, not_or, maxLen, con56, con73, con74, hT, hG, hk, hK, Tryz.results56]); (try simp (disch := decide +kernel) only [drawn, true_and, and_true])
      exact fun h => absurd h (by omega))
def con26 : Con := { ps := [.o 52 yDP, .cl 27 []], rs := [], pre := fun (x : List Dep × Unit × Unit) => x.1.length ≤ 19 ∧ ∀ k ∈ x.1, inTime k, out := fun x => (), nw := fun x => (isort x.1, x.2) }
theorem c26 : CtrOk Tryz.prog 26 con26.ctr :=
 con_sound (G := ⟨[(56, con56.ctr)], [], [], [], []⟩) tab_ok (EnvOk.cons c56 has56 EnvOk.nil) rfl Tryz.func26 rfl con26 3 (by kernel_rfl) (by decide) (by decide) rfl (by decide) rfl (by
  rintro ⟨(l : List Dep), _⟩ hpre hwf X hT hG hk hK
  obtain ⟨h3, h4⟩ : l.length ≤ 19 ∧ ∀ k ∈ l, inTime k := hpre
  (simp -implicitDefEqProofs (maxSteps := 4000000) only [go_sem, Bool.not_eq_true', Bool.not_eq_false', Bool.or_eq_true, Bool.or_eq_false_iff, Bool.and_eq_true, Bool.and_eq_false_iff, decide_eq_true_eq, decide_eq_false_iff_not, Classical.not_not, not_or, maxLen, con26, con56, hT, hG, hk, hK, Tryz.results26] at hwf ⊢); (try simp (disch := decide +kernel) only [drawn, true_and, and_true])
  (repeat' (with_reducible (first | refine And.intro ?_ ?_ | intro _))) <;> (try (first | with_reducible (first | done | assumption | omega | contradiction) | decide))
  all_goals exact h4 _ (by assumption))
end Go.Proofs.YtdeihcabmpcaoaaGreat
