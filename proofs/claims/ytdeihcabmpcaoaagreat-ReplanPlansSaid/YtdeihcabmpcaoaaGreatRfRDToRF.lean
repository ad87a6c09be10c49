/- The contracts of the functions that the statements about the makeup reach: lists. -/
import Derived.Test.YtdeihcabmpcaoaaGreatRfRAToRC
set_option linter.unusedSimpArgs false
set_option linter.unusedVariables false
set_option maxRecDepth 100000
set_option maxHeartbeats 4000000
namespace Go.Proofs.YtdeihcabmpcaoaaGreat
open Go.Ev

theorem flt_eq {a b : Flt} (h : a.1 = b.1 ∧ a.2.1 = b.2.1 ∧ a.2.2.1 = b.2.2.1 ∧ a.2.2.2 = b.2.2.2) : a = b := by
 obtain ⟨a1, a2, a3, a4⟩ := a
 obtain ⟨b1, b2, b3, b4⟩ := b
 obtain ⟨h1, h2, h3, h4⟩ := h
 dsimp only at h1 h2 h3 h4
 rw [h1, h2, h3, h4]
theorem flt_ne {a b : Flt} (h : ¬ a.1 = b.1 ∨ ¬ a.2.1 = b.2.1 ∨ ¬ a.2.2.1 = b.2.2.1 ∨ ¬ a.2.2.2 = b.2.2.2) : ¬ a = b := by
 rintro rfl
 simp at h
def idxF {α : Type} (p : α → Bool) : List α → Int → Int
 | [], _ => -1
 | x :: l, i => if p x = true then i else idxF p l (i + 1)
def findV (l : List Dep) (f : Flt) : Int := idxF (fun d => decide (d.1 = f)) l 0
def con69 : Con := { ps := [.d false (.sl yDP), .d true yFL], rs := [.d false (.int .i64)], pre := fun _ => True, out := fun x => (findV x.1 x.2.1, ()), nw := id }
theorem c69 : CtrOk Tryz.prog 69 con69.ctr :=
 con_sound (G := ⟨[], [], [], [], []⟩) tab_ok EnvOk.nil rfl Tryz.func69 rfl con69 133115 (by kernel_rfl) (by decide) (by decide) rfl (by decide) rfl (by
  rintro ⟨(l : List Dep), (f : Flt), _⟩ hpre hwf X hT hG hk hK
  (simp -implicitDefEqProofs (maxSteps := 4000000) only [go_sem, Bool.not_eq_true', Bool.not_eq_false', Bool.or_eq_true, Bool.or_eq_false_iff, Bool.and_eq_true, Bool.and_eq_false_iff, decide_eq_true_eq, decide_eq_false_iff_not, Classical.not_not, not_or, maxLen, con69, hT, hG, hk, hK, Tryz.results69] at hwf ⊢); (try simp (disch := decide +kernel) only [drawn, true_and, and_true])
  intro hl
  refine evk_loop ⟨{ i : Nat // i ≤ l.length ∧ findV l f = idxF (fun d => decide (d.1 = f)) (l.drop i) i }, 1000, fun i => [(3, .one (.loc 64 0)), (7, .one (.sl yDP l false)), (8, .one (.int .i64 l.length)), (9, .one (.int .i64 i.1))], fun _ => [(64, .cells 44 (expl yFL f))], fun i => l.length - i.1⟩ ⟨0, by simp, by simp [findV]⟩ ?_ ?_
  · simp only [go_sem]
    rfl
  · rintro ⟨i, (hi : i ≤ l.length), (he : findV l f = idxF (fun d => decide (d.1 = f)) (l.drop i) i)⟩
    (simp -implicitDefEqProofs (maxSteps := 4000000) only [go_sem, Bool.not_eq_true', Bool.not_eq_false', Bool.or_eq_true, Bool.or_eq_false_iff, Bool.and_eq_true, Bool.and_eq_false_iff, decide_eq_true_eq, decide_eq_false_iff_not, Classical.not_not, not_or, maxLen, con69, hT, hG, hk, hK, Tryz.results69]); (try simp (disch := decide +kernel) only [drawn, true_and, and_true])
    refine ⟨fun hlt => ?_, fun hge => ?_⟩
    · have hi' : i < l.length := by omega
      have ek : ∀ z, l.getD (i : Int).toNat z = l[i] := fun z => by simp [hi']
      simp only [ek]
      have hst : findV l f = if decide (l[i].1 = f) = true then (i : Int) else idxF (fun d => decide (d.1 = f)) (l.drop (i + 1)) ((i + 1 : Nat) : Int) := by
       rw [he, List.drop_eq_getElem_cons hi', idxF]; rfl
      (repeat' (with_reducible (first | refine And.intro ?_ ?_ | intro _))) <;> (try (first | with_reducible (first | done | assumption | omega | contradiction) | decide))
      · rename_i h
        rw [hst, if_pos (decide_eq_true (flt_eq h))]
      · rename_i h
        refine fin_lp ⟨i + 1, by omega, by rw [hst, if_neg (by rw [decide_eq_true_eq]; exact flt_ne h)]⟩ (by simp only [go_sem]; first | rfl | ((repeat' apply And.intro) <;> first | rfl | assumption | omega)) (by dsimp only; omega)
    · rw [he, List.drop_of_length_le (by omega)]
      rfl)
def con61 : Con := { ps := [.d false (.sl (.int .i64)), .d false (.int .i64)], rs := [.d false (.int .i64)], pre := fun _ => True, out := fun x => (idxF (fun y : Int => decide (x.2.1 = y)) x.1 0, ()), nw := id }
theorem c61 : CtrOk Tryz.prog 61 con61.ctr :=
 con_sound (G := ⟨[], [], [], [], []⟩) tab_ok EnvOk.nil rfl Tryz.func61 rfl con61 66483 (by kernel_rfl) (by decide) (by decide) rfl (by decide) rfl (by
  rintro ⟨(l : List Int), (f : Int), _⟩ hpre hwf X hT hG hk hK
  (simp -implicitDefEqProofs (maxSteps := 4000000) only [go_sem, Bool.not_eq_true', Bool.not_eq_false', Bool.or_eq_true, Bool.or_eq_false_iff, Bool.and_eq_true, Bool.and_eq_false_iff, decide_eq_true_eq, decide_eq_false_iff_not, Classical.not_not, not_or, maxLen, con61, hT, hG, hk, hK, Tryz.results61] at hwf ⊢); (try simp (disch := decide +kernel) only [drawn, true_and, and_true])
  intro hl
  refine evk_loop ⟨{ i : Nat // i ≤ l.length ∧ idxF (fun y : Int => decide (f = y)) l 0 = idxF (fun y : Int => decide (f = y)) (l.drop i) i }, 1000, fun i => [(0, .one (.sl (.int .i64) l false)), (1, .one (.int .i64 f)), (7, .one (.int .i64 l.length)), (8, .one (.int .i64 i.1))], fun _ => [], fun i => l.length - i.1⟩ ⟨0, by simp, by simp⟩ ?_ ?_
  · simp only [go_sem]
    rfl
  · rintro ⟨i, (hi : i ≤ l.length), (he : idxF (fun y : Int => decide (f = y)) l 0 = idxF (fun y : Int => decide (f = y)) (l.drop i) i)⟩
    (simp -implicitDefEqProofs (maxSteps := 4000000) only [go_sem, Bool.not_eq_true', Bool.not_eq_false', Bool.or_eq_true, Bool.or_eq_false_iff, Bool.and_eq_true, Bool.and_eq_false_iff, decide_eq_true_eq, decide_eq_false_iff_not, Classical.not_not, not_or, maxLen, con61, hT, hG, hk, hK, Tryz.results61]); (try simp (disch := decide +kernel) only [drawn, true_and, and_true])
    refine ⟨fun hlt => ?_, fun hge => ?_⟩
    · have hi' : i < l.length := by omega
      have ek : ∀ z, l.getD (i : Int).toNat z = l[i] := fun z => by simp [hi']
      simp only [ek]
      have hst : idxF (fun y : Int => decide (f = y)) l 0 = if decide (f = l[i]) = true then (i : Int) else idxF (fun y : Int => decide (f = y)) (l.drop (i + 1)) ((i + 1 : Nat) : Int) := by
       rw [he, List.drop_eq_getElem_cons hi', idxF]; rfl
      (repeat' (with_reducible (first | refine And.intro ?_ ?_ | intro _))) <;> (try (first | with_reducible (first | done | assumption | omega | contradiction) | decide))
      · rename_i h
        rw [hst, if_pos (by simp [h])]
      · rename_i h
        refine fin_lp ⟨i + 1, by omega, by rw [hst, if_neg (by simp [h])]⟩ (by simp only [go_sem]; first | rfl | ((repeat' apply And.intro) <;> first | rfl | assumption | omega)) (by dsimp only; omega)
    · rw [he, List.drop_of_length_le (by omega)]
      rfl)
def con72 : Con := { ps := [.d false (.sl yDP), .cl 55 []], rs := [.d false (.int .i64)], pre := fun _ => True, out := fun x => (idxF (fun d : Dep => !decide (d.state = 0)) x.1 0, ()), nw := id }
theorem c72 : CtrOk Tryz.prog 72 con72.ctr :=
 con_sound (G := ⟨[(55, con55.ctr)], [], [], [], []⟩) tab_ok (EnvOk.cons c55 has55 EnvOk.nil) rfl Tryz.func72 rfl con72 66483 (by kernel_rfl) (by decide) (by decide) rfl (by decide) rfl (by
  rintro ⟨(l : List Dep), _⟩ hpre hwf X hT hG hk hK
  (simp -implicitDefEqProofs (maxSteps := 4000000) only [go_sem, Bool.not_eq_true', Bool.not_eq_false', Bool.or_eq_true, Bool.or_eq_false_iff, Bool.and_eq_true, Bool.and_eq_false_iff, decide_eq_true_eq, decide_eq_false_iff_not, Classical.not_not, not_or, maxLen, con72, con55, hT, hG, hk, hK, Tryz.results72] at hwf ⊢); (try simp (disch := decide +kernel) only [drawn, true_and, and_true])
  intro hl
  refine evk_loop ⟨{ i : Nat // i ≤ l.length ∧ idxF (fun d : Dep => !decide (d.state = 0)) l 0 = idxF (fun d : Dep => !decide (d.state = 0)) (l.drop i) i }, 1000, fun i => [(0, .one (.sl yDP l false)), (1, .one (.fn 55 [])), (7, .one (.int .i64 l.length)), (8, .one (.int .i64 i.1))], fun _ => [], fun i => l.length - i.1⟩ ⟨0, by simp, by simp⟩ ?_ ?_
  · simp only [go_sem]
    rfl
  · rintro ⟨i, (hi : i ≤ l.length), (he : idxF (fun d : Dep => !decide (d.state = 0)) l 0 = idxF (fun d : Dep => !decide (d.state = 0)) (l.drop i) i)⟩
    (simp -implicitDefEqProofs (maxSteps := 4000000) only [go_sem, Bool.not_eq_true', Bool.not_eq_false', Bool.or_eq_true, Bool.or_eq_false_iff, Bool.and_eq_true, Bool.and_eq_false_iff, decide_eq_true_eq, decide_eq_false_iff_not, Classical.not_not, not_or, maxLen, con72, con55, hT, hG, hk, hK, Tryz.results72]); (try simp (disch := decide +kernel) only [drawn, true_and, and_true])
    refine ⟨fun hlt => ?_, fun hge => ?_⟩
    · have hi' : i < l.length := by omega
      have ek : ∀ z, l.getD (i : Int).toNat z = l[i] := fun z => by simp [hi']
      simp only [ek]
      have hst : idxF (fun d : Dep => !decide (d.state = 0)) l 0 = if (!decide (l[i].state = 0)) = true then (i : Int) else idxF (fun d : Dep => !decide (d.state = 0)) (l.drop (i + 1)) ((i + 1 : Nat) : Int) := by
       rw [he, List.drop_eq_getElem_cons hi', idxF]; rfl
      (repeat' (with_reducible (first | refine And.intro ?_ ?_ | intro _))) <;> (try (first | with_reducible (first | done | assumption | omega | contradiction) | decide))
      · rename_i h
        rw [hst, if_pos (by simp [h])]
      · rename_i h
        refine fin_lp ⟨i + 1, by omega, by rw [hst, if_neg (by simp [h])]⟩ (by simp only [go_sem]; first | rfl | ((repeat' apply And.intro) <;> first | rfl | assumption | omega)) (by dsimp only; omega)
    · rw [he, List.drop_of_length_le (by omega)]
      rfl)
def con48 : Con := { ps := [.d false (.sl (.int .i64)), .d false (.int .i64)], rs := [.d false .bool], pre := fun _ => True, out := fun x => (decide (idxF (fun y : Int => decide (x.2.1 = y)) x.1 0 ≥ 0), ()), nw := id }
theorem c48 : CtrOk Tryz.prog 48 con48.ctr :=
 con_sound (G := ⟨[(61, con61.ctr)], [], [], [], []⟩) tab_ok (EnvOk.cons c61 has61 EnvOk.nil) rfl Tryz.func48 rfl con48 19 (by kernel_rfl) (by decide) (by decide) rfl (by decide) rfl (by
  rintro ⟨(l : List Int), (f : Int), _⟩ hpre hwf X hT hG hk hK
  (simp -implicitDefEqProofs (maxSteps := 4000000) only [go_sem, Bool.not_eq_true', Bool.not_eq_false', Bool.or_eq_true, Bool.or_eq_false_iff, Bool.and_eq_true, Bool.and_eq_false_iff, decide_eq_true_eq, decide_eq_false_iff_not, Classical.not_not, not_or, maxLen, con48, con61, hT, hG, hk, hK, Tryz.results48] at hwf ⊢); (try simp (disch := decide +kernel) only [drawn, true_and, and_true]))
def chV : List All → Flt → Int × Bool
 | [], _ => (0, false)
 | a :: l, f => if a.1 = f then (a.2, true) else chV l f
def con58 : Con := { ps := [.d false (.sl (.pair yFL (.int .i64))), .d true yFL], rs := [.d false (.int .i64), .d false .bool], pre := fun _ => True, out := fun x => ((chV x.1 x.2.1).1, (chV x.1 x.2.1).2, ()), nw := id }
theorem c58 : CtrOk Tryz.prog 58 con58.ctr :=
 con_sound (G := ⟨[], [], [], [], []⟩) tab_ok EnvOk.nil rfl Tryz.func58 rfl con58 135099 (by kernel_rfl) (by decide) (by decide) rfl (by decide) rfl (by
  rintro ⟨(l : List All), (f : Flt), _⟩ hpre hwf X hT hG hk hK
  (simp -implicitDefEqProofs (maxSteps := 4000000) only [go_sem, Bool.not_eq_true', Bool.not_eq_false', Bool.or_eq_true, Bool.or_eq_false_iff, Bool.and_eq_true, Bool.and_eq_false_iff, decide_eq_true_eq, decide_eq_false_iff_not, Classical.not_not, not_or, maxLen, con58, hT, hG, hk, hK, Tryz.results58] at hwf ⊢); (try simp (disch := decide +kernel) only [drawn, true_and, and_true])
  intro hl
  refine evk_loop ⟨{ i : Nat // i ≤ l.length ∧ chV l f = chV (l.drop i) f }, 1000, fun i => [(3, .one (.loc 64 0)), (8, .one (.sl (.pair yFL (.int .i64)) l false)), (9, .one (.int .i64 l.length)), (10, .one (.int .i64 i.1))], fun _ => [(64, .cells 44 (expl yFL f))], fun i => l.length - i.1⟩ ⟨0, by simp, by simp⟩ ?_ ?_
  · simp only [go_sem]
    rfl
  · rintro ⟨i, (hi : i ≤ l.length), (he : chV l f = chV (l.drop i) f)⟩
    (simp -implicitDefEqProofs (maxSteps := 4000000) only [go_sem, Bool.not_eq_true', Bool.not_eq_false', Bool.or_eq_true, Bool.or_eq_false_iff, Bool.and_eq_true, Bool.and_eq_false_iff, decide_eq_true_eq, decide_eq_false_iff_not, Classical.not_not, not_or, maxLen, con58, hT, hG, hk, hK, Tryz.results58]); (try simp (disch := decide +kernel) only [drawn, true_and, and_true])
    refine ⟨fun hlt => ?_, fun hge => ?_⟩
    · have hi' : i < l.length := by omega
      have ek : ∀ z, l.getD (i : Int).toNat z = l[i] := fun z => by simp [hi']
      simp only [ek]
      have hst : chV l f = if l[i].1 = f then (l[i].2, true) else chV (l.drop (i + 1)) f := by
       rw [he, List.drop_eq_getElem_cons hi', chV]
      (repeat' (with_reducible (first | refine And.intro ?_ ?_ | intro _))) <;> (try (first | with_reducible (first | done | assumption | omega | contradiction) | decide))
      any_goals (have hf : l[i].1 = f := flt_eq (by assumption)
                 rw [hst, if_pos hf])
      have hf : ¬ l[i].1 = f := flt_ne (by assumption)
      refine fin_lp ⟨i + 1, by omega, by rw [hst, if_neg hf]⟩ (by simp only [go_sem]; first | rfl | ((repeat' apply And.intro) <;> first | rfl | assumption | omega)) (by dsimp only; omega)
    · rw [he, List.drop_of_length_le (by omega)]
      exact ⟨rfl, rfl⟩)
def ascF : List Flt → Bool
 | a :: b :: l => decide (fltC a b < 0) && ascF (b :: l)
 | _ => true
def con46 : Con := { ps := [.d false (.sl yFL)], rs := [.d false .bool], pre := fun _ => True, out := fun x => (ascF x.1, ()), nw := id }
theorem c46 : CtrOk Tryz.prog 46 con46.ctr :=
 con_sound (G := ⟨[(41, con41.ctr)], [], [], [], []⟩) tab_ok (EnvOk.cons c41 has41 EnvOk.nil) rfl Tryz.func46 rfl con46 1048717 (by kernel_rfl) (by decide) (by decide) rfl (by decide) rfl (by
  rintro ⟨(l : List Flt), _⟩ hpre hwf X hT hG hk hK
  (simp -implicitDefEqProofs (maxSteps := 4000000) only [go_sem, Bool.not_eq_true', Bool.not_eq_false', Bool.or_eq_true, Bool.or_eq_false_iff, Bool.and_eq_true, Bool.and_eq_false_iff, decide_eq_true_eq, decide_eq_false_iff_not, Classical.not_not, not_or, maxLen, con46, con41, hT, hG, hk, hK, Tryz.results46] at hwf ⊢); (try simp (disch := decide +kernel) only [drawn, true_and, and_true])
  refine evk_loop ⟨{ i : Nat // (i ≤ l.length ∨ i = 0) ∧ ascF l = ascF (l.drop i) }, 1000, fun i => [(0, .one (.sl yFL l false)), (3, .one (.int .i64 (i.1 + 1)))], fun _ => [], fun i => l.length - i.1⟩ ⟨0, by simp, by simp⟩ ?_ ?_
  · simp only [go_sem]
    rfl
  · rintro ⟨i, (hi : i ≤ l.length ∨ i = 0), (he : ascF l = ascF (l.drop i))⟩
    (simp -implicitDefEqProofs (maxSteps := 4000000) only [go_sem, Bool.not_eq_true', Bool.not_eq_false', Bool.or_eq_true, Bool.or_eq_false_iff, Bool.and_eq_true, Bool.and_eq_false_iff, decide_eq_true_eq, decide_eq_false_iff_not, Classical.not_not, not_or, maxLen, con46, con41, hT, hG, hk, hK, Tryz.results46]); (try simp (disch := decide +kernel) only [drawn, true_and, and_true])
    intro hl
    refine ⟨fun hlt => ?_, fun hge => ?_⟩
    · have hi' : i < l.length := by omega
      have hi2 : i + 1 < l.length := by omega
      have ek : ∀ z, l.getD ((i : Int) + 1).toNat z = l[i + 1] := fun z => by
       rw [show ((i : Int) + 1).toNat = i + 1 by omega]; simp [hi2]
      have ek2 : ∀ z, l.getD ((i : Int) + 1 - 1).toNat z = l[i] := fun z => by
       rw [show ((i : Int) + 1 - 1).toNat = i by omega]; simp [hi']
      simp only [ek, ek2]
      have hst : ascF l = (decide (fltC l[i] l[i + 1] < 0) && ascF (l.drop (i + 1))) := by
       rw [he, List.drop_eq_getElem_cons hi', List.drop_eq_getElem_cons hi2, ascF]
      (repeat' (with_reducible (first | refine And.intro ?_ ?_ | intro _))) <;> (try (first | with_reducible (first | done | assumption | omega | contradiction) | decide))
      · rename_i h
        rw [hst, decide_eq_false (by omega)]
        rfl
      · rename_i h
        refine fin_lp ⟨i + 1, by omega, by rw [hst, decide_eq_true (by omega)]; rfl⟩ (by simp only [go_sem]; first | rfl | ((repeat' apply And.intro) <;> first | rfl | assumption | omega)) (by dsimp only; omega)
    · rw [he]
      rcases h : l.drop i with _ | ⟨a, _ | ⟨b, q⟩⟩
      · rfl
      · rfl
      · have := congrArg List.length h
        rw [List.length_drop] at this
        simp only [List.length_cons] at this
        omega)
def con47 : Con := { ps := [.d false (.sl yFL), .d false (.sl yFL)], rs := [.d false .bool], pre := fun _ => True, out := fun (x : List Flt × List Flt × Unit) => (decide (x.1 = x.2.1), ()), nw := id }
theorem c47 : CtrOk Tryz.prog 47 con47.ctr :=
 con_sound (G := ⟨[], [], [], [], []⟩) tab_ok EnvOk.nil rfl Tryz.func47 rfl con47 16806963 (by kernel_rfl) (by decide) (by decide) rfl (by decide) rfl (by
  rintro ⟨(a : List Flt), (b : List Flt), _⟩ hpre hwf X hT hG hk hK
  (simp -implicitDefEqProofs (maxSteps := 4000000) only [go_sem, Bool.not_eq_true', Bool.not_eq_false', Bool.or_eq_true, Bool.or_eq_false_iff, Bool.and_eq_true, Bool.and_eq_false_iff, decide_eq_true_eq, decide_eq_false_iff_not, Classical.not_not, not_or, maxLen, con47, hT, hG, hk, hK, Tryz.results47] at hwf ⊢); (try simp (disch := decide +kernel) only [drawn, true_and, and_true])
  (repeat' (with_reducible (first | refine And.intro ?_ ?_ | intro _))) <;> (try (first | with_reducible (first | done | assumption | omega | contradiction) | decide))
  · rename_i h
    exact (decide_eq_false fun e => h (by rw [e])).symm
  · rename_i hq _
    refine evk_loop ⟨{ i : Nat // i ≤ a.length ∧ a.take i = b.take i }, 1000, fun i => [(0, .one (.sl yFL a false)), (1, .one (.sl yFL b false)), (12, .one (.int .i64 a.length)), (13, .one (.int .i64 i.1))], fun _ => [], fun i => a.length - i.1⟩ ⟨0, by simp, by simp⟩ ?_ ?_
    · simp only [go_sem]
      rfl
    · rintro ⟨i, (hi : i ≤ a.length), (he : a.take i = b.take i)⟩
      (simp -implicitDefEqProofs (maxSteps := 4000000) only [go_sem, Bool.not_eq_true', Bool.not_eq_false', Bool.or_eq_true, Bool.or_eq_false_iff, Bool.and_eq_true, Bool.and_eq_false_iff, decide_eq_true_eq, decide_eq_false_iff_not, Classical.not_not, not_or, maxLen, con47, hT, hG, hk, hK, Tryz.results47]); (try simp (disch := decide +kernel) only [drawn, true_and, and_true])
      refine ⟨fun hlt => ?_, fun hge => ?_⟩
      · have hi' : i < a.length := by omega
        have hi2 : i < b.length := by omega
        have ek : ∀ z, a.getD (i : Int).toNat z = a[i] := fun z => by simp [hi']
        have ek2 : ∀ z, b.getD (i : Int).toNat z = b[i] := fun z => by simp [hi2]
        simp only [ek, ek2]
        (repeat' (with_reducible (first | refine And.intro ?_ ?_ | intro _))) <;> (try (first | with_reducible (first | done | assumption | omega | contradiction) | decide))
        · rename_i h
          exact (decide_eq_false fun e => flt_ne h (by simp only [e])).symm
        · rename_i h
          refine fin_lp ⟨i + 1, by omega, by rw [List.take_succ_eq_append_getElem hi', List.take_succ_eq_append_getElem hi2, he, flt_eq h]⟩ (by simp only [go_sem]; first | rfl | ((repeat' apply And.intro) <;> first | rfl | assumption | omega)) (by dsimp only; omega)
      · rw [List.take_of_length_le (by omega), List.take_of_length_le (by omega)] at he
        exact (decide_eq_true he).symm)
end Go.Proofs.YtdeihcabmpcaoaaGreat

/- The contracts of the functions that the statements about the makeup reach: rows. -/
set_option linter.unusedSimpArgs false
set_option linter.unusedVariables false
set_option maxRecDepth 100000
set_option maxHeartbeats 4000000
namespace Go.Proofs.YtdeihcabmpcaoaaGreat
open Go.Ev

/-- The flights that are open at a time. -/
def openV (l : List Dep) (t : Int) : List Flt := (l.filter (fun d => isOpenV d t)).map (·.1)
theorem openV_snoc (l : List Dep) (t : Int) (d : Dep) : openV (l ++ [d]) t = if isOpenV d t = true then openV l t ++ [d.1] else openV l t := by
 unfold openV
 rw [List.filter_append]
 by_cases h : isOpenV d t = true
 · rw [if_pos h]; simp [h]
 · rw [if_neg h]; simp [h]
theorem openV_len (l : List Dep) (t : Int) : (openV l t).length ≤ l.length := by
 unfold openV
 rw [List.length_map]
 exact List.length_filter_le _ _
def con24 : Con := { ps := [.d false (.sl yDP), .d false (.int .i64)], rs := [.o 44 yFL], pre := fun (x : List Dep × Int × Unit) => x.1.length ≤ 1048576, out := fun x => (openV x.1 x.2.1, ()), nw := id }
theorem c24 : CtrOk Tryz.prog 24 con24.ctr :=
 con_sound (G := ⟨[(53, con53.ctr)], [], [], [], []⟩) tab_ok (EnvOk.cons c53 has53 EnvOk.nil) rfl Tryz.func24 rfl con24 69555 (by kernel_rfl) (by decide) (by decide) rfl (by decide) rfl (by
  rintro ⟨(l : List Dep), (t : Int), _⟩ hpre hwf X hT hG hk hK
  have hl : l.length ≤ 1048576 := hpre
  (simp -implicitDefEqProofs (maxSteps := 4000000) only [go_sem, Bool.not_eq_true', Bool.not_eq_false', Bool.or_eq_true, Bool.or_eq_false_iff, Bool.and_eq_true, Bool.and_eq_false_iff, decide_eq_true_eq, decide_eq_false_iff_not, Classical.not_not, not_or, maxLen, con24, con53, hT, hG, hk, hK, Tryz.results24] at hwf ⊢); (try simp (disch := decide +kernel) only [drawn, true_and, and_true])
  refine fun _ => evk_loop ⟨{ i : Nat // i ≤ l.length }, 1000, fun i => [(1, .one (.int .i64 t)), (5, .one (.row 64)), (8, .one (.sl yDP l false)), (9, .one (.int .i64 l.length)), (10, .one (.int .i64 i.1))], fun i => [(64, .row 44 yFL (openV (l.take i.1) t))], fun i => l.length - i.1⟩ ⟨0, by simp⟩ ?_ ?_
  · simp only [go_sem]
    exact ⟨rfl, rfl⟩
  · rintro ⟨i, (hi : i ≤ l.length)⟩
    (simp -implicitDefEqProofs (maxSteps := 4000000) only [go_sem, Bool.not_eq_true', Bool.not_eq_false', Bool.or_eq_true, Bool.or_eq_false_iff, Bool.and_eq_true, Bool.and_eq_false_iff, decide_eq_true_eq, decide_eq_false_iff_not, Classical.not_not, not_or, maxLen, con24, con53, hT, hG, hk, hK, Tryz.results24]); (try simp (disch := decide +kernel) only [drawn, true_and, and_true])
    refine ⟨fun hlt => ?_, fun hge => ?_⟩
    · have hi' : i < l.length := by omega
      have ek : ∀ z, l.getD (i : Int).toNat z = l[i] := fun z => by simp [hi']
      simp only [ek]
      have hst : openV (l.take (i + 1)) t = if isOpenV l[i] t = true then openV (l.take i) t ++ [l[i].1] else openV (l.take i) t := by
       rw [List.take_succ_eq_append_getElem hi', openV_snoc]
      have hlen := openV_len (l.take i) t
      rw [List.length_take] at hlen
      (repeat' (with_reducible (first | refine And.intro ?_ ?_ | intro _))) <;> (try (first | with_reducible (first | done | assumption | omega | contradiction) | decide))
      · have h : isOpenV l[i] t = true := by assumption
        refine fin_lp ⟨i + 1, by omega⟩ ?_ ?_
        · simp only [go_sem]
          rw [hst, if_pos h]
          exact ⟨rfl, rfl⟩
        · dsimp only; omega
      · have h : isOpenV l[i] t = false := by assumption
        refine fin_lp ⟨i + 1, by omega⟩ ?_ ?_
        · simp only [go_sem]
          rw [hst, if_neg (by rw [h]; simp)]
          exact ⟨rfl, rfl⟩
        · dsimp only; omega
    · rw [List.take_of_length_le (by omega)])
def planV (l : List Dep) : List Dep := l.filter (fun d => decide (d.state = 0))
theorem planV_snoc (l : List Dep) (d : Dep) : planV (l ++ [d]) = if d.state = 0 then planV l ++ [d] else planV l := by
 unfold planV
 rw [List.filter_append]
 by_cases h : d.state = 0
 · rw [if_pos h]; simp [h]
 · rw [if_neg h]; simp [h]
theorem planV_len (l : List Dep) : (planV l).length ≤ l.length := List.length_filter_le _ _
theorem idxF_spec {α : Type} (p : α → Bool) : ∀ (l : List α) (k : Int), 0 ≤ k → (idxF p l k = -1 ∧ ∀ x ∈ l, p x = false) ∨ ∃ (i : Nat) (h : i < l.length), idxF p l k = k + i ∧ p l[i] = true ∧ ∀ x ∈ l.take i, p x = false
 | [], k, _ => .inl ⟨rfl, by simp⟩
 | x :: l, k, hk => by
   unfold idxF
   by_cases h : p x = true
   · rw [if_pos h]
     exact .inr ⟨0, by simp, by simp, by simpa using h, by simp⟩
   · rw [if_neg h]
     have hx : p x = false := by simpa using h
     rcases idxF_spec p l (k + 1) (by omega) with ⟨h1, h2⟩ | ⟨i, hi, h1, h2, h3⟩
     · exact .inl ⟨h1, fun y hy => by rcases List.mem_cons.1 hy with rfl | hy; exact hx; exact h2 y hy⟩
     · refine .inr ⟨i + 1, by simpa using hi, by rw [h1]; omega, by simpa using h2, fun y hy => ?_⟩
       rw [List.take_succ_cons] at hy
       rcases List.mem_cons.1 hy with rfl | hy
       · exact hx
       · exact h3 y hy
theorem planV_all {l : List Dep} (h : ∀ x ∈ l, (!decide (Dep.state x = 0)) = false) : planV l = l := by
 unfold planV
 rw [List.filter_eq_self]
 intro x hx
 have := h x hx
 simpa using this
theorem row_at {l R : List Dep} {r : Nat} (h : R.drop r = l.drop r) (h1 : r < R.length) (h2 : r < l.length) : R[r] = l[r] := by
 have e1 := List.drop_eq_getElem_cons h1
 have e2 := List.drop_eq_getElem_cons h2
 rw [h, e2] at e1
 exact (List.cons.inj e1).1.symm
def con54 : Con := { ps := [.oc 52 yDP, .cl 55 []], rs := [.o 52 yDP], pre := fun x => x.1.length ≤ 1048576, out := fun x => (planV x.1, ()), nw := id }
theorem c54 : CtrOk Tryz.prog 54 con54.ctr :=
 con_sound (G := ⟨[(72, con72.ctr), (55, con55.ctr)], [], [(13, 2), (38, 1), (41, 2)], [], []⟩) tab_ok (EnvOk.cons c72 has72 (EnvOk.cons c55 has55 EnvOk.nil)) rfl Tryz.func54 rfl con54 537399539 (by kernel_rfl) (by decide) (by decide) rfl (by decide) rfl (by
  rintro ⟨(l : List Dep), _⟩ hpre hwf X hT hG hk hK
  have hl : l.length ≤ 1048576 := hpre
  (simp -implicitDefEqProofs (maxSteps := 4000000) only [go_sem, Bool.not_eq_true', Bool.not_eq_false', Bool.or_eq_true, Bool.or_eq_false_iff, Bool.and_eq_true, Bool.and_eq_false_iff, decide_eq_true_eq, decide_eq_false_iff_not, Classical.not_not, not_or, maxLen, con54, con72, con55, hT, hG, hk, hK, Tryz.results54] at hwf ⊢); (try simp (disch := decide +kernel) only [drawn, true_and, and_true])
  have hs := idxF_spec (fun d : Dep => !decide (d.state = 0)) l 0 (Int.le_refl _)
  generalize idxF (fun d : Dep => !decide (d.state = 0)) l 0 = q at hs ⊢
  refine fun _ => ⟨fun h => ?_, fun h => ?_⟩
  · rcases hs with ⟨_, h2⟩ | ⟨i, hi, h1, _⟩
    · exact (planV_all h2).symm
    · omega
  · rcases hs with ⟨h1, _⟩ | ⟨i, hi, h1, h2, h3⟩
    · exact absurd h1 h
    · refine ⟨⟨by omega, by omega⟩, ?_⟩
      have hq : q = i := by omega
      subst hq
      have b1 : l.take i = planV (l.take (i + 1)) := by
       rw [List.take_succ_eq_append_getElem hi, planV_snoc, planV_all h3, if_neg (by simpa using h2)]
      refine evk_loop ⟨{ q : Nat × Nat × List Dep // q.1 ≤ q.2.1 ∧ q.2.1 ≤ l.length ∧ q.2.2.length = l.length ∧ q.2.2.take q.1 = planV (l.take q.2.1) ∧ q.2.2.drop q.2.1 = l.drop q.2.1 }, 1000, fun q => [(0, .one (.row 0)), (1, .one (.fn 55 [])), (5, .one (.int .i64 q.1.1)), (6, .one (.int .i64 q.1.2.1))], fun q => [(0, .row 52 yDP q.1.2.2)], fun q => l.length - q.1.2.1⟩ ⟨(i, i + 1, l), by simp, by simp; omega, rfl, b1, rfl⟩ ?_ ?_
      · simp only [go_sem]
        rfl
      · rintro ⟨⟨a, r, R⟩, (c1 : a ≤ r), (c2 : r ≤ l.length), (c3 : R.length = l.length), (c4 : R.take a = planV (l.take r)), (c5 : R.drop r = l.drop r)⟩
        (simp -implicitDefEqProofs (maxSteps := 4000000) only [go_sem, Bool.not_eq_true', Bool.not_eq_false', Bool.or_eq_true, Bool.or_eq_false_iff, Bool.and_eq_true, Bool.and_eq_false_iff, decide_eq_true_eq, decide_eq_false_iff_not, Classical.not_not, not_or, maxLen, con54, con72, con55, hT, hG, hk, hK, Tryz.results54]); (try simp (disch := decide +kernel) only [drawn, true_and, and_true])
        refine fun _ => ⟨fun hlt => ?_, fun hge => ?_⟩
        · have hr : r < R.length := by omega
          have hr2 : r < l.length := by omega
          have ek : ∀ z, R.getD (r : Int).toNat z = l[r] := fun z => by rw [← row_at c5 hr hr2]; simp [hr]
          simp only [ek]
          have hd : R.drop (r + 1) = l.drop (r + 1) := by rw [← List.drop_drop, c5, List.drop_drop]
          have hst : planV (l.take (r + 1)) = if l[r].state = 0 then planV (l.take r) ++ [l[r]] else planV (l.take r) := by
           rw [List.take_succ_eq_append_getElem hr2, planV_snoc]
          (repeat' (with_reducible (first | refine And.intro ?_ ?_ | intro _))) <;> (try (first | with_reducible (first | done | assumption | omega | contradiction) | decide))
          · have h0 : l[r].state = 0 := by assumption
            have har : a < R.length := by omega
            refine fin_lp ⟨(a + 1, r + 1, R.set a l[r]), by dsimp only; omega, by dsimp only; omega, by dsimp only; rw [List.length_set]; exact c3, ?_, ?_⟩ (by simp only [go_sem]; first | rfl | ((repeat' apply And.intro) <;> first | rfl | assumption | omega)) (by dsimp only; omega)
            · dsimp only
              rw [hst, if_pos h0, ← c4, List.take_succ_eq_append_getElem (by rw [List.length_set]; omega), List.take_set_of_le (Nat.le_refl _), List.getElem_set_self]
            · dsimp only
              rw [List.drop_set_of_lt (by omega), hd]
          · have h0 : ¬ l[r].state = 0 := by assumption
            refine fin_lp ⟨(a, r + 1, R), by dsimp only; omega, by dsimp only; omega, c3, by dsimp only; rw [hst, if_neg h0]; exact c4, hd⟩ (by simp only [go_sem]; first | rfl | ((repeat' apply And.intro) <;> first | rfl | assumption | omega)) (by dsimp only; omega)
        · refine ⟨by omega, ?_⟩
          have hr : r = l.length := by omega
          have e1 : (a : Int).toNat = a := by omega
          have e2 : ((R.length : Int) - (a : Int)).toNat = R.length - a := by omega
          have e3 : (a + (R.length - a) ≤ R.length) = True := by rw [eq_iff_iff, iff_true]; omega
          (simp -implicitDefEqProofs (maxSteps := 4000000) only [go_sem, Bool.not_eq_true', Bool.not_eq_false', Bool.or_eq_true, Bool.or_eq_false_iff, Bool.and_eq_true, Bool.and_eq_false_iff, decide_eq_true_eq, decide_eq_false_iff_not, Classical.not_not, not_or, maxLen, con54, con72, con55, hT, hG, hk, hK, Tryz.results54, e1, e2, e3]); (try simp (disch := decide +kernel) only [drawn, true_and, and_true])
          have e5 : (R.take a).length = a := by rw [List.length_take]; omega
          have e4 : List.take a (List.take a R ++ (List.replicate (R.length - a) ((ByteArray.empty, 0, ByteArray.empty, 0), ByteArray.empty, 0, 0, 0, 0, 0) ++ List.drop (a + (R.length - a)) R)) = planV l := by
           rw [List.take_append_of_le_length (by omega), List.take_of_length_le (by omega), c4, hr, List.take_of_length_le (Nat.le_refl _)]
          refine ⟨⟨by omega, ?_⟩, e4⟩
          rw [List.length_append, e5]
          omega)
end Go.Proofs.YtdeihcabmpcaoaaGreat

/- The contracts of the functions that the statements about the makeup reach: schedules out of numbers. -/
set_option linter.unusedSimpArgs false
set_option linter.unusedVariables false
set_option maxRecDepth 100000
set_option maxHeartbeats 4000000
namespace Go.Proofs.YtdeihcabmpcaoaaGreat
open Go.Ev

def con25 : Con := { ps := [.d false (.sl yDP)], rs := [.o 52 yDP], pre := fun (x : List Dep × Unit) => x.1.length ≤ 1048576, out := fun x => (planV x.1, ()), nw := id }
theorem c25 : CtrOk Tryz.prog 25 con25.ctr :=
 con_sound (G := ⟨[(54, con54.ctr)], [], [], [], []⟩) tab_ok (EnvOk.cons c54 has54 EnvOk.nil) rfl Tryz.func25 rfl con25 13 (by kernel_rfl) (by decide) (by decide) rfl (by decide) rfl (by
  rintro ⟨(l : List Dep), _⟩ hpre hwf X hT hG hk hK
  have hl : l.length ≤ 1048576 := hpre
  (simp -implicitDefEqProofs (maxSteps := 4000000) only [go_sem, Bool.not_eq_true', Bool.not_eq_false', Bool.or_eq_true, Bool.or_eq_false_iff, Bool.and_eq_true, Bool.and_eq_false_iff, decide_eq_true_eq, decide_eq_false_iff_not, Classical.not_not, not_or, maxLen, con25, con54, hT, hG, hk, hK, Tryz.results25] at hwf ⊢); (try simp (disch := decide +kernel) only [drawn, true_and, and_true])
  (repeat' (with_reducible (first | refine And.intro ?_ ?_ | intro _))) <;> (try (first | with_reducible (first | done | assumption | omega | contradiction) | decide)))
def ascI : List Int → Bool
 | a :: b :: l => decide (a < b) && ascI (b :: l)
 | _ => true
def argsV (l : List Dep) (cs : List Int) : Int :=
 if validateV l ≠ 0 then validateV l else if ((planV l).length : Int) > 16 ∨ (cs.length : Int) > 6 then 2 else if cs.all (fun c => decide (0 ≤ c)) = false then 1 else if ascI cs = false then 9 else 0
def con22 : Con := { ps := [.d false (.sl yDP), .d false (.sl (.int .i64))], rs := [.d false (.int .i64)], pre := fun (x : List Dep × List Int × Unit) => x.1.length ≤ 1048576, out := fun x => (argsV x.1 x.2.1, ()), nw := id }
theorem c22 : CtrOk Tryz.prog 22 con22.ctr :=
 con_sound (G := ⟨[(25, con25.ctr), (51, con51.ctr)], [], [], [], []⟩) tab_ok (EnvOk.cons c25 has25 (EnvOk.cons c51 has51 EnvOk.nil)) rfl Tryz.func22 rfl con22 140773051863475 (by kernel_rfl) (by decide) (by decide) rfl (by decide) rfl (by
  rintro ⟨(l : List Dep), (cs : List Int), _⟩ hpre hwf X hT hG hk hK
  have hl : l.length ≤ 1048576 := hpre
  (simp -implicitDefEqProofs (maxSteps := 4000000) only [go_sem, Bool.not_eq_true', Bool.not_eq_false', Bool.or_eq_true, Bool.or_eq_false_iff, Bool.and_eq_true, Bool.and_eq_false_iff, decide_eq_true_eq, decide_eq_false_iff_not, Classical.not_not, not_or, maxLen, con22, con25, con51, hT, hG, hk, hK, Tryz.results22] at hwf ⊢); (try simp (disch := decide +kernel) only [drawn, true_and, and_true])
  (repeat' (with_reducible (first | refine And.intro ?_ ?_ | intro _))) <;> (try (first | with_reducible (first | done | assumption | omega | contradiction) | decide))
  · rename_i h
    unfold argsV; rw [if_pos h]
  · have h0 : validateV l = 0 := by assumption
    have h1 : ((planV l).length : Int) > 16 ∨ (cs.length : Int) > 6 := by assumption
    unfold argsV; rw [if_neg (by omega), if_pos h1]
  · have h0 : validateV l = 0 := by assumption
    have h1 : ¬ ((planV l).length : Int) > 16 ∧ ¬ (cs.length : Int) > 6 := by assumption
    have e0 : argsV l cs = if cs.all (fun c => decide (0 ≤ c)) = false then 1 else if ascI cs = false then 9 else 0 := by
     unfold argsV; rw [if_neg (by omega), if_neg (by omega)]
    refine evk_loop ⟨{ i : Nat // i ≤ cs.length ∧ (cs.take i).all (fun c => decide (0 ≤ c)) = true }, 1000, fun i => [(1, .one (.sl (.int .i64) cs false)), (23, .one (.sl (.int .i64) cs false)), (24, .one (.int .i64 cs.length)), (25, .one (.int .i64 i.1))], fun _ => [], fun i => cs.length - i.1⟩ ⟨0, by simp, by simp⟩ ?_ ?_
    · simp only [go_sem]
      rfl
    · rintro ⟨i, (hi : i ≤ cs.length), (hx : (cs.take i).all (fun c => decide (0 ≤ c)) = true)⟩
      (simp -implicitDefEqProofs (maxSteps := 4000000) only [go_sem, Bool.not_eq_true', Bool.not_eq_false', Bool.or_eq_true, Bool.or_eq_false_iff, Bool.and_eq_true, Bool.and_eq_false_iff, decide_eq_true_eq, decide_eq_false_iff_not, Classical.not_not, not_or, maxLen, con22, con25, con51, hT, hG, hk, hK, Tryz.results22]); (try simp (disch := decide +kernel) only [drawn, true_and, and_true])
      refine ⟨fun hlt => ?_, fun hge => ?_⟩
      · have hi' : i < cs.length := by omega
        have ek : ∀ z, cs.getD (i : Int).toNat z = cs[i] := fun z => by simp [hi']
        simp only [ek]
        (repeat' (with_reducible (first | refine And.intro ?_ ?_ | intro _))) <;> (try (first | with_reducible (first | done | assumption | omega | contradiction) | decide))
        · rename_i h
          rw [e0, if_pos]
          rw [List.all_eq_false]
          exact ⟨cs[i], List.getElem_mem hi', by rw [decide_eq_true_eq]; omega⟩
        · rename_i h
          refine fin_lp ⟨i + 1, by omega, by rw [List.take_succ_eq_append_getElem hi', List.all_append, hx]; simp; omega⟩ (by simp only [go_sem]; first | rfl | ((repeat' apply And.intro) <;> first | rfl | assumption | omega)) (by dsimp only; omega)
      · rw [List.take_of_length_le (by omega)] at hx
        have e1 : argsV l cs = if ascI cs = false then 9 else 0 := by rw [e0, if_neg (by rw [hx]; simp)]
        refine evk_loop ⟨{ i : Nat // (i ≤ cs.length ∨ i = 0) ∧ ascI cs = ascI (cs.drop i) }, 2000, fun i => [(1, .one (.sl (.int .i64) cs false)), (8, .one (.int .i64 (i.1 + 1)))], fun _ => [], fun i => cs.length - i.1⟩ ⟨0, by simp, by simp⟩ ?_ ?_
        · simp only [go_sem]
          rfl
        · rintro ⟨i, (hi : i ≤ cs.length ∨ i = 0), (he : ascI cs = ascI (cs.drop i))⟩
          (simp -implicitDefEqProofs (maxSteps := 4000000) only [go_sem, Bool.not_eq_true', Bool.not_eq_false', Bool.or_eq_true, Bool.or_eq_false_iff, Bool.and_eq_true, Bool.and_eq_false_iff, decide_eq_true_eq, decide_eq_false_iff_not, Classical.not_not, not_or, maxLen, con22, con25, con51, hT, hG, hk, hK, Tryz.results22]); (try simp (disch := decide +kernel) only [drawn, true_and, and_true])
          refine fun _ => ⟨fun hlt => ?_, fun hge => ?_⟩
          · have hi' : i < cs.length := by omega
            have hi2 : i + 1 < cs.length := by omega
            have ek : ∀ z, cs.getD ((i : Int) + 1).toNat z = cs[i + 1] := fun z => by
             rw [show ((i : Int) + 1).toNat = i + 1 by omega]; simp [hi2]
            have ek2 : ∀ z, cs.getD ((i : Int) + 1 - 1).toNat z = cs[i] := fun z => by
             rw [show ((i : Int) + 1 - 1).toNat = i by omega]; simp [hi']
            simp only [ek, ek2]
            have hst : ascI cs = (decide (cs[i] < cs[i + 1]) && ascI (cs.drop (i + 1))) := by
             rw [he, List.drop_eq_getElem_cons hi', List.drop_eq_getElem_cons hi2, ascI]
            (repeat' (with_reducible (first | refine And.intro ?_ ?_ | intro _))) <;> (try (first | with_reducible (first | done | assumption | omega | contradiction) | decide))
            · rename_i h
              rw [e1, hst, decide_eq_false (by omega)]
              rfl
            · rename_i h
              refine fin_lp ⟨i + 1, by omega, by rw [hst, decide_eq_true (by omega)]; rfl⟩ (by simp only [go_sem]; first | rfl | ((repeat' apply And.intro) <;> first | rfl | assumption | omega)) (by dsimp only; omega)
          · have ha : ascI cs = true := by
             rw [he]
             rcases h : cs.drop i with _ | ⟨a, _ | ⟨b, q⟩⟩
             · rfl
             · rfl
             · have := congrArg List.length h
               rw [List.length_drop] at this
               simp only [List.length_cons] at this
               omega
            rw [e1, if_neg (by rw [ha]; simp)])
def strs3 : List ByteArray := [⟨#[66, 65]⟩, ⟨#[76, 72]⟩, ⟨#[83, 75]⟩]
def fltsV (n : Int) : Flt := (strs3.getD (goMod n 27 / 9).toNat ByteArray.empty, 1 + goMod n 27 / 3 % 3, ByteArray.empty, 1 + goMod n 27 % 3)
def con20 : Con := { ps := [.d false (.int .i64)], rs := [.d true yFL], pre := fun _ => True, out := fun x => (fltsV x.1, ()), nw := id }
theorem c20 : CtrOk Tryz.prog 20 con20.ctr :=
 con_sound (G := ⟨[(9, con9.ctr)], [], [], [], []⟩) tab_ok (EnvOk.cons c9 has9 EnvOk.nil) rfl Tryz.func20 rfl con20 5 (by kernel_rfl) (by decide) (by decide) rfl (by decide) rfl (by
  rintro ⟨(n : Int), _⟩ hpre hwf X hT hG hk hK
  (simp -implicitDefEqProofs (maxSteps := 4000000) only [go_sem, Bool.not_eq_true', Bool.not_eq_false', Bool.or_eq_true, Bool.or_eq_false_iff, Bool.and_eq_true, Bool.and_eq_false_iff, decide_eq_true_eq, decide_eq_false_iff_not, Classical.not_not, not_or, maxLen, con20, con9, hT, hG, hk, hK, Tryz.results20] at hwf ⊢); (try simp (disch := decide +kernel) only [drawn, true_and, and_true])
  have hb := goMod_bd n 27 (by omega)
  have e : fltsV n = (strs3.getD (goMod n 27 / 9).toNat ByteArray.empty, 1 + goMod n 27 / 3 % 3, ByteArray.empty, 1 + goMod n 27 % 3) := rfl
  rw [e]
  generalize goMod n 27 = k at hb ⊢
  have e1 : k.tdiv 9 = k / 9 := Int.tdiv_eq_ediv_of_nonneg hb.1
  have e2 : k.tdiv 3 = k / 3 := Int.tdiv_eq_ediv_of_nonneg hb.1
  have e3 : k.tmod 3 = k % 3 := Int.tmod_eq_emod_of_nonneg hb.1
  have e4 : (k / 3).tmod 3 = k / 3 % 3 := Int.tmod_eq_emod_of_nonneg (by omega)
  simp only [e1, e2, e3, e4]
  (repeat' (with_reducible (first | refine And.intro ?_ ?_ | intro _))) <;> (try (first | with_reducible (first | done | assumption | omega | contradiction) | decide))
  all_goals rfl)
def con50 : Con := { ps := [.p 57 ySR, .d false (.sl .str)], rs := [.d false .str], pre := fun (x : Src × List ByteArray × Unit) => 0 ≤ x.1.2 ∧ 0 < x.2.1.length, out := fun (x : Src × List ByteArray × Unit) => (x.2.1.getD (goMod x.1.raw x.2.1.length).toNat ByteArray.empty, ()), nw := fun x => (Src.step x.1, x.2) }
theorem c50 : CtrOk Tryz.prog 50 con50.ctr :=
 con_sound (G := ⟨[(10, con10.ctr)], [], [], [], []⟩) tab_ok (EnvOk.cons c10 has10 EnvOk.nil) rfl Tryz.func50 rfl con50 19 (by kernel_rfl) (by decide) (by decide) rfl (by decide) rfl (by
  rintro ⟨⟨(l : List Int), (a : Int)⟩, (s : List ByteArray), _⟩ hpre hwf X hT hG hk hK
  obtain ⟨h1, h2⟩ : 0 ≤ a ∧ 0 < s.length := hpre
  (simp -implicitDefEqProofs (maxSteps := 4000000) only [go_sem, Bool.not_eq_true', Bool.not_eq_false', Bool.or_eq_true, Bool.or_eq_false_iff, Bool.and_eq_true, Bool.and_eq_false_iff, decide_eq_true_eq, decide_eq_false_iff_not, Classical.not_not, not_or, maxLen, con50, con10, hT, hG, hk, hK, Tryz.results50] at hwf ⊢); (try simp (disch := decide +kernel) only [drawn, true_and, and_true])
  have := goMod_bd (Src.raw (l, a)) s.length (by omega)
  (repeat' (with_reducible (first | refine And.intro ?_ ?_ | intro _))) <;> (try (first | with_reducible (first | done | assumption | omega | contradiction) | decide)))
def ports : List ByteArray := [⟨#[67, 80, 72]⟩, ⟨#[76, 72, 82]⟩, ⟨#[70, 82, 65]⟩, ⟨#[79, 83, 76]⟩, ⟨#[65, 82, 78]⟩]
def con21 : Con := { ps := [.p 57 ySR], rs := [.d false .str], pre := fun (x : Src × Unit) => 0 ≤ x.1.2, out := fun (x : Src × Unit) => (ports.getD (goMod x.1.raw 5).toNat ByteArray.empty, ()), nw := fun x => (Src.step x.1, x.2) }
theorem c21 : CtrOk Tryz.prog 21 con21.ctr :=
 con_sound (G := ⟨[(50, con50.ctr)], [], [], [], []⟩) tab_ok (EnvOk.cons c50 has50 EnvOk.nil) rfl Tryz.func21 rfl con21 5 (by kernel_rfl) (by decide) (by decide) rfl (by decide) rfl (by
  rintro ⟨⟨(l : List Int), (a : Int)⟩, _⟩ hpre hwf X hT hG hk hK
  have h1 : 0 ≤ a := hpre
  (simp -implicitDefEqProofs (maxSteps := 4000000) only [go_sem, Bool.not_eq_true', Bool.not_eq_false', Bool.or_eq_true, Bool.or_eq_false_iff, Bool.and_eq_true, Bool.and_eq_false_iff, decide_eq_true_eq, decide_eq_false_iff_not, Classical.not_not, not_or, maxLen, con21, con50, hT, hG, hk, hK, Tryz.results21] at hwf ⊢); (try simp (disch := decide +kernel) only [drawn, true_and, and_true])
  (repeat' (with_reducible (first | refine And.intro ?_ ?_ | intro _))) <;> (try (first | with_reducible (first | done | assumption | omega | contradiction) | decide))
  all_goals rfl)
def depV (k : Int) (s : Src) : Dep :=
 (fltsV k, ports.getD (goMod s.raw 5).toNat ByteArray.empty, goMod s.step.raw 40, goMod s.step.raw 40 + 1 + goMod s.step.step.step.raw 20, goMod s.step.raw 40 + 1 + goMod s.step.step.step.raw 20 + goMod s.step.step.step.step.raw 10, goMod s.step.step.raw 100, ([0, 0, 0, 0, 1, 2] : List Int).getD (goMod s.step.step.step.step.step.raw 6).toNat 0)
def dep6 (s : Src) : Src := s.step.step.step.step.step.step
def schedL : Nat → Src → Int → List Dep × Src
 | 0, s, _ => ([], s)
 | n + 1, s, k => if k < 27 then (if k + goMod s.raw 3 ≥ 27 then ([], s.step) else (depV (k + goMod s.raw 3) s.step :: (schedL n (dep6 s.step) (k + goMod s.raw 3 + 1)).1, (schedL n (dep6 s.step) (k + goMod s.raw 3 + 1)).2)) else ([], s)
def schedV (s : Src) (most : Int) : List Dep × Src := schedL (goMod s.raw (most + 1)).toNat s.step 0
def con6 : Con := { ps := [.p 57 ySR, .d false (.int .i64)], rs := [.d false (.sl yDP)], pre := fun (x : Src × Int × Unit) => 0 ≤ x.1.2 ∧ 0 ≤ x.2.1 ∧ x.2.1 ≤ 1000, out := fun (x : Src × Int × Unit) => ((schedV x.1 x.2.1).1, ()), nw := fun x => ((schedV x.1 x.2.1).2, x.2) }
theorem c6 : CtrOk Tryz.prog 6 con6.ctr :=
 con_sound (G := ⟨[(10, con10.ctr), (20, con20.ctr), (21, con21.ctr)], [], [], [], []⟩) tab_ok (EnvOk.cons c10 has10 (EnvOk.cons c20 has20 (EnvOk.cons c21 has21 EnvOk.nil))) rfl Tryz.func6 rfl con6 269485043 (by kernel_rfl) (by decide) (by decide) rfl (by decide) rfl (by
  rintro ⟨⟨(sl : List Int), (sa : Int)⟩, (most : Int), _⟩ hpre hwf X hT hG hk hK
  obtain ⟨h1, h2, h3⟩ : 0 ≤ sa ∧ 0 ≤ most ∧ most ≤ 1000 := hpre
  (simp -implicitDefEqProofs (maxSteps := 4000000) only [go_sem, Bool.not_eq_true', Bool.not_eq_false', Bool.or_eq_true, Bool.or_eq_false_iff, Bool.and_eq_true, Bool.and_eq_false_iff, decide_eq_true_eq, decide_eq_false_iff_not, Classical.not_not, not_or, maxLen, con6, con10, con20, con21, hT, hG, hk, hK, Tryz.results6] at hwf ⊢); (try simp (disch := decide +kernel) only [drawn, true_and, and_true])
  have hn0 := goMod_bd (Src.raw (sl, sa)) (most + 1) (by omega)
  have hs := Src.step_pos (sl, sa) h1
  have hv : schedV (sl, sa) most = schedL (goMod (Src.raw (sl, sa)) (most + 1)).toNat (Src.step (sl, sa)) 0 := rfl
  generalize goMod (Src.raw (sl, sa)) (most + 1) = n0 at hn0 hv ⊢
  generalize Src.step (sl, sa) = s1 at hs hv ⊢
  (repeat' (with_reducible (first | refine And.intro ?_ ?_ | intro _))) <;> (try (first | with_reducible (first | done | assumption | omega | contradiction) | decide))
  refine evk_loop ⟨{ q : Src × Int × Nat × List Dep // 0 ≤ q.1.2 ∧ 0 ≤ q.2.1 ∧ q.2.1 ≤ 27 ∧ q.2.2.1 ≤ n0.toNat ∧ q.2.2.2.length ≤ q.2.2.1 ∧ schedL n0.toNat s1 0 = (q.2.2.2 ++ (schedL (n0.toNat - q.2.2.1) q.1 q.2.1).1, (schedL (n0.toNat - q.2.2.1) q.1 q.2.1).2) }, 1000,
   fun q => [(0, .one (.loc 0 0)), (5, .one (.int .i64 n0)), (6, .one (.row 64)), (7, .one (.int .i64 q.1.2.1)), (8, .one (.int .i64 q.1.2.2.1))],
   fun q => [(0, .cells 57 [.sl (.int .i64) q.1.1.1 false, .int .i64 q.1.1.2]), (64, .row 52 yDP q.1.2.2.2)], fun q => n0.toNat - q.1.2.2.1⟩
   ⟨(s1, 0, 0, []), hs, by simp, by simp, by simp, by simp, by simp⟩ ?_ ?_
  · simp only [go_sem]
    rfl
  · rintro ⟨⟨⟨ql, qa⟩, k, i, out⟩, (c1 : 0 ≤ qa), (c2 : 0 ≤ k), (c3 : k ≤ 27), (c4 : i ≤ n0.toNat), (c5 : out.length ≤ i), (c6 : schedL n0.toNat s1 0 = (out ++ (schedL (n0.toNat - i) (ql, qa) k).1, (schedL (n0.toNat - i) (ql, qa) k).2))⟩
    (simp -implicitDefEqProofs (maxSteps := 4000000) only [go_sem, Bool.not_eq_true', Bool.not_eq_false', Bool.or_eq_true, Bool.or_eq_false_iff, Bool.and_eq_true, Bool.and_eq_false_iff, decide_eq_true_eq, decide_eq_false_iff_not, Classical.not_not, not_or, maxLen, con6, con10, con20, con21, hT, hG, hk, hK, Tryz.results6]); (try simp (disch := decide +kernel) only [drawn, true_and, and_true])
    have b3 := goMod_bd (Src.raw (ql, qa)) 3 (by omega)
    have p1 := Src.step_pos (ql, qa) c1
    have p2 := Src.step_pos _ p1
    have p3 := Src.step_pos _ p2
    have p4 := Src.step_pos _ p3
    have p5 := Src.step_pos _ p4
    have p6 := Src.step_pos _ p5
    have p7 := Src.step_pos _ p6
    refine ⟨fun hc => ?_, fun hc => ?_⟩
    · have hm : n0.toNat - i = (n0.toNat - (i + 1)) + 1 := by omega
      rw [hm, schedL, if_pos hc.2] at c6
      have q40 := goMod_bd (Src.raw (Src.step (Src.step (ql, qa)))) 40 (by omega)
      have q100 := goMod_bd (Src.raw (Src.step (Src.step (Src.step (ql, qa))))) 100 (by omega)
      have q20 := goMod_bd (Src.raw (Src.step (Src.step (Src.step (Src.step (ql, qa)))))) 20 (by omega)
      have q10 := goMod_bd (Src.raw (Src.step (Src.step (Src.step (Src.step (Src.step (ql, qa))))))) 10 (by omega)
      have q6 := goMod_bd (Src.raw (Src.step (Src.step (Src.step (Src.step (Src.step (Src.step (ql, qa)))))))) 6 (by omega)
      have e := @depV.eq_1 (k + goMod (Src.raw (ql, qa)) 3) (Src.step (ql, qa))
      have e7 : dep6 (Src.step (ql, qa)) = Src.step (Src.step (Src.step (Src.step (Src.step (Src.step (Src.step (ql, qa))))))) := rfl
      (repeat' (with_reducible (first | refine And.intro ?_ ?_ | intro _))) <;> (try (first | with_reducible (first | done | assumption | omega | contradiction) | decide))
      · rename_i h
        rw [if_pos h] at c6
        rw [hv, c6]
      · rename_i h
        rw [if_pos h] at c6
        rw [hv, c6]
      · rename_i h
        rw [if_pos h] at c6
        rw [hv, c6]; simp
      · have h : ¬ k + goMod (Src.raw (ql, qa)) 3 ≥ 27 := by assumption
        rw [if_neg h] at c6
        rw [e7] at c6
        refine fin_lp ⟨(Src.step (Src.step (Src.step (Src.step (Src.step (Src.step (Src.step (ql, qa))))))), k + goMod (Src.raw (ql, qa)) 3 + 1, i + 1, out ++ [depV (k + goMod (Src.raw (ql, qa)) 3) (Src.step (ql, qa))]), p7, by dsimp only; omega, by dsimp only; omega, by dsimp only; omega, by rw [List.length_append]; simp only [List.length_singleton]; omega, by dsimp only; rw [c6]; simp⟩ (by simp only [go_sem]; first | rfl | ((repeat' apply And.intro) <;> first | rfl | assumption | omega)) (by dsimp only; omega)
    · have hx : schedL (n0.toNat - i) (ql, qa) k = ([], (ql, qa)) := by
       cases hq : n0.toNat - i with
       | zero => rfl
       | succ m => rw [schedL, if_neg (by omega)]
      rw [hx] at c6
      rw [hv, c6]
      exact ⟨rfl, rfl, by simp⟩)
def day1 (i : Nat) (t : Int) : Dep := (fltsV i, ⟨#[67, 80, 72]⟩, t, t + 10, t + 12, 0, 0)
end Go.Proofs.YtdeihcabmpcaoaaGreat
