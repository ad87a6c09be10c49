/- Containers: a piece is put in, taken out. -/
import Derived.Test.YthiddcobegnokaaMqKcToKD
import Derived.Test.YthiddcobegnokaaMqKfToKV
set_option linter.unusedSimpArgs false
set_option linter.unusedVariables false
set_option maxRecDepth 100000
set_option maxHeartbeats 8000000
namespace Go.Proofs.Ythiddcobegnokaa
open Go.Ev

def PcSrt (l : List Pce) : Prop := l.Pairwise (fun a b : Pce => pltC a.1 b.1 < 0)
/-- Where a plate stands or would stand. -/
def posP (l : List Pce) (p : Plt) : Nat := (l.takeWhile (fun x => decide (pltC x.1 p < 0))).length
theorem posP_at {l : List Pce} {p : Plt} {k : Nat} (hk : k ≤ l.length) (h1 : ∀ j, j < k → pltC (l.getD j pc0).1 p < 0) (h2 : k < l.length → ¬ pltC (l.getD k pc0).1 p < 0) : posP l p = k := by
 unfold posP
 induction l generalizing k with
 | nil => simp at hk; subst hk; rfl
 | cons a l ih =>
   cases k with
   | zero =>
     have := h2 (by simp)
     rw [List.takeWhile_cons_of_neg (by simpa using this)]; rfl
   | succ k =>
     have h0 : pltC a.1 p < 0 := h1 0 (by omega)
     rw [List.takeWhile_cons_of_pos (by simpa using h0), List.length_cons, ih (by simpa using hk) (fun j hj => h1 (j + 1) (by omega)) (fun hh => h2 (by simpa using hh))]
theorem posP_le (l : List Pce) (p : Plt) : posP l p ≤ l.length := (List.takeWhile_sublist _).length_le
theorem posP_take (l : List Pce) (p : Plt) : ∀ j, j < posP l p → pltC (l.getD j pc0).1 p < 0 := by
 unfold posP
 induction l with
 | nil => intro j hj; simp at hj
 | cons a l ih =>
   intro j hj
   by_cases h : pltC a.1 p < 0
   · rw [List.takeWhile_cons_of_pos (by simpa using h), List.length_cons] at hj
     cases j with
     | zero => exact h
     | succ j => exact ih j (by omega)
   · rw [List.takeWhile_cons_of_neg (by simpa using h)] at hj; simp at hj
theorem posP_drop (l : List Pce) (p : Plt) : posP l p < l.length → ¬ pltC (l.getD (posP l p) pc0).1 p < 0 := by
 unfold posP
 induction l with
 | nil => intro h; simp at h
 | cons a l ih =>
   intro hj
   by_cases h : pltC a.1 p < 0
   · rw [List.takeWhile_cons_of_pos (by simpa using h), List.length_cons] at hj ⊢
     exact ih (by simpa using hj)
   · rw [List.takeWhile_cons_of_neg (by simpa using h)] at hj ⊢; exact h
theorem lt_succ' {P : Nat → Prop} {k : Nat} (h : ∀ j, j < k → P j) (hk : P k) : ∀ j, j < k + 1 → P j := fun j hj => by
 by_cases e : j = k
 · rw [e]; exact hk
 · exact h j (by omega)
def hasP (l : List Pce) (p : Plt) : Bool := l.any (fun x => decide (x.1 = p))
theorem holdsV_has (c : Cnt) (p : Plt) : holdsV c p = hasP c.pcs p := by
 rw [Bool.eq_iff_iff, holdsV_iff]; unfold hasP
 rw [List.any_eq_true]
 exact exists_congr fun x => and_congr_right fun _ => decide_eq_true_iff.symm
/-- In order, the plate is there exactly if it stands at its place. -/
theorem hasP_pos {l : List Pce} (hs : PcSrt l) (p : Plt) : hasP l p = (decide (posP l p < l.length) && decide ((l.getD (posP l p) pc0).1 = p)) := by
 rw [Bool.eq_iff_iff, Bool.and_eq_true, decide_eq_true_eq, decide_eq_true_eq]
 unfold hasP
 rw [List.any_eq_true]
 constructor
 · rintro ⟨x, hx, he⟩
   have he := of_decide_eq_true he
   obtain ⟨i, hi, rfl⟩ := getD_pc hx
   have hz : pltC (l.getD i pc0).1 p = 0 := (pltC_cmp.eq _ _).2 he
   have : posP l p = i := posP_at (by omega) (fun j hj => by rw [← he]; exact (pw_getD pc0).1 hs j i hj hi) (fun _ => by omega)
   rw [this]; exact ⟨hi, he⟩
 · rintro ⟨h1, h2⟩
   exact ⟨_, getD_mem h1, decide_eq_true h2⟩
def insP (l : List Pce) (x : Pce) : List Pce := l.take (posP l x.1) ++ x :: l.drop (posP l x.1)
def remP (l : List Pce) (p : Plt) : List Pce := l.filter (fun x => !decide (x.1 = p))
def forceV (c : Cnt) (x : Pce) : Cnt × Int := if ctErr c ≠ 0 then (ct0, ctErr c) else if okPc x = false then (ct0, 1) else if hasP c.pcs x.1 = true then (ct0, 5) else if 60 ≤ c.pcs.length then (ct0, 2) else (setPcs c (insP c.pcs x), 0)
def removeV (c : Cnt) (p : Plt) : Cnt × Int := if ctErr c ≠ 0 then (ct0, ctErr c) else if hasP c.pcs p = false then (ct0, 6) else (setPcs c (remP c.pcs p), 0)
def con57 : Con := { ps := [.d false (.sl yPC), .d true yPL], rs := [.d false (.int .i64), .d false .bool], pre := fun (x : List Pce × Plt × Unit) => PcSrt x.1 ∧ x.1.length ≤ 1000000, out := fun (x : List Pce × Plt × Unit) => ((posP x.1 x.2.1 : Nat), hasP x.1 x.2.1, ()), nw := id }
theorem c57 : CtrOk Try.prog 57 con57.ctr :=
 con_sound (G := ⟨[(70, con70.ctr)], [], [], []⟩) tab_ok (EnvOk.cons c70 has70 EnvOk.nil) rfl Try.func57 rfl con57 33563131 (by kernel_rfl) (by decide) (by decide) rfl (by decide) rfl (by
  rintro ⟨(l : List Pce), ⟨(p1 : Int), (p2 : Int), (p3 : Int)⟩, _⟩ hpre hwf X hT hG hk hK
  obtain ⟨hs, hl⟩ : PcSrt l ∧ l.length ≤ 1000000 := hpre
  (simp -implicitDefEqProofs only [go_sem, Bool.not_eq_true', Bool.not_eq_false', Bool.or_eq_true, Bool.or_eq_false_iff, Bool.and_eq_true, Bool.and_eq_false_iff, decide_eq_true_eq, decide_eq_false_iff_not, Classical.not_not, not_or, maxLen, con57, con70, hT, hG, hk, hK, Try.results57] at hwf ⊢); (try simp (disch := decide +kernel) only [drawn, true_and, and_true])
  clear hwf
  obtain ⟨P, hP⟩ : ∃ P : Plt, P = (p1, p2, p3) := ⟨_, rfl⟩
  refine fun _ => evk_loop ⟨{ q : Nat × Nat // q.1 ≤ q.2 ∧ q.2 ≤ l.length ∧ (∀ k, k < q.1 → pltC (l.getD k pc0).1 P < 0) ∧ ∀ k, q.2 ≤ k → k < l.length → ¬ pltC (l.getD k pc0).1 P < 0 }, 1000, fun q => [(0, .one (.sl yPC l false)), (3, .one (.loc 70 0)), (6, .one (.int .i64 q.1.1)), (7, .one (.int .i64 q.1.2))], fun q => [(70, .cells 33 [.int .i64 p1, .int .i64 p2, .int .i64 p3])], fun q => q.1.2 - q.1.1⟩ ⟨(0, l.length), Nat.zero_le _, Nat.le_refl _, fun k hk => by omega, fun k h1 h2 => by omega⟩ ?_ ?_
  · simp only [go_sem]
    try (first | rfl | exact ⟨rfl, rfl⟩ | (and_intros <;> first | trivial | rfl | omega))
  · rintro ⟨⟨a, b⟩, (hab : a ≤ b), (hb : b ≤ l.length), h1, h2⟩
    have h1 : ∀ k, k < a → pltC (l.getD k pc0).1 P < 0 := h1
    have h2 : ∀ k, b ≤ k → k < l.length → ¬ pltC (l.getD k pc0).1 P < 0 := h2
    (simp -implicitDefEqProofs only [go_sem, Bool.not_eq_true', Bool.not_eq_false', Bool.or_eq_true, Bool.or_eq_false_iff, Bool.and_eq_true, Bool.and_eq_false_iff, decide_eq_true_eq, decide_eq_false_iff_not, Classical.not_not, not_or, maxLen, con57, con70, hT, hG, hk, hK, Try.results57]); (try simp (disch := decide +kernel) only [drawn, true_and, and_true])
    have em : ((a : Int) + b).tdiv 2 = ((a + b) / 2 : Nat) := by rw [Int.tdiv_eq_ediv_of_nonneg (by omega)]; omega
    simp only [em]
    obtain ⟨m, hm⟩ : ∃ m, (a + b) / 2 = m := ⟨_, rfl⟩
    simp only [hm]
    obtain ⟨o, ho⟩ : ∃ o, l.getD m pc0 = o := ⟨_, rfl⟩
    have eo : l.getD (m : Int).toNat ((0, 0, 0), 0, 0) = o := ho
    have eO : (o.1.1, o.1.2.1, o.1.2.2) = o.1 := rfl
    simp only [eo, eO, ← hP]
    obtain ⟨u, hu⟩ : ∃ u, l.getD a pc0 = u := ⟨_, rfl⟩
    have eu : l.getD (a : Int).toNat ((0, 0, 0), 0, 0) = u := hu
    try simp only [eu]
    have hfin : b ≤ a → posP l P = a := fun h => posP_at (by omega) h1 (fun hh => h2 a (by omega) hh)
    have hap : ∀ j k, j < k → k < l.length → pltC (l.getD j pc0).1 (l.getD k pc0).1 < 0 := (pw_getD pc0).1 hs
    (repeat' (with_reducible (first | refine And.intro ?_ ?_ | intro _))) <;> (try (first | with_reducible (first | done | assumption | omega | contradiction) | decide))
    all_goals first
     | (have hq : pltC o.1 P < 0 := by assumption
        refine fin_lp ⟨(m + 1, b), (by show m + 1 ≤ b; omega), hb, (fun k hk => ?_), h2⟩ ?_ (by dsimp only; omega)
        · have hk : k < m + 1 := hk
          by_cases e : k = m
          · rw [e, ho]; exact hq
          · exact pltC_cmp.trans _ _ _ (hap k m (by omega) (by omega)) (by rw [ho]; exact hq)
        · simp only [go_sem]
          try (first | rfl | exact ⟨rfl, rfl⟩ | (and_intros <;> first | trivial | rfl | omega))
          done)
     | (have hq : ¬ pltC o.1 P < 0 := by assumption
        refine fin_lp ⟨(a, m), (by show a ≤ m; omega), (by show m ≤ l.length; omega), h1, (fun k hk hk2 => ?_)⟩ ?_ (by dsimp only; omega)
        · have hk : m ≤ k := hk
          by_cases e : k = m
          · rw [e, ho]; exact hq
          · intro hc
            exact hq (by rw [← ho]; exact pltC_cmp.trans _ _ _ (hap m k (by omega) hk2) hc)
        · simp only [go_sem]
          try (first | rfl | exact ⟨rfl, rfl⟩ | (and_intros <;> first | trivial | rfl | omega))
          done)
     | (have e1 : u.1.1 = p1 ∧ u.1.2.1 = p2 ∧ u.1.2.2 = p3 ↔ u.1 = P := by rw [hP]; exact Iff.of_eq (pltE u.1 (p1, p2, p3))
        rw [hasP_pos hs, hfin (by omega), hu, Bool.eq_iff_iff]
        simp only [Bool.and_eq_true, decide_eq_true_eq, ← e1]
        omega)
     | (rw [hfin (by omega)])
     | fail)
def con83 : Con := { ps := [.d false (.sl yPC), .d false (.int .i64), .d true yPC], rs := [.d false (.sl yPC)], pre := fun (x : List Pce × Int × Pce × Unit) => 0 ≤ x.2.1 ∧ x.2.1 ≤ x.1.length ∧ x.1.length ≤ 100000, out := fun (x : List Pce × Int × Pce × Unit) => (x.1.take x.2.1.toNat ++ x.2.2.1 :: x.1.drop x.2.1.toNat, ()), nw := id }
theorem c83 : CtrOk Try.prog 83 con83.ctr :=
 con_sound (G := ⟨[], [], [], []⟩) tab_ok EnvOk.nil rfl Try.func83 rfl con83 231 (by kernel_rfl) (by decide) (by decide) rfl (by decide) rfl (by
  rintro ⟨(l : List Pce), (i : Int), ⟨⟨(a : Int), (b : Int), (c : Int)⟩, (d : Int), (e : Int)⟩, _⟩ hpre hwf X hT hG hk hK
  obtain ⟨h1, h2, h3⟩ : 0 ≤ i ∧ i ≤ l.length ∧ l.length ≤ 100000 := hpre
  (simp -implicitDefEqProofs only [go_sem, Bool.not_eq_true', Bool.not_eq_false', Bool.or_eq_true, Bool.or_eq_false_iff, Bool.and_eq_true, Bool.and_eq_false_iff, decide_eq_true_eq, decide_eq_false_iff_not, Classical.not_not, not_or, maxLen, con83, hT, hG, hk, hK, Try.results83] at hwf ⊢); (try simp (disch := decide +kernel) only [drawn, true_and, and_true])
  clear hwf
  (repeat' (with_reducible (first | refine And.intro ?_ ?_ | intro _))) <;> (try (first | with_reducible (first | done | assumption | omega | contradiction) | decide))
  all_goals first
   | (rw [show ((l.length : Nat) : Int).toNat = l.length by omega, List.take_length]; simp; done)
   | (simp only [List.length_append, List.length_replicate, List.length_take, List.length_drop, List.length_cons, List.length_nil]; omega)
   | fail)
def con59 : Con := { ps := [.d true yCT, .d true yPC, .d false .bool], rs := [.d true yCT, .d false (.int .i64)], pre := fun (x : Cnt × Pce × Bool × Unit) => x.2.2.1 = false, out := fun (x : Cnt × Pce × Bool × Unit) => ((forceV x.1 x.2.1).1, (forceV x.1 x.2.1).2, ()), nw := id }
theorem c59 : CtrOk Try.prog 59 con59.ctr :=
 con_sound (G := ⟨[(56, con56.ctr), (80, con80.ctr), (57, con57.ctr), (83, con83.ctr), (81, con81.ctr), (82, con82.ctr)], [], [], []⟩) tab_ok (EnvOk.cons c56 has56 (EnvOk.cons c80 has80 (EnvOk.cons c57 has57 (EnvOk.cons c83 has83 (EnvOk.cons c81 has81 (EnvOk.cons c82 has82 EnvOk.nil)))))) rfl Try.func59 rfl con59 18446761685224034271 (by kernel_rfl) (by decide) (by decide) rfl (by decide) rfl (by
  rintro ⟨⟨(n : Int), ⟨a1, (a2 : Int), a3, (a4 : Int)⟩, (c : Int), (lm : Int), (t : Int), (p : Int), (r : Int), (l : List Pce)⟩, ⟨⟨(p1 : Int), (p2 : Int), (p3 : Int)⟩, (p4 : Int), (p5 : Int)⟩, (b : Bool), _⟩ hpre hwf X hT hG hk hK
  have hb : b = false := hpre
  subst hb
  (simp -implicitDefEqProofs only [go_sem, Bool.not_eq_true', Bool.not_eq_false', Bool.or_eq_true, Bool.or_eq_false_iff, Bool.and_eq_true, Bool.and_eq_false_iff, decide_eq_true_eq, decide_eq_false_iff_not, Classical.not_not, not_or, maxLen, con59, con56, con80, con57, con83, con81, con82, hT, hG, hk, hK, Try.results59] at hwf ⊢); (try simp (disch := decide +kernel) only [drawn, true_and, and_true])
  clear hwf
  obtain ⟨C, hC⟩ : ∃ C : Cnt, (n, (a1, a2, a3, a4), c, lm, t, p, r, l) = C := ⟨_, rfl⟩
  obtain ⟨x, hx⟩ : ∃ x : Pce, ((p1, p2, p3), p4, p5) = x := ⟨_, rfl⟩
  have hl : C.pcs = l := by rw [← hC]
  have hx1 : (p1, p2, p3) = x.1 := by rw [← hx]
  simp only [hC, hx]
  simp only [hx1]
  refine fun _ => ⟨fun h => ?_, fun h => ⟨fun h2 => ?_, fun h2 => ?_⟩⟩
  · have e : forceV C x = (ct0, ctErr C) := by unfold forceV; rw [if_pos h]
    rw [e]; (and_intros <;> rfl)
  · have e : forceV C x = (ct0, 1) := by unfold forceV; rw [if_neg (by simp [h]), if_pos h2]
    rw [e]; (and_intros <;> rfl)
  · obtain ⟨g1, g2, g3⟩ := ctErr_iff.1 h
    have hsl : PcSrt l := by rw [← hl]; exact g3.srt
    have hll : l.length ≤ 60 := by rw [← hl]; exact g2
    have hpl := posP_le l x.1
    (repeat' (with_reducible (first | refine And.intro ?_ ?_ | intro _))) <;> (try (first | with_reducible (first | done | assumption | omega | contradiction) | decide))
    all_goals first
     | exact hsl
     | (have hq : hasP l x.1 = true := by assumption
        have e : forceV C x = (ct0, 5) := by unfold forceV; rw [if_neg (by simp [h]), if_neg (by simp [h2]), if_pos (by rw [hl]; exact hq)]
        first | (rw [e]; done) | (rw [e]; rfl))
     | (have hq : hasP l x.1 = false := by assumption
        have hq2 : ((l.length : Nat) : Int) ≥ 60 := by assumption
        have e : forceV C x = (ct0, 2) := by unfold forceV; rw [if_neg (by simp [h]), if_neg (by simp [h2]), if_neg (by rw [hl, hq]; simp), if_pos (by rw [hl]; omega)]
        first | (rw [e]; done) | (rw [e]; rfl))
     | (have hq : hasP l x.1 = false := by assumption
        have hq2 : ¬ ((l.length : Nat) : Int) ≥ 60 := by assumption
        have e : forceV C x = (setPcs C (insP C.pcs x), 0) := by unfold forceV; rw [if_neg (by simp [h]), if_neg (by simp [h2]), if_neg (by rw [hl, hq]; simp), if_neg (by rw [hl]; omega)]
        first | (rw [e]; done) | (rw [e]; rfl) | (rw [e]; show _ = insP C.pcs x; rw [hl]; rfl) | (rw [e, ← hC]; rfl))
     | fail)
def con37 : Con := { ps := [.d true yCT, .d true yPC], rs := [.d true yCT, .d false (.int .i64)], pre := fun _ => True, out := fun (x : Cnt × Pce × Unit) => ((forceV x.1 x.2.1).1, (forceV x.1 x.2.1).2, ()), nw := id }
theorem c37 : CtrOk Try.prog 37 con37.ctr :=
 con_sound (G := ⟨[(59, con59.ctr)], [], [], []⟩) tab_ok (EnvOk.cons c59 has59 EnvOk.nil) rfl Try.func37 rfl con37 63 (by kernel_rfl) (by decide) (by decide) rfl (by decide) rfl (by
  rintro ⟨⟨(n : Int), ⟨a1, (a2 : Int), a3, (a4 : Int)⟩, (c : Int), (lm : Int), (t : Int), (p : Int), (r : Int), (l : List Pce)⟩, ⟨⟨(p1 : Int), (p2 : Int), (p3 : Int)⟩, (p4 : Int), (p5 : Int)⟩, _⟩ hpre hwf X hT hG hk hK
  (simp -implicitDefEqProofs only [go_sem, Bool.not_eq_true', Bool.not_eq_false', Bool.or_eq_true, Bool.or_eq_false_iff, Bool.and_eq_true, Bool.and_eq_false_iff, decide_eq_true_eq, decide_eq_false_iff_not, Classical.not_not, not_or, maxLen, con37, con59, hT, hG, hk, hK, Try.results37] at hwf ⊢); (try simp (disch := decide +kernel) only [drawn, true_and, and_true]))
def con34 : Con := { ps := [.d false (.sl yCT)], rs := [.o 64 yCT], pre := fun (x : List Cnt × Unit) => x.1.length ≤ 1000 ∧ ∀ o ∈ x.1, o.pcs.length ≤ 100000, out := fun (x : List Cnt × Unit) => (x.1, ()), nw := id }
theorem c34 : CtrOk Try.prog 34 con34.ctr :=
 con_sound (G := ⟨[], [], [], []⟩) tab_ok EnvOk.nil rfl Try.func34 rfl con34 573 (by kernel_rfl) (by decide) (by decide) rfl (by decide) rfl (by
  rintro ⟨(l : List Cnt), _⟩ hpre hwf X hT hG hk hK
  obtain ⟨hl, hlo⟩ : l.length ≤ 1000 ∧ ∀ o ∈ l, o.pcs.length ≤ 100000 := hpre
  (simp -implicitDefEqProofs only [go_sem, Bool.not_eq_true', Bool.not_eq_false', Bool.or_eq_true, Bool.or_eq_false_iff, Bool.and_eq_true, Bool.and_eq_false_iff, decide_eq_true_eq, decide_eq_false_iff_not, Classical.not_not, not_or, maxLen, con34, hT, hG, hk, hK, Try.results34] at hwf ⊢); (try simp (disch := decide +kernel) only [drawn, true_and, and_true])
  clear hwf
  refine evk_loop ⟨{ i : Nat // i ≤ l.length }, 1000, fun q => [(0, .one (.sl yCT l false)), (3, .one (.row 64)), (4, .one (.int .i64 q.1))], fun q => [(64, .row 64 yCT (l.take q.1))], fun q => l.length - q.1⟩ ⟨0, Nat.zero_le _⟩ ?_ ?_
  · simp only [go_sem]
    try (first | rfl | exact ⟨rfl, rfl⟩ | (and_intros <;> first | trivial | rfl | omega))
  · rintro ⟨i, (hi : i ≤ l.length)⟩
    (simp -implicitDefEqProofs only [go_sem, Bool.not_eq_true', Bool.not_eq_false', Bool.or_eq_true, Bool.or_eq_false_iff, Bool.and_eq_true, Bool.and_eq_false_iff, decide_eq_true_eq, decide_eq_false_iff_not, Classical.not_not, not_or, maxLen, con34, hT, hG, hk, hK, Try.results34]); (try simp (disch := decide +kernel) only [drawn, true_and, and_true])
    obtain ⟨o, ho⟩ : ∃ o, l.getD i ct0 = o := ⟨_, rfl⟩
    have eo : l.getD (i : Int).toNat (0, (ByteArray.empty, 0, ByteArray.empty, 0), 0, 0, 0, 0, 0, []) = o := ho
    try simp only [eo]
    have hts : i < l.length → l.take (i + 1) = l.take i ++ [o] := fun h => by rw [List.take_succ_eq_append_getElem h, ← getD_lt (d := ct0) h, ho]
    have htl : (l.take i).length ≤ l.length := by rw [List.length_take]; omega
    have hop : i < l.length → o.pcs.length ≤ 100000 := fun h => hlo o (by rw [← ho]; exact getD_mem h)
    (repeat' (with_reducible (first | refine And.intro ?_ ?_ | intro _))) <;> (try (first | with_reducible (first | done | assumption | omega | contradiction) | decide))
    all_goals first
     | (have e1 := hts (by omega)
        refine fin_lp ⟨i + 1, by omega⟩ ?_ (by dsimp only; omega)
        simp only [go_sem]
        rw [e1]
        try (first | rfl | exact ⟨rfl, rfl⟩ | (and_intros <;> first | trivial | rfl | omega))
        done)
     | (rw [List.take_of_length_le (by omega)]; done)
     | (have h5 : List.length o.2.2.2.2.2.2.2 ≤ 100000 := hop (by omega)
        omega)
     | fail)
theorem remP_pos {l : List Pce} (hs : PcSrt l) {p : Plt} (h : hasP l p = true) : remP l p = l.take (posP l p) ++ l.drop (posP l p + 1) := by
 rw [hasP_pos hs, Bool.and_eq_true, decide_eq_true_eq, decide_eq_true_eq] at h
 obtain ⟨h1, h2⟩ := h
 have hap := (pw_getD pc0).1 hs
 have hne : ∀ a b : Plt, pltC a b < 0 → ¬ a = b := fun a b h e => by rw [(pltC_cmp.eq _ _).2 e] at h; omega
 unfold remP
 conv => lhs; rw [← List.take_append_drop (posP l p) l]
 rw [List.filter_append, List.drop_eq_getElem_cons h1, List.filter_cons_of_neg (by rw [← getD_lt (d := pc0) h1, h2]; simp)]
 congr 1
 · refine List.filter_eq_self.2 fun x hx => ?_
   obtain ⟨k, hk, rfl⟩ := getD_pc hx
   have hkp : k < posP l p := by rw [List.length_take] at hk; omega
   rw [List.getD_eq_getElem?_getD, List.getElem?_take_of_lt hkp, ← List.getD_eq_getElem?_getD]
   have := hne _ _ (posP_take l p k hkp)
   rw [decide_eq_false this]; rfl
 · refine List.filter_eq_self.2 fun x hx => ?_
   obtain ⟨k, hk, rfl⟩ := getD_pc hx
   rw [List.length_drop] at hk
   have := hap (posP l p) (posP l p + 1 + k) (by omega) (by omega)
   rw [h2] at this
   have := hne _ _ this
   rw [List.getD_eq_getElem?_getD, List.getElem?_drop, ← List.getD_eq_getElem?_getD]
   rw [decide_eq_false (fun e => this (Eq.symm e))]; rfl
def con58 : Con := { ps := [.d false (.sl yPC), .d false (.int .i64)], rs := [.d false (.sl yPC)], pre := fun (x : List Pce × Int × Unit) => 0 ≤ x.2.1 ∧ x.2.1 < x.1.length ∧ x.1.length ≤ 100000, out := fun (x : List Pce × Int × Unit) => (x.1.take x.2.1.toNat ++ x.1.drop (x.2.1.toNat + 1), ()), nw := id }
theorem c58 : CtrOk Try.prog 58 con58.ctr :=
 con_sound (G := ⟨[], [], [], []⟩) tab_ok EnvOk.nil rfl Try.func58 rfl con58 51 (by kernel_rfl) (by decide) (by decide) rfl (by decide) rfl (by
  rintro ⟨(l : List Pce), (i : Int), _⟩ hpre hwf X hT hG hk hK
  obtain ⟨h1, h2, h3⟩ : 0 ≤ i ∧ i < l.length ∧ l.length ≤ 100000 := hpre
  (simp -implicitDefEqProofs only [go_sem, Bool.not_eq_true', Bool.not_eq_false', Bool.or_eq_true, Bool.or_eq_false_iff, Bool.and_eq_true, Bool.and_eq_false_iff, decide_eq_true_eq, decide_eq_false_iff_not, Classical.not_not, not_or, maxLen, con58, hT, hG, hk, hK, Try.results58] at hwf ⊢); (try simp (disch := decide +kernel) only [drawn, true_and, and_true])
  clear hwf
  (repeat' (with_reducible (first | refine And.intro ?_ ?_ | intro _))) <;> (try (first | with_reducible (first | done | assumption | omega | contradiction) | decide))
  all_goals first
   | (rw [show ((l.length : Nat) : Int).toNat = l.length by omega, show (i + 1).toNat = i.toNat + 1 by omega, List.take_length]; simp; done)
   | (simp only [List.length_append, List.length_replicate, List.length_take, List.length_drop, List.length_cons, List.length_nil]; omega)
   | fail)
def con36 : Con := { ps := [.d true yCT, .d true yPL], rs := [.d true yCT, .d false (.int .i64)], pre := fun _ => True, out := fun (x : Cnt × Plt × Unit) => ((removeV x.1 x.2.1).1, (removeV x.1 x.2.1).2, ()), nw := id }
theorem c36 : CtrOk Try.prog 36 con36.ctr :=
 con_sound (G := ⟨[(56, con56.ctr), (57, con57.ctr), (58, con58.ctr)], [], [], []⟩) tab_ok (EnvOk.cons c56 has56 (EnvOk.cons c57 has57 (EnvOk.cons c58 has58 EnvOk.nil))) rfl Try.func36 rfl con36 33563647 (by kernel_rfl) (by decide) (by decide) rfl (by decide) rfl (by
  rintro ⟨⟨(n : Int), ⟨a1, (a2 : Int), a3, (a4 : Int)⟩, (c : Int), (lm : Int), (t : Int), (p : Int), (r : Int), (l : List Pce)⟩, ⟨(p1 : Int), (p2 : Int), (p3 : Int)⟩, _⟩ hpre hwf X hT hG hk hK
  (simp -implicitDefEqProofs only [go_sem, Bool.not_eq_true', Bool.not_eq_false', Bool.or_eq_true, Bool.or_eq_false_iff, Bool.and_eq_true, Bool.and_eq_false_iff, decide_eq_true_eq, decide_eq_false_iff_not, Classical.not_not, not_or, maxLen, con36, con56, con57, con58, hT, hG, hk, hK, Try.results36] at hwf ⊢); (try simp (disch := decide +kernel) only [drawn, true_and, and_true])
  clear hwf
  obtain ⟨C, hC⟩ : ∃ C : Cnt, (n, (a1, a2, a3, a4), c, lm, t, p, r, l) = C := ⟨_, rfl⟩
  obtain ⟨x, hx⟩ : ∃ x : Plt, (p1, p2, p3) = x := ⟨_, rfl⟩
  have hl : C.pcs = l := by rw [← hC]
  simp only [hC, hx]
  refine fun _ => ⟨fun h => ?_, fun h => ?_⟩
  · have e : removeV C x = (ct0, ctErr C) := by unfold removeV; rw [if_pos h]
    rw [e]; (and_intros <;> rfl)
  · obtain ⟨g1, g2, g3⟩ := ctErr_iff.1 h
    have hsl : PcSrt l := by rw [← hl]; exact g3.srt
    have hll : l.length ≤ 60 := by rw [← hl]; exact g2
    have hpl := posP_le l x
    have hpos : hasP l x = true → posP l x < l.length := fun h => by
     rw [hasP_pos hsl, Bool.and_eq_true, decide_eq_true_eq] at h; exact h.1
    (repeat' (with_reducible (first | refine And.intro ?_ ?_ | intro _))) <;> (try (first | with_reducible (first | done | assumption | omega | contradiction) | decide))
    all_goals first
     | exact hsl
     | (have hq : hasP l x = false := by assumption
        have e : removeV C x = (ct0, 6) := by unfold removeV; rw [if_neg (by simp [h]), if_pos (by rw [hl]; exact hq)]
        first | (rw [e]; done) | (rw [e]; rfl))
     | (have hq : hasP l x = true := by assumption
        have hps := hpos hq
        have e : removeV C x = (setPcs C (remP C.pcs x), 0) := by unfold removeV; rw [if_neg (by simp [h]), if_neg (by rw [hl]; simp [hq])]
        first | (rw [e]; done) | (rw [e]; rfl) | omega | (rw [e]; show _ = remP C.pcs x; rw [hl, remP_pos hsl hq]; simp; done) | (rw [e, ← hC]; rfl))
     | fail)
end Go.Proofs.Ythiddcobegnokaa
