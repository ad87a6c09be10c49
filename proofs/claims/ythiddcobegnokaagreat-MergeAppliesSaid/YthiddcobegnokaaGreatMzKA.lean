/- Containers: a piece is put in, taken out. -/
import Derived.Test.YthiddcobegnokaaGreatEvOrdToKD
import Derived.Test.YthiddcobegnokaaGreatMzKfToKV
set_option linter.unusedSimpArgs false
set_option linter.unusedVariables false
set_option maxRecDepth 100000
set_option maxHeartbeats 8000000
namespace Go.Proofs.YthiddcobegnokaaGreat
open Go.Ev

def PcSrt (l : List Pce) : Prop := l.Pairwise (fun a b : Pce => pltC a.1 b.1 < 0)
/-- Where a plate stands or would stand. -/
def posP (l : List Pce) (p : Plt) : Nat := (l.takeWhile (fun x => decide (pltC x.1 p < 0))).length
theorem posP_at {l : List Pce} {p : Plt} {k : Nat} (hk : k ≤ l.length) (h1 : ∀ j, j < k → pltC (l.getD j pc0).1 p < 0) (h2 : k < l.length → ¬ pltC (l.getD k pc0).1 p < 0) : posP l p = k := by
 unfold posP
 induction l generalizing k with
 | nil => simp at hk; subst hk; rfl
 | cons a l ih =>
   cases k with
   | zero =>
     have := h2 (by simp)
     rw [List.takeWhile_cons_of_neg (by simpa using this)]; rfl
   | succ k =>
     have h0 : pltC a.1 p < 0 := h1 0 (by omega)
     rw [List.takeWhile_cons_of_pos (by simpa using h0), List.length_cons, ih (by simpa using hk) (fun j hj => h1 (j + 1) (by omega)) (fun hh => h2 (by simpa using hh))]
theorem posP_le (l : List Pce) (p : Plt) : posP l p ≤ l.length := (List.takeWhile_sublist _).length_le
theorem lt_succ' {P : Nat → Prop} {k : Nat} (h : ∀ j, j < k → P j) (hk : P k) : ∀ j, j < k + 1 → P j := fun j hj => by
 by_cases e : j = k
 · rw [e]; exact hk
 · exact h j (by omega)
def hasP (l : List Pce) (p : Plt) : Bool := l.any (fun x => decide (x.1 = p))
theorem holdsV_has (c : Cnt) (p : Plt) : holdsV c p = hasP c.pcs p := by
 rw [Bool.eq_iff_iff, holdsV_iff]; unfold hasP
 rw [List.any_eq_true]
 exact exists_congr fun x => and_congr_right fun _ => decide_eq_true_iff.symm
/-- In order, the plate is there exactly if it stands at its place. -/
theorem hasP_pos {l : List Pce} (hs : PcSrt l) (p : Plt) : hasP l p = (decide (posP l p < l.length) && decide ((l.getD (posP l p) pc0).1 = p)) := by
 rw [Bool.eq_iff_iff, Bool.and_eq_true, decide_eq_true_eq, decide_eq_true_eq]
 unfold hasP
 rw [List.any_eq_true]
 constructor
 · rintro ⟨x, hx, he⟩
   have he := of_decide_eq_true he
   obtain ⟨i, hi, rfl⟩ := getD_pc hx
   have hz : pltC (l.getD i pc0).1 p = 0 := (pltC_cmp.eq _ _).2 he
   have : posP l p = i := posP_at (by omega) (fun j hj => by rw [← he]; exact (pw_getD pc0).1 hs j i hj hi) (fun _ => by omega)
   rw [this]; exact ⟨hi, he⟩
 · rintro ⟨h1, h2⟩
   exact ⟨_, getD_mem h1, decide_eq_true h2⟩
def insP (l : List Pce) (x : Pce) : List Pce := l.take (posP l x.1) ++ x :: l.drop (posP l x.1)
def remP (l : List Pce) (p : Plt) : List Pce := l.filter (fun x => !decide (x.1 = p))
def forceV (c : Cnt) (x : Pce) : Cnt × Int := if ctErr c ≠ 0 then (ct0, ctErr c) else if okPc x = false then (ct0, 1) else if hasP c.pcs x.1 = true then (ct0, 5) else if 60 ≤ c.pcs.length then (ct0, 2) else (setPcs c (insP c.pcs x), 0)
def removeV (c : Cnt) (p : Plt) : Cnt × Int := if ctErr c ≠ 0 then (ct0, ctErr c) else if hasP c.pcs p = false then (ct0, 6) else (setPcs c (remP c.pcs p), 0)
def con98 : Con := { ps := [.d false (.sl yPC), .d true yPL], rs := [.d false (.int .i64), .d false .bool], pre := fun (x : List Pce × Plt × Unit) => PcSrt x.1 ∧ x.1.length ≤ 1000000, out := fun (x : List Pce × Plt × Unit) => ((posP x.1 x.2.1 : Nat), hasP x.1 x.2.1, ()), nw := id }
theorem c98 : CtrOk Tryz.prog 98 con98.ctr :=
 con_sound (G := ⟨[(54, con54.ctr)], [], [], []⟩) tab_ok (EnvOk.cons c54 has54 EnvOk.nil) rfl Tryz.func98 rfl con98 33563131 (by kernel_rfl) (by decide) (by decide) rfl (by decide) rfl (by
  rintro ⟨(l : List Pce), ⟨(p1 : Int), (p2 : Int), (p3 : Int)⟩, _⟩ hpre hwf X hT hG hk hK
  obtain ⟨hs, hl⟩ : PcSrt l ∧ l.length ≤ 1000000 := hpre
  (simp -implicitDefEqProofs only [go_sem, Bool.not_eq_true', Bool.not_eq_false', Bool.or_eq_true, Bool.or_eq_false_iff, Bool.and_eq_true, Bool.and_eq_false_iff, decide_eq_true_eq, decide_eq_false_iff_not, Classical.not_not, not_or, maxLen, con98, con54, hT, hG, hk, hK, Tryz.results98] at hwf ⊢); (try simp (disch := decide +kernel) only [drawn, true_and, and_true])
  clear hwf
  obtain ⟨P, hP⟩ : ∃ P : Plt, P = (p1, p2, p3) := ⟨_, rfl⟩
  refine fun _ => evk_loop ⟨{ q : Nat × Nat // q.1 ≤ q.2 ∧ q.2 ≤ l.length ∧ (∀ k, k < q.1 → pltC (l.getD k pc0).1 P < 0) ∧ ∀ k, q.2 ≤ k → k < l.length → ¬ pltC (l.getD k pc0).1 P < 0 }, 1000, fun q => [(0, .one (.sl yPC l false)), (3, .one (.loc 70 0)), (6, .one (.int .i64 q.1.1)), (7, .one (.int .i64 q.1.2))], fun q => [(70, .cells 52 [.int .i64 p1, .int .i64 p2, .int .i64 p3])], fun q => q.1.2 - q.1.1⟩ ⟨(0, l.length), Nat.zero_le _, Nat.le_refl _, fun k hk => by omega, fun k h1 h2 => by omega⟩ ?_ ?_
  · simp only [go_sem]
    try (first | rfl | exact ⟨rfl, rfl⟩ | (and_intros <;> first | trivial | rfl | omega))
  · rintro ⟨⟨a, b⟩, (hab : a ≤ b), (hb : b ≤ l.length), h1, h2⟩
    have h1 : ∀ k, k < a → pltC (l.getD k pc0).1 P < 0 := h1
    have h2 : ∀ k, b ≤ k → k < l.length → ¬ pltC (l.getD k pc0).1 P < 0 := h2
    (simp -implicitDefEqProofs only [go_sem, Bool.not_eq_true', Bool.not_eq_false', Bool.or_eq_true, Bool.or_eq_false_iff, Bool.and_eq_true, Bool.and_eq_false_iff, decide_eq_true_eq, decide_eq_false_iff_not, Classical.not_not, not_or, maxLen, con98, con54, hT, hG, hk, hK, Tryz.results98]); (try simp (disch := decide +kernel) only [drawn, true_and, and_true])
    have em : ((a : Int) + b).tdiv 2 = ((a + b) / 2 : Nat) := by rw [Int.tdiv_eq_ediv_of_nonneg (by omega)]; omega
    simp only [em]
    obtain ⟨m, hm⟩ : ∃ m, (a + b) / 2 = m := ⟨_, rfl⟩
    simp only [hm]
    obtain ⟨o, ho⟩ : ∃ o, l.getD m pc0 = o := ⟨_, rfl⟩
    have eo : l.getD (m : Int).toNat ((0, 0, 0), 0, 0) = o := ho
    have eO : (o.1.1, o.1.2.1, o.1.2.2) = o.1 := rfl
    simp only [eo, eO, ← hP]
    obtain ⟨u, hu⟩ : ∃ u, l.getD a pc0 = u := ⟨_, rfl⟩
    have eu : l.getD (a : Int).toNat ((0, 0, 0), 0, 0) = u := hu
    try simp only [eu]
    have hfin : b ≤ a → posP l P = a := fun h => posP_at (by omega) h1 (fun hh => h2 a (by omega) hh)
    have hap : ∀ j k, j < k → k < l.length → pltC (l.getD j pc0).1 (l.getD k pc0).1 < 0 := (pw_getD pc0).1 hs
    (repeat' (with_reducible (first | refine And.intro ?_ ?_ | intro _))) <;> (try (first | with_reducible (first | done | assumption | omega | contradiction) | decide))
    all_goals first
     | (have hq : pltC o.1 P < 0 := by assumption
        refine fin_lp ⟨(m + 1, b), (by show m + 1 ≤ b; omega), hb, (fun k hk => ?_), h2⟩ ?_ (by dsimp only; omega)
        · have hk : k < m + 1 := hk
          by_cases e : k = m
          · rw [e, ho]; exact hq
          · exact pltC_cmp.trans _ _ _ (hap k m (by omega) (by omega)) (by rw [ho]; exact hq)
        · simp only [go_sem]
          try (first | rfl | exact ⟨rfl, rfl⟩ | (and_intros <;> first | trivial | rfl | omega))
          done)
     | (have hq : ¬ pltC o.1 P < 0 := by assumption
        refine fin_lp ⟨(a, m), (by show a ≤ m; omega), (by show m ≤ l.length; omega), h1, (fun k hk hk2 => ?_)⟩ ?_ (by dsimp only; omega)
        · have hk : m ≤ k := hk
          by_cases e : k = m
          · rw [e, ho]; exact hq
          · intro hc
            exact hq (by rw [← ho]; exact pltC_cmp.trans _ _ _ (hap m k (by omega) hk2) hc)
        · simp only [go_sem]
          try (first | rfl | exact ⟨rfl, rfl⟩ | (and_intros <;> first | trivial | rfl | omega))
          done)
     | (have e1 : u.1.1 = p1 ∧ u.1.2.1 = p2 ∧ u.1.2.2 = p3 ↔ u.1 = P := by rw [hP]; exact Iff.of_eq (pltE u.1 (p1, p2, p3))
        rw [hasP_pos hs, hfin (by omega), hu, Bool.eq_iff_iff]
        simp only [Bool.and_eq_true, decide_eq_true_eq, ← e1]
        omega)
     | (rw [hfin (by omega)])
     | fail)
def con101 : Con := { ps := [.d false (.sl yPC), .d false (.int .i64), .d true yPC], rs := [.d false (.sl yPC)], pre := fun (x : List Pce × Int × Pce × Unit) => 0 ≤ x.2.1 ∧ x.2.1 ≤ x.1.length ∧ x.1.length ≤ 100000, out := fun (x : List Pce × Int × Pce × Unit) => (x.1.take x.2.1.toNat ++ x.2.2.1 :: x.1.drop x.2.1.toNat, ()), nw := id }
theorem c101 : CtrOk Tryz.prog 101 con101.ctr :=
 con_sound (G := ⟨[], [], [], []⟩) tab_ok EnvOk.nil rfl Tryz.func101 rfl con101 231 (by kernel_rfl) (by decide) (by decide) rfl (by decide) rfl (by
  rintro ⟨(l : List Pce), (i : Int), ⟨⟨(a : Int), (b : Int), (c : Int)⟩, (d : Int), (e : Int)⟩, _⟩ hpre hwf X hT hG hk hK
  obtain ⟨h1, h2, h3⟩ : 0 ≤ i ∧ i ≤ l.length ∧ l.length ≤ 100000 := hpre
  (simp -implicitDefEqProofs only [go_sem, Bool.not_eq_true', Bool.not_eq_false', Bool.or_eq_true, Bool.or_eq_false_iff, Bool.and_eq_true, Bool.and_eq_false_iff, decide_eq_true_eq, decide_eq_false_iff_not, Classical.not_not, not_or, maxLen, con101, hT, hG, hk, hK, Tryz.results101] at hwf ⊢); (try simp (disch := decide +kernel) only [drawn, true_and, and_true])
  clear hwf
  (repeat' (with_reducible (first | refine And.intro ?_ ?_ | intro _))) <;> (try (first | with_reducible (first | done | assumption | omega | contradiction) | decide))
  all_goals first
   | (rw [show ((l.length : Nat) : Int).toNat = l.length by omega, List.take_length]; simp; done)
   | (simp only [List.length_append, List.length_replicate, List.length_take, List.length_drop, List.length_cons, List.length_nil]; omega)
   | fail)
def con73 : Con := { ps := [.d true yCT, .d true yPC, .d false .bool], rs := [.d true yCT, .d false (.int .i64)], pre := fun (x : Cnt × Pce × Bool × Unit) => x.2.2.1 = false, out := fun (x : Cnt × Pce × Bool × Unit) => ((forceV x.1 x.2.1).1, (forceV x.1 x.2.1).2, ()), nw := id }
theorem c73 : CtrOk Tryz.prog 73 con73.ctr :=
 con_sound (G := ⟨[(67, con67.ctr), (94, con94.ctr), (98, con98.ctr), (101, con101.ctr), (99, con99.ctr), (100, con100.ctr)], [], [], []⟩) tab_ok (EnvOk.cons c67 has67 (EnvOk.cons c94 has94 (EnvOk.cons c98 has98 (EnvOk.cons c101 has101 (EnvOk.cons c99 has99 (EnvOk.cons c100 has100 EnvOk.nil)))))) rfl Tryz.func73 rfl con73 18446761685224034271 (by kernel_rfl) (by decide) (by decide) rfl (by decide) rfl (by
  rintro ⟨⟨(n : Int), ⟨a1, (a2 : Int), a3, (a4 : Int)⟩, (c : Int), (lm : Int), (t : Int), (p : Int), (r : Int), (l : List Pce)⟩, ⟨⟨(p1 : Int), (p2 : Int), (p3 : Int)⟩, (p4 : Int), (p5 : Int)⟩, (b : Bool), _⟩ hpre hwf X hT hG hk hK
  have hb : b = false := hpre
  subst hb
  (simp -implicitDefEqProofs only [go_sem, Bool.not_eq_true', Bool.not_eq_false', Bool.or_eq_true, Bool.or_eq_false_iff, Bool.and_eq_true, Bool.and_eq_false_iff, decide_eq_true_eq, decide_eq_false_iff_not, Classical.not_not, not_or, maxLen, con73, con67, con94, con98, con101, con99, con100, hT, hG, hk, hK, Tryz.results73] at hwf ⊢); (try simp (disch := decide +kernel) only [drawn, true_and, and_true])
  clear hwf
  obtain ⟨C, hC⟩ : ∃ C : Cnt, (n, (a1, a2, a3, a4), c, lm, t, p, r, l) = C := ⟨_, rfl⟩
  obtain ⟨x, hx⟩ : ∃ x : Pce, ((p1, p2, p3), p4, p5) = x := ⟨_, rfl⟩
  have hl : C.pcs = l := by rw [← hC]
  have hx1 : (p1, p2, p3) = x.1 := by rw [← hx]
  simp only [hC, hx]
  simp only [hx1]
  refine fun _ => ⟨fun h => ?_, fun h => ⟨fun h2 => ?_, fun h2 => ?_⟩⟩
  · have e : forceV C x = (ct0, ctErr C) := by unfold forceV; rw [if_pos h]
    rw [e]; (and_intros <;> rfl)
  · have e : forceV C x = (ct0, 1) := by unfold forceV; rw [if_neg (by simp [h]), if_pos h2]
    rw [e]; (and_intros <;> rfl)
  · obtain ⟨g1, g2, g3⟩ := ctErr_iff.1 h
    have hsl : PcSrt l := by rw [← hl]; exact g3.srt
    have hll : l.length ≤ 60 := by rw [← hl]; exact g2
    have hpl := posP_le l x.1
    (repeat' (with_reducible (first | refine And.intro ?_ ?_ | intro _))) <;> (try (first | with_reducible (first | done | assumption | omega | contradiction) | decide))
    all_goals first
     | exact hsl
     | (have hq : hasP l x.1 = true := by assumption
        have e : forceV C x = (ct0, 5) := by unfold forceV; rw [if_neg (by simp [h]), if_neg (by simp [h2]), if_pos (by rw [hl]; exact hq)]
        first | (rw [e]; done) | (rw [e]; rfl))
     | (have hq : hasP l x.1 = false := by assumption
        have hq2 : ((l.length : Nat) : Int) ≥ 60 := by assumption
        have e : forceV C x = (ct0, 2) := by unfold forceV; rw [if_neg (by simp [h]), if_neg (by simp [h2]), if_neg (by rw [hl, hq]; simp), if_pos (by rw [hl]; omega)]
        first | (rw [e]; done) | (rw [e]; rfl))
     | (have hq : hasP l x.1 = false := by assumption
        have hq2 : ¬ ((l.length : Nat) : Int) ≥ 60 := by assumption
        have e : forceV C x = (setPcs C (insP C.pcs x), 0) := by unfold forceV; rw [if_neg (by simp [h]), if_neg (by simp [h2]), if_neg (by rw [hl, hq]; simp), if_neg (by rw [hl]; omega)]
        first | (rw [e]; done) | (rw [e]; rfl) | (rw [e]; show _ = insP C.pcs x; rw [hl]; rfl) | (rw [e, ← hC]; rfl))
     | fail)
def con39 : Con := { ps := [.d true yCT, .d true yPC], rs := [.d true yCT, .d false (.int .i64)], pre := fun _ => True, out := fun (x : Cnt × Pce × Unit) => ((forceV x.1 x.2.1).1, (forceV x.1 x.2.1).2, ()), nw := id }
theorem c39 : CtrOk Tryz.prog 39 con39.ctr :=
 con_sound (G := ⟨[(73, con73.ctr)], [], [], []⟩) tab_ok (EnvOk.cons c73 has73 EnvOk.nil) rfl Tryz.func39 rfl con39 63 (by kernel_rfl) (by decide) (by decide) rfl (by decide) rfl (by
  rintro ⟨⟨(n : Int), ⟨a1, (a2 : Int), a3, (a4 : Int)⟩, (c : Int), (lm : Int), (t : Int), (p : Int), (r : Int), (l : List Pce)⟩, ⟨⟨(p1 : Int), (p2 : Int), (p3 : Int)⟩, (p4 : Int), (p5 : Int)⟩, _⟩ hpre hwf X hT hG hk hK
  (simp -implicitDefEqProofs only [go_sem, Bool.not_eq_true', Bool.not_eq_false', Bool.or_eq_true, Bool.or_eq_false_iff, Bool.and_eq_true, Bool.and_eq_false_iff, decide_eq_true_eq, decide_eq_false_iff_not, Classical.not_not, not_or, maxLen, con39, con73, hT, hG, hk, hK, Tryz.results39] at hwf ⊢); (try simp (disch := decide +kernel) only [drawn, true_and, and_true]))
def con79 : Con := { ps := [.d true yCT, .d true yPC], rs := [.d true yCT], pre := fun (x : Cnt × Pce × Unit) => x.1.pcs.length ≤ 100000, out := fun (x : Cnt × Pce × Unit) => (setPcs x.1 (insP x.1.pcs x.2.1), ()), nw := id }
theorem c79 : CtrOk Tryz.prog 79 con79.ctr :=
 con_sound (G := ⟨[(103, con103.ctr)], [], [], []⟩) tab_ok (EnvOk.cons c103 has103 EnvOk.nil) rfl Tryz.func79 rfl con79 8388735 (by kernel_rfl) (by decide) (by decide) rfl (by decide) rfl (by
  rintro ⟨⟨(n : Int), ⟨a1, (a2 : Int), a3, (a4 : Int)⟩, (c : Int), (lm : Int), (t : Int), (p : Int), (r : Int), (l : List Pce)⟩, ⟨⟨(p1 : Int), (p2 : Int), (p3 : Int)⟩, (p4 : Int), (p5 : Int)⟩, _⟩ hpre hwf X hT hG hk hK
  have hl : l.length ≤ 100000 := hpre
  (simp -implicitDefEqProofs only [go_sem, Bool.not_eq_true', Bool.not_eq_false', Bool.or_eq_true, Bool.or_eq_false_iff, Bool.and_eq_true, Bool.and_eq_false_iff, decide_eq_true_eq, decide_eq_false_iff_not, Classical.not_not, not_or, maxLen, con79, con103, hT, hG, hk, hK, Tryz.results79] at hwf ⊢); (try simp (disch := decide +kernel) only [drawn, true_and, and_true])
  clear hwf
  obtain ⟨P, hP⟩ : ∃ P : Plt, P = (p1, p2, p3) := ⟨_, rfl⟩
  refine evk_loop ⟨{ k : Nat // k ≤ l.length ∧ ∀ j, j < k → pltC (l.getD j pc0).1 P < 0 }, 1000, fun q => [(2, .one (.loc 70 0)), (3, .one (.loc 71 0)), (4, .one (.loc 72 0)), (5, .one (.int .i64 q.1))], fun q => [(70, .cells 75 [.int .i64 n, .str a1, .int .i64 a2, .str a3, .int .i64 a4, .int .i64 c, .int .i64 lm, .int .i64 t, .int .i64 p, .int .i64 r, .sl yPC l false]), (71, .cells 54 [.int .i64 p1, .int .i64 p2, .int .i64 p3, .int .i64 p4, .int .i64 p5]), (72, .cells 75 [.int .i64 0, .str ByteArray.empty, .int .i64 0, .str ByteArray.empty, .int .i64 0, .int .i64 0, .int .i64 0, .int .i64 0, .int .i64 0, .int .i64 0, .row 73]), (73, .row 54 yPC [])], fun q => l.length - q.1⟩ ⟨0, Nat.zero_le _, fun j hj => by omega⟩ ?_ ?_
  · simp only [go_sem]
    try (first | rfl | exact ⟨rfl, rfl⟩ | (and_intros <;> first | trivial | rfl | omega))
  · rintro ⟨k, (hk2 : k ≤ l.length), hz⟩
    (simp -implicitDefEqProofs only [go_sem, Bool.not_eq_true', Bool.not_eq_false', Bool.or_eq_true, Bool.or_eq_false_iff, Bool.and_eq_true, Bool.and_eq_false_iff, decide_eq_true_eq, decide_eq_false_iff_not, Classical.not_not, not_or, maxLen, con79, con103, hT, hG, hk, hK, Tryz.results79]); (try simp (disch := decide +kernel) only [drawn, true_and, and_true])
    obtain ⟨o, ho⟩ : ∃ o, l.getD k pc0 = o := ⟨_, rfl⟩
    have eo : l.getD (k : Int).toNat ((0, 0, 0), 0, 0) = o := ho
    have eO : (o.1.1, o.1.2.1, o.1.2.2) = o.1 := rfl
    try simp only [eo, eO, ← hP]
    have hfin : (k < l.length → ¬ pltC o.1 P < 0) → posP l P = k := fun h => posP_at hk2 hz (by rw [ho]; exact h)
    (repeat' (with_reducible (first | refine And.intro ?_ ?_ | intro _))) <;> (try (first | with_reducible (first | done | assumption | omega | contradiction) | decide))
    all_goals first
     | (have hq : (k : Int) < (l.length : Nat) ∧ pltC o.1 P < 0 := by assumption
        have hq1 := hq.1
        refine fin_lp ⟨k + 1, by omega, lt_succ' hz (by rw [ho]; exact hq.2)⟩ (by simp only [go_sem]; first | rfl | ((repeat' apply And.intro) <;> first | rfl | assumption | omega)) (by dsimp only; omega)
        done)
     | rfl
     | (have hx : ¬ (k : Int) < (l.length : Nat) ∨ ¬ pltC o.1 P < 0 := by assumption
        have e := hfin (fun hh hc => by rcases hx with hx | hx; (· omega); (· exact hx hc))
        show _ = insP l (P, p4, p5)
        unfold insP
        rw [e, show ((l.length : Nat) : Int).toNat = l.length by omega, List.take_length]
        simp; done)
     | (simp only [List.length_append, List.length_take, List.length_drop, List.length_cons, List.length_nil]; omega)
     | fail)
def con46 : Con := { ps := [.d true yCT, .d true yPC], rs := [.d true yCT, .d false (.int .i64)], pre := fun _ => True, out := fun (x : Cnt × Pce × Unit) => ((forceV x.1 x.2.1).1, (forceV x.1 x.2.1).2, ()), nw := id }
theorem c46 : CtrOk Tryz.prog 46 con46.ctr :=
 con_sound (G := ⟨[(74, con74.ctr), (78, con78.ctr), (44, con44.ctr), (79, con79.ctr)], [], [], []⟩) tab_ok (EnvOk.cons c74 has74 (EnvOk.cons c78 has78 (EnvOk.cons c44 has44 (EnvOk.cons c79 has79 EnvOk.nil)))) rfl Tryz.func46 rfl con46 34636927 (by kernel_rfl) (by decide) (by decide) rfl (by decide) rfl (by
  rintro ⟨⟨(n : Int), ⟨a1, (a2 : Int), a3, (a4 : Int)⟩, (c : Int), (lm : Int), (t : Int), (p : Int), (r : Int), (l : List Pce)⟩, ⟨⟨(p1 : Int), (p2 : Int), (p3 : Int)⟩, (p4 : Int), (p5 : Int)⟩, _⟩ hpre hwf X hT hG hk hK
  (simp -implicitDefEqProofs only [go_sem, Bool.not_eq_true', Bool.not_eq_false', Bool.or_eq_true, Bool.or_eq_false_iff, Bool.and_eq_true, Bool.and_eq_false_iff, decide_eq_true_eq, decide_eq_false_iff_not, Classical.not_not, not_or, maxLen, con46, con74, con78, con44, con79, hT, hG, hk, hK, Tryz.results46] at hwf ⊢); (try simp (disch := decide +kernel) only [drawn, true_and, and_true])
  clear hwf
  obtain ⟨C, hC⟩ : ∃ C : Cnt, (n, (a1, a2, a3, a4), c, lm, t, p, r, l) = C := ⟨_, rfl⟩
  obtain ⟨x, hx⟩ : ∃ x : Pce, ((p1, p2, p3), p4, p5) = x := ⟨_, rfl⟩
  have hl : C.pcs = l := by rw [← hC]
  have hx1 : (p1, p2, p3) = x.1 := by rw [← hx]
  simp only [hC, hx]
  simp only [hx1, holdsV_has]
  (repeat' (with_reducible (first | refine And.intro ?_ ?_ | intro _))) <;> (try (first | with_reducible (first | done | assumption | omega | contradiction) | decide))
  all_goals first
   | (have h : ¬ ctErr C = 0 := by assumption
      have e : forceV C x = (ct0, ctErr C) := by unfold forceV; rw [if_pos h]
      first | (rw [e]; done) | (rw [e]; rfl))
   | (have h : ctErr C = 0 := by assumption
      have h2 : okPc x = false := by assumption
      have e : forceV C x = (ct0, 1) := by unfold forceV; rw [if_neg (by simp [h]), if_pos h2]
      first | (rw [e]; done) | (rw [e]; rfl))
   | (have h : ctErr C = 0 := by assumption
      have h2 : okPc x = true := by assumption
      have hq : hasP C.pcs x.1 = true := by assumption
      have e : forceV C x = (ct0, 5) := by unfold forceV; rw [if_neg (by simp [h]), if_neg (by simp [h2]), if_pos hq]
      first | (rw [e]; done) | (rw [e]; rfl))
   | (have h : ctErr C = 0 := by assumption
      have h2 : okPc x = true := by assumption
      have hq : hasP C.pcs x.1 = false := by assumption
      have hq2 : ((l.length : Nat) : Int) ≥ 60 := by assumption
      have e : forceV C x = (ct0, 2) := by unfold forceV; rw [if_neg (by simp [h]), if_neg (by simp [h2]), if_neg (by rw [hq]; simp), if_pos (by rw [hl]; omega)]
      first | (rw [e]; done) | (rw [e]; rfl))
   | (have h : ctErr C = 0 := by assumption
      have h2 : okPc x = true := by assumption
      have hq : hasP C.pcs x.1 = false := by assumption
      have hq2 : ¬ ((l.length : Nat) : Int) ≥ 60 := by assumption
      have e : forceV C x = (setPcs C (insP C.pcs x), 0) := by unfold forceV; rw [if_neg (by simp [h]), if_neg (by simp [h2]), if_neg (by rw [hq]; simp), if_neg (by rw [hl]; omega)]
      first | (rw [e]; done) | (rw [e]; rfl) | (rw [hl]; omega) | (rw [e, ← hC]; rfl))
   | fail)
def con45 : Con := { ps := [.d true yCT, .d true yPL], rs := [.d true yCT, .d false (.int .i64)], pre := fun _ => True, out := fun (x : Cnt × Plt × Unit) => ((removeV x.1 x.2.1).1, (removeV x.1 x.2.1).2, ()), nw := id }
theorem c45 : CtrOk Tryz.prog 45 con45.ctr :=
 con_sound (G := ⟨[(74, con74.ctr), (44, con44.ctr)], [], [], []⟩) tab_ok (EnvOk.cons c74 has74 (EnvOk.cons c44 has44 EnvOk.nil)) rfl Tryz.func45 rfl con45 17196913151 (by kernel_rfl) (by decide) (by decide) rfl (by decide) rfl (by
  rintro ⟨⟨(n : Int), ⟨a1, (a2 : Int), a3, (a4 : Int)⟩, (c : Int), (lm : Int), (t : Int), (p : Int), (r : Int), (l : List Pce)⟩, ⟨(p1 : Int), (p2 : Int), (p3 : Int)⟩, _⟩ hpre hwf X hT hG hk hK
  (simp -implicitDefEqProofs only [go_sem, Bool.not_eq_true', Bool.not_eq_false', Bool.or_eq_true, Bool.or_eq_false_iff, Bool.and_eq_true, Bool.and_eq_false_iff, decide_eq_true_eq, decide_eq_false_iff_not, Classical.not_not, not_or, maxLen, con45, con74, con44, hT, hG, hk, hK, Tryz.results45] at hwf ⊢); (try simp (disch := decide +kernel) only [drawn, true_and, and_true])
  clear hwf
  obtain ⟨C, hC⟩ : ∃ C : Cnt, (n, (a1, a2, a3, a4), c, lm, t, p, r, l) = C := ⟨_, rfl⟩
  obtain ⟨x, hx⟩ : ∃ x : Plt, (p1, p2, p3) = x := ⟨_, rfl⟩
  have hl : C.pcs = l := by rw [← hC]
  simp only [hC, hx, holdsV_has]
  (repeat' (with_reducible (first | refine And.intro ?_ ?_ | intro _))) <;> (try (first | with_reducible (first | done | assumption | omega | contradiction) | decide))
  all_goals first
   | (have h : ¬ ctErr C = 0 := by assumption
      have e : removeV C x = (ct0, ctErr C) := by unfold removeV; rw [if_pos h]
      first | (rw [e]; done) | (rw [e]; rfl))
   | (have h : ctErr C = 0 := by assumption
      have hq : hasP C.pcs x = false := by assumption
      have e : removeV C x = (ct0, 6) := by unfold removeV; rw [if_neg (by simp [h]), if_pos hq]
      first | (rw [e]; done) | (rw [e]; rfl))
   | (have h : ctErr C = 0 := by assumption
      have hq : hasP C.pcs x = true := by assumption
      have hll : l.length ≤ 60 := by rw [← hl]; exact (ctErr_iff.1 h).2.1
      have e : removeV C x = (setPcs C (remP C.pcs x), 0) := by unfold removeV; rw [if_neg (by simp [h]), if_neg (by simp [hq])]
      refine evk_loop ⟨{ i : Nat // i ≤ l.length }, 1000, fun q => [(2, .one (.loc 70 0)), (3, .one (.loc 71 0)), (4, .one (.loc 72 0)), (7, .one (.row 74)), (8, .one (.int .i64 q.1))], fun q => [(70, .cells 75 [.int .i64 n, .str a1, .int .i64 a2, .str a3, .int .i64 a4, .int .i64 c, .int .i64 lm, .int .i64 t, .int .i64 p, .int .i64 r, .sl yPC l false]), (71, .cells 52 [.int .i64 p1, .int .i64 p2, .int .i64 p3]), (72, .cells 75 [.int .i64 0, .str ByteArray.empty, .int .i64 0, .str ByteArray.empty, .int .i64 0, .int .i64 0, .int .i64 0, .int .i64 0, .int .i64 0, .int .i64 0, .row 73]), (73, .row 54 yPC []), (74, .row 54 yPC (remP (l.take q.1) x))], fun q => l.length - q.1⟩ ⟨0, Nat.zero_le _⟩ ?_ ?_
      · simp only [go_sem]
        try (first | rfl | exact ⟨rfl, rfl⟩ | (and_intros <;> first | trivial | rfl | omega))
      · rintro ⟨i, (hi : i ≤ l.length)⟩
        (simp -implicitDefEqProofs only [go_sem, Bool.not_eq_true', Bool.not_eq_false', Bool.or_eq_true, Bool.or_eq_false_iff, Bool.and_eq_true, Bool.and_eq_false_iff, decide_eq_true_eq, decide_eq_false_iff_not, Classical.not_not, not_or, maxLen, con45, con74, con44, hT, hG, hk, hK, Tryz.results45]); (try simp (disch := decide +kernel) only [drawn, true_and, and_true])
        obtain ⟨o, ho⟩ : ∃ o, l.getD i pc0 = o := ⟨_, rfl⟩
        have eo : l.getD (i : Int).toNat ((0, 0, 0), 0, 0) = o := ho
        try simp only [eo]
        try simp only [hC, hx]
        have hrl : (remP (l.take i) x).length ≤ l.length := Nat.le_trans (List.length_filter_le _ _) (by rw [List.length_take]; omega)
        have hrs : i < l.length → remP (l.take (i + 1)) x = remP (l.take i) x ++ (if o.1 = x then [] else [o]) := fun h => by
         unfold remP
         rw [List.take_succ_eq_append_getElem h, List.filter_append, ← getD_lt (d := pc0) h, ho]
         by_cases q : o.1 = x
         · rw [if_pos q, List.filter_cons_of_neg (by simp [q])]; rfl
         · rw [if_neg q, List.filter_cons_of_pos (by simp [q])]; rfl
        (repeat' (with_reducible (first | refine And.intro ?_ ?_ | intro _))) <;> (try (first | with_reducible (first | done | assumption | omega | contradiction) | decide))
        all_goals first
         | (have hq : ¬ o.1.1 = p1 ∨ ¬ o.1.2.1 = p2 ∨ ¬ o.1.2.2 = p3 := by assumption
            have hn : ¬ o.1 = x := by rw [← hx]; exact (pltN o.1 (p1, p2, p3)).mp hq
            have e1 := hrs (by omega)
            rw [if_neg hn] at e1
            refine fin_lp ⟨i + 1, by omega⟩ ?_ (by dsimp only; omega)
            simp only [go_sem]
            rw [e1]
            try (first | rfl | exact ⟨rfl, rfl⟩ | (and_intros <;> first | trivial | rfl | omega))
            done)
         | (have hq : o.1.1 = p1 ∧ o.1.2.1 = p2 ∧ o.1.2.2 = p3 := by assumption
            have hn : o.1 = x := by rw [← hx]; exact (pltE o.1 (p1, p2, p3)).mp hq
            have e1 := hrs (by omega)
            rw [if_pos hn, List.append_nil] at e1
            refine fin_lp ⟨i + 1, by omega⟩ ?_ (by dsimp only; omega)
            simp only [go_sem]
            rw [e1]
            try (first | rfl | exact ⟨rfl, rfl⟩ | (and_intros <;> first | trivial | rfl | omega))
            done)
         | (rw [e]; done)
         | (rw [e]; rfl)
         | (rw [e, ← hC]; rfl)
         | (have e4 : l.take i = l := List.take_of_length_le (by omega)
            rw [e, e4]
            show _ = remP C.pcs x
            rw [hl])
         | fail)
   | fail)
def con42 : Con := { ps := [.d false (.sl yCT)], rs := [.o 75 yCT], pre := fun (x : List Cnt × Unit) => x.1.length ≤ 1000 ∧ ∀ o ∈ x.1, o.pcs.length ≤ 100000, out := fun (x : List Cnt × Unit) => (x.1, ()), nw := id }
theorem c42 : CtrOk Tryz.prog 42 con42.ctr :=
 con_sound (G := ⟨[], [], [], []⟩) tab_ok EnvOk.nil rfl Tryz.func42 rfl con42 573 (by kernel_rfl) (by decide) (by decide) rfl (by decide) rfl (by
  rintro ⟨(l : List Cnt), _⟩ hpre hwf X hT hG hk hK
  obtain ⟨hl, hlo⟩ : l.length ≤ 1000 ∧ ∀ o ∈ l, o.pcs.length ≤ 100000 := hpre
  (simp -implicitDefEqProofs only [go_sem, Bool.not_eq_true', Bool.not_eq_false', Bool.or_eq_true, Bool.or_eq_false_iff, Bool.and_eq_true, Bool.and_eq_false_iff, decide_eq_true_eq, decide_eq_false_iff_not, Classical.not_not, not_or, maxLen, con42, hT, hG, hk, hK, Tryz.results42] at hwf ⊢); (try simp (disch := decide +kernel) only [drawn, true_and, and_true])
  clear hwf
  refine evk_loop ⟨{ i : Nat // i ≤ l.length }, 1000, fun q => [(0, .one (.sl yCT l false)), (3, .one (.row 64)), (4, .one (.int .i64 q.1))], fun q => [(64, .row 75 yCT (l.take q.1))], fun q => l.length - q.1⟩ ⟨0, Nat.zero_le _⟩ ?_ ?_
  · simp only [go_sem]
    try (first | rfl | exact ⟨rfl, rfl⟩ | (and_intros <;> first | trivial | rfl | omega))
  · rintro ⟨i, (hi : i ≤ l.length)⟩
    (simp -implicitDefEqProofs only [go_sem, Bool.not_eq_true', Bool.not_eq_false', Bool.or_eq_true, Bool.or_eq_false_iff, Bool.and_eq_true, Bool.and_eq_false_iff, decide_eq_true_eq, decide_eq_false_iff_not, Classical.not_not, not_or, maxLen, con42, hT, hG, hk, hK, Tryz.results42]); (try simp (disch := decide +kernel) only [drawn, true_and, and_true])
    obtain ⟨o, ho⟩ : ∃ o, l.getD i ct0 = o := ⟨_, rfl⟩
    have eo : l.getD (i : Int).toNat (0, (ByteArray.empty, 0, ByteArray.empty, 0), 0, 0, 0, 0, 0, []) = o := ho
    try simp only [eo]
    have hts : i < l.length → l.take (i + 1) = l.take i ++ [o] := fun h => by rw [List.take_succ_eq_append_getElem h, ← getD_lt (d := ct0) h, ho]
    have htl : (l.take i).length ≤ l.length := by rw [List.length_take]; omega
    have hop : i < l.length → o.pcs.length ≤ 100000 := fun h => hlo o (by rw [← ho]; exact getD_mem h)
    (repeat' (with_reducible (first | refine And.intro ?_ ?_ | intro _))) <;> (try (first | with_reducible (first | done | assumption | omega | contradiction) | decide))
    all_goals first
     | (have e1 := hts (by omega)
        refine fin_lp ⟨i + 1, by omega⟩ ?_ (by dsimp only; omega)
        simp only [go_sem]
        rw [e1]
        try (first | rfl | exact ⟨rfl, rfl⟩ | (and_intros <;> first | trivial | rfl | omega))
        done)
     | (rw [List.take_of_length_le (by omega)]; done)
     | (have h5 : List.length o.2.2.2.2.2.2.2 ≤ 100000 := hop (by omega)
        omega)
     | fail)
end Go.Proofs.YthiddcobegnokaaGreat
