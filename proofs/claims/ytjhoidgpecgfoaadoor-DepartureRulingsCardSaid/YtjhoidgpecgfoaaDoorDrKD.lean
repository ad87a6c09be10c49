/- Departures: the schedule, the rulings, the doubts. -/
import Derived.Test.YtjhoidgpecgfoaaDoorDrKcToKe
set_option linter.unusedSimpArgs false
set_option linter.unusedVariables false
set_option maxRecDepth 100000
set_option maxHeartbeats 4000000
namespace Go.Proofs.YtjhoidgpecgfoaaDoor
open Go.Ev

abbrev Dpt := Flt × ByteArray × Int × Int × Int × Int × Int
abbrev Rlg := Plt × Bool × Int × Int
abbrev Plm := Pce × Int × List Int
def dp0 : Dpt := ((ByteArray.empty, 0, ByteArray.empty, 0), ByteArray.empty, 0, 0, 0, 0, 0)
def rl0 : Rlg := ((0, 0, 0), false, 0, 0)
def pm0 : Plm := (((0, 0, 0), 0, 0), 0, [])
instance kdPlD : DecidableEq Plt := instDecidableEqProd
instance kdG1 : DecidableEq (ByteArray × Int) := instDecidableEqProd
instance kdG2 : DecidableEq (Int × ByteArray × Int) := instDecidableEqProd
instance kdFltD : DecidableEq Flt := instDecidableEqProd
theorem fltE (a b : Flt) : (a.1 = b.1 ∧ a.2.1 = b.2.1 ∧ a.2.2.1 = b.2.2.1 ∧ a.2.2.2 = b.2.2.2) = (a = b) := by
 rw [eq_iff_iff]; exact ⟨fun h => Prod.ext h.1 (Prod.ext h.2.1 (Prod.ext h.2.2.1 h.2.2.2)), fun h => by rw [h]; exact ⟨rfl, rfl, rfl, rfl⟩⟩
theorem fltN (a b : Flt) : (¬ a.1 = b.1 ∨ ¬ a.2.1 = b.2.1 ∨ ¬ a.2.2.1 = b.2.2.1 ∨ ¬ a.2.2.2 = b.2.2.2) = (¬ a = b) := by
 rw [← fltE, eq_iff_iff]
 by_cases h1 : a.1 = b.1 <;> by_cases h2 : a.2.1 = b.2.1 <;> by_cases h3 : a.2.2.1 = b.2.2.1 <;> by_cases h4 : a.2.2.2 = b.2.2.2 <;> simp [h1, h2, h3, h4]
theorem pltE (a b : Plt) : (a.1 = b.1 ∧ a.2.1 = b.2.1 ∧ a.2.2 = b.2.2) = (a = b) := by
 rw [eq_iff_iff]; exact ⟨fun h => Prod.ext h.1 (Prod.ext h.2.1 h.2.2), fun h => by rw [h]; exact ⟨rfl, rfl, rfl⟩⟩
theorem pltN (a b : Plt) : (¬ a.1 = b.1 ∨ ¬ a.2.1 = b.2.1 ∨ ¬ a.2.2 = b.2.2) = (¬ a = b) := by
 rw [← pltE, eq_iff_iff]
 by_cases h1 : a.1 = b.1 <;> by_cases h2 : a.2.1 = b.2.1 <;> by_cases h3 : a.2.2 = b.2.2 <;> simp [h1, h2, h3]
/-- Where a flight stands in a schedule. -/
def dpIdx (l : List Dpt) (f : Flt) : Int := idxV (fun d => decide (d.1 = f)) l
def closedV (d : Dpt) (now : Int) : Bool := decide (d.2.2.2.2.2.2 ≠ 0) || decide (now ≥ d.2.2.2.1)
def stateV (l : List Dpt) (f : Flt) (now : Int) : Int :=
 if dpIdx l f < 0 then 1 else if (l.getD (dpIdx l f).toNat dp0).2.2.2.2.2.2 ≠ 0 then 2 else if closedV (l.getD (dpIdx l f).toNat dp0) now = false then 3 else 0
def rlIdx (r : List Rlg) (x : Plt) : Int := idxV (fun y => decide (y.1 = x)) r
def mayV (r : List Rlg) (x : Plt) : Bool := if 0 ≤ rlIdx r x then (r.getD (rlIdx r x).toNat rl0).2.1 else false
def reasonV (r : List Rlg) (x : Plt) : Int := if 0 ≤ rlIdx r x then (r.getD (rlIdx r x).toNat rl0).2.2.2 else 1
def uncP (x : Plt) (y : Plm) : Bool := decide (y.1.1 = x) && decide ((y.2.2.length : Int) > 1)
def uncV (p : List Plm) (x : Plt) : Bool := p.any (uncP x)
def con42 : Con := { ps := [.d false (.sl yDP), .d true yFL], rs := [.d false (.int .i64)], pre := fun _ => True, out := fun (x : List Dpt × Flt × Unit) => (dpIdx x.1 x.2.1, ()), nw := id }
theorem c42 : CtrOk Tryd.prog 42 con42.ctr :=
 con_sound (G := ⟨[], [], [], [], []⟩) tab_ok EnvOk.nil rfl Tryd.func42 rfl con42 133115 (by kernel_rfl) (by decide) (by decide) rfl (by decide) rfl (by
  rintro ⟨(l : List Dpt), ⟨f1, (f2 : Int), f3, (f4 : Int)⟩, _⟩ hpre hwf X hT hG hk hK
  (simp -implicitDefEqProofs (maxSteps := 4000000) only [go_sem, Bool.not_eq_true', Bool.not_eq_false', Bool.or_eq_true, Bool.or_eq_false_iff, Bool.and_eq_true, Bool.and_eq_false_iff, decide_eq_true_eq, decide_eq_false_iff_not, Classical.not_not, not_or, maxLen, con42, hT, hG, hk, hK, Tryd.results42] at hwf ⊢); (try simp (disch := decide +kernel) only [drawn, true_and, and_true])
  clear hwf
  refine fun _ => evk_loop ⟨{ i : Nat // i ≤ l.length ∧ ∀ k, k < i → (fun d : Dpt => decide (d.1 = (f1, f2, f3, f4))) (l.getD k dp0) = false }, 1000, fun q => [(3, .one (.loc 70 0)), (4, .one (.int .i64 0)), (7, .one (.sl yDP l false)), (8, .one (.int .i64 l.length)), (9, .one (.int .i64 q.1))], fun q => [(70, .cells 36 [.str f1, .int .i64 f2, .str f3, .int .i64 f4])], fun q => l.length - q.1⟩ ⟨0, by omega, fun k hk => by omega⟩ ?_ ?_
  · simp only [go_sem]
    try (first | rfl | exact ⟨rfl, rfl⟩ | (and_intros <;> first | trivial | rfl | omega))
  · rintro ⟨i, (hi : i ≤ l.length), hz⟩
    (simp -implicitDefEqProofs (maxSteps := 4000000) only [go_sem, Bool.not_eq_true', Bool.not_eq_false', Bool.or_eq_true, Bool.or_eq_false_iff, Bool.and_eq_true, Bool.and_eq_false_iff, decide_eq_true_eq, decide_eq_false_iff_not, Classical.not_not, not_or, maxLen, con42, hT, hG, hk, hK, Tryd.results42]); (try simp (disch := decide +kernel) only [drawn, true_and, and_true])
    obtain ⟨o, ho⟩ : ∃ o, l.getD i dp0 = o := ⟨_, rfl⟩
    have eo : l.getD (i : Int).toNat ((ByteArray.empty, 0, ByteArray.empty, 0), ByteArray.empty, 0, 0, 0, 0, 0) = o := ho
    rw [eo]
    (repeat' (with_reducible (first | refine And.intro ?_ ?_ | intro _))) <;> (try (first | with_reducible (first | done | assumption | omega | contradiction) | decide))
    all_goals first
     | (have h : o.1.1 = f1 ∧ o.1.2.1 = f2 ∧ o.1.2.2.1 = f3 ∧ o.1.2.2.2 = f4 := by assumption
        exact (idxV_at (d := dp0) hz (by omega) (by show decide ((l.getD i dp0).1 = _) = true; rw [ho]; exact decide_eq_true ((fltE o.1 (f1, f2, f3, f4)).mp h))).symm)
     | (have h : ¬ o.1.1 = f1 ∨ ¬ o.1.2.1 = f2 ∨ ¬ o.1.2.2.1 = f3 ∨ ¬ o.1.2.2.2 = f4 := by assumption
        refine fin_lp ⟨i + 1, by omega, lt_succ hz (by show decide ((l.getD i dp0).1 = _) = false; rw [ho]; exact decide_eq_false ((fltN o.1 (f1, f2, f3, f4)).mp h))⟩ (by simp only [go_sem]; first | rfl | ((repeat' apply And.intro) <;> first | rfl | assumption | omega)) (by dsimp only; omega)
        done)
     | exact (idxV_none (d := dp0) fun k hk => hz k (by omega)).symm)
def con43 : Con := { ps := [.d true yDP, .d false (.int .i64)], rs := [.d false .bool], pre := fun _ => True, out := fun (x : Dpt × Int × Unit) => (closedV x.1 x.2.1, ()), nw := id }
theorem c43 : CtrOk Tryd.prog 43 con43.ctr :=
 con_sound (G := ⟨[], [], [], [], []⟩) tab_ok EnvOk.nil rfl Tryd.func43 rfl con43 23 (by kernel_rfl) (by decide) (by decide) rfl (by decide) rfl (by
  rintro ⟨⟨⟨f1, (f2 : Int), f3, (f4 : Int)⟩, a, (b : Int), (c : Int), (d : Int), (e : Int), (s : Int)⟩, (now : Int), _⟩ hpre hwf X hT hG hk hK
  (simp -implicitDefEqProofs (maxSteps := 4000000) only [go_sem, Bool.not_eq_true', Bool.not_eq_false', Bool.or_eq_true, Bool.or_eq_false_iff, Bool.and_eq_true, Bool.and_eq_false_iff, decide_eq_true_eq, decide_eq_false_iff_not, Classical.not_not, not_or, maxLen, con43, hT, hG, hk, hK, Tryd.results43] at hwf ⊢); (try simp (disch := decide +kernel) only [drawn, true_and, and_true])
  unfold closedV
  try simp only [ne_eq, decide_not]
  all_goals first | done | rfl | (and_intros <;> first | trivial | rfl) | skip)
theorem dpIdx_lt {l : List Dpt} {f : Flt} (h : ¬ dpIdx l f < 0) : (dpIdx l f).toNat < l.length := (idxV_spec (p := fun d : Dpt => decide (d.1 = f)) (d := dp0) (Int.not_lt.1 h)).1
def con33 : Con := { ps := [.d false (.sl yDP), .d true yFL, .d false (.int .i64)], rs := [.d false (.int .i64)], pre := fun _ => True, out := fun (x : List Dpt × Flt × Int × Unit) => (stateV x.1 x.2.1 x.2.2.1, ()), nw := id }
theorem c33 : CtrOk Tryd.prog 33 con33.ctr :=
 con_sound (G := ⟨[(42, con42.ctr), (43, con43.ctr)], [], [], [], []⟩) tab_ok (EnvOk.cons c42 has42 (EnvOk.cons c43 has43 EnvOk.nil)) rfl Tryd.func33 rfl con33 2115799 (by kernel_rfl) (by decide) (by decide) rfl (by decide) rfl (by
  rintro ⟨(l : List Dpt), ⟨f1, (f2 : Int), f3, (f4 : Int)⟩, (now : Int), _⟩ hpre hwf X hT hG hk hK
  (simp -implicitDefEqProofs (maxSteps := 4000000) only [go_sem, Bool.not_eq_true', Bool.not_eq_false', Bool.or_eq_true, Bool.or_eq_false_iff, Bool.and_eq_true, Bool.and_eq_false_iff, decide_eq_true_eq, decide_eq_false_iff_not, Classical.not_not, not_or, maxLen, con33, con42, con43, hT, hG, hk, hK, Tryd.results33] at hwf ⊢); (try simp (disch := decide +kernel) only [drawn, true_and, and_true])
  clear hwf
  have hlt := dpIdx_lt (l := l) (f := (f1, f2, f3, f4))
  unfold stateV
  generalize dpIdx l (f1, f2, f3, f4) = i at hlt ⊢
  obtain ⟨o, ho⟩ : ∃ o, l.getD i.toNat dp0 = o := ⟨_, rfl⟩
  have eo : l.getD i.toNat ((ByteArray.empty, 0, ByteArray.empty, 0), ByteArray.empty, 0, 0, 0, 0, 0) = o := ho
  have eO : ((o.1.1, o.1.2.1, o.1.2.2.1, o.1.2.2.2), o.2.1, o.2.2.1, o.2.2.2.1, o.2.2.2.2.1, o.2.2.2.2.2.1, o.2.2.2.2.2.2) = o := rfl
  rw [ho]
  try simp only [eo, eO]
  (repeat' (with_reducible (first | refine And.intro ?_ ?_ | intro _))) <;> (try (first | with_reducible (first | done | assumption | omega | contradiction) | decide))
  all_goals first
   | (rw [if_pos (by assumption)]; done)
   | (rw [if_neg (by assumption), if_pos (by assumption)]; done)
   | (rw [if_neg (by assumption), if_neg (by simp only [ne_eq, Classical.not_not]; assumption), if_pos (by assumption)]; done)
   | (rw [if_neg (by assumption), if_neg (by simp only [ne_eq, Classical.not_not]; assumption), if_neg (by simp only [Bool.not_eq_false]; assumption)]; done)
   | (have := hlt (by assumption); omega)
   | skip)
theorem eo2 {l : List Rlg} {i : Nat} {o : Rlg} (h : l.getD i rl0 = o) : l.getD (i : Int).toNat rl0 = o := h
def con35 : Con := { ps := [.d false (.sl yRU), .d true yPL], rs := [.d false .bool], pre := fun _ => True, out := fun (x : List Rlg × Plt × Unit) => (mayV x.1 x.2.1, ()), nw := id }
theorem c35 : CtrOk Tryd.prog 35 con35.ctr :=
 con_sound (G := ⟨[], [], [], [], []⟩) tab_ok EnvOk.nil rfl Tryd.func35 rfl con35 67547 (by kernel_rfl) (by decide) (by decide) rfl (by decide) rfl (by
  rintro ⟨(l : List Rlg), ⟨(p1 : Int), (p2 : Int), (p3 : Int)⟩, _⟩ hpre hwf X hT hG hk hK
  (simp -implicitDefEqProofs (maxSteps := 4000000) only [go_sem, Bool.not_eq_true', Bool.not_eq_false', Bool.or_eq_true, Bool.or_eq_false_iff, Bool.and_eq_true, Bool.and_eq_false_iff, decide_eq_true_eq, decide_eq_false_iff_not, Classical.not_not, not_or, maxLen, con35, hT, hG, hk, hK, Tryd.results35] at hwf ⊢); (try simp (disch := decide +kernel) only [drawn, true_and, and_true])
  clear hwf
  refine fun _ => evk_loop ⟨{ i : Nat // i ≤ l.length ∧ ∀ k, k < i → (fun d : Rlg => decide (d.1 = (p1, p2, p3))) (l.getD k rl0) = false }, 1000, fun q => [(3, .one (.loc 70 0)), (4, .one (.bool false)), (7, .one (.sl yRU l false)), (8, .one (.int .i64 l.length)), (9, .one (.int .i64 q.1))], fun q => [(70, .cells 34 [.int .i64 p1, .int .i64 p2, .int .i64 p3])], fun q => l.length - q.1⟩ ⟨0, by omega, fun k hk => by omega⟩ ?_ ?_
  · simp only [go_sem]
    try (first | rfl | exact ⟨rfl, rfl⟩ | (and_intros <;> first | trivial | rfl | omega))
  · rintro ⟨i, (hi : i ≤ l.length), hz⟩
    (simp -implicitDefEqProofs (maxSteps := 4000000) only [go_sem, Bool.not_eq_true', Bool.not_eq_false', Bool.or_eq_true, Bool.or_eq_false_iff, Bool.and_eq_true, Bool.and_eq_false_iff, decide_eq_true_eq, decide_eq_false_iff_not, Classical.not_not, not_or, maxLen, con35, hT, hG, hk, hK, Tryd.results35]); (try simp (disch := decide +kernel) only [drawn, true_and, and_true])
    obtain ⟨o, ho⟩ : ∃ o, l.getD i rl0 = o := ⟨_, rfl⟩
    have eo : l.getD (i : Int).toNat ((0, 0, 0), false, 0, 0) = o := ho
    rw [eo]
    (repeat' (with_reducible (first | refine And.intro ?_ ?_ | intro _))) <;> (try (first | with_reducible (first | done | assumption | omega | contradiction) | decide))
    all_goals first
     | (have h : o.1.1 = p1 ∧ o.1.2.1 = p2 ∧ o.1.2.2 = p3 := by assumption
        have e : rlIdx l (p1, p2, p3) = i := idxV_at (d := rl0) hz (by omega) (by show decide ((l.getD i rl0).1 = _) = true; rw [ho]; exact decide_eq_true ((pltE o.1 (p1, p2, p3)).mp h))
        unfold mayV
        rw [e, if_pos (by omega), eo2 ho]; done)
     | (have h : ¬ o.1.1 = p1 ∨ ¬ o.1.2.1 = p2 ∨ ¬ o.1.2.2 = p3 := by assumption
        refine fin_lp ⟨i + 1, by omega, lt_succ hz (by show decide ((l.getD i rl0).1 = _) = false; rw [ho]; exact decide_eq_false ((pltN o.1 (p1, p2, p3)).mp h))⟩ (by simp only [go_sem]; first | rfl | ((repeat' apply And.intro) <;> first | rfl | assumption | omega)) (by dsimp only; omega)
        done)
     | (have e : rlIdx l (p1, p2, p3) = -1 := idxV_none (d := rl0) fun k hk => hz k (by omega)
        unfold mayV
        rw [e, if_neg (by omega)]))
def con36 : Con := { ps := [.d false (.sl yRU), .d true yPL], rs := [.d false (.int .i64)], pre := fun _ => True, out := fun (x : List Rlg × Plt × Unit) => (reasonV x.1 x.2.1, ()), nw := id }
theorem c36 : CtrOk Tryd.prog 36 con36.ctr :=
 con_sound (G := ⟨[], [], [], [], []⟩) tab_ok EnvOk.nil rfl Tryd.func36 rfl con36 67547 (by kernel_rfl) (by decide) (by decide) rfl (by decide) rfl (by
  rintro ⟨(l : List Rlg), ⟨(p1 : Int), (p2 : Int), (p3 : Int)⟩, _⟩ hpre hwf X hT hG hk hK
  (simp -implicitDefEqProofs (maxSteps := 4000000) only [go_sem, Bool.not_eq_true', Bool.not_eq_false', Bool.or_eq_true, Bool.or_eq_false_iff, Bool.and_eq_true, Bool.and_eq_false_iff, decide_eq_true_eq, decide_eq_false_iff_not, Classical.not_not, not_or, maxLen, con36, hT, hG, hk, hK, Tryd.results36] at hwf ⊢); (try simp (disch := decide +kernel) only [drawn, true_and, and_true])
  clear hwf
  refine fun _ => evk_loop ⟨{ i : Nat // i ≤ l.length ∧ ∀ k, k < i → (fun d : Rlg => decide (d.1 = (p1, p2, p3))) (l.getD k rl0) = false }, 1000, fun q => [(3, .one (.loc 70 0)), (4, .one (.int .i64 0)), (7, .one (.sl yRU l false)), (8, .one (.int .i64 l.length)), (9, .one (.int .i64 q.1))], fun q => [(70, .cells 34 [.int .i64 p1, .int .i64 p2, .int .i64 p3])], fun q => l.length - q.1⟩ ⟨0, by omega, fun k hk => by omega⟩ ?_ ?_
  · simp only [go_sem]
    try (first | rfl | exact ⟨rfl, rfl⟩ | (and_intros <;> first | trivial | rfl | omega))
  · rintro ⟨i, (hi : i ≤ l.length), hz⟩
    (simp -implicitDefEqProofs (maxSteps := 4000000) only [go_sem, Bool.not_eq_true', Bool.not_eq_false', Bool.or_eq_true, Bool.or_eq_false_iff, Bool.and_eq_true, Bool.and_eq_false_iff, decide_eq_true_eq, decide_eq_false_iff_not, Classical.not_not, not_or, maxLen, con36, hT, hG, hk, hK, Tryd.results36]); (try simp (disch := decide +kernel) only [drawn, true_and, and_true])
    obtain ⟨o, ho⟩ : ∃ o, l.getD i rl0 = o := ⟨_, rfl⟩
    have eo : l.getD (i : Int).toNat ((0, 0, 0), false, 0, 0) = o := ho
    rw [eo]
    (repeat' (with_reducible (first | refine And.intro ?_ ?_ | intro _))) <;> (try (first | with_reducible (first | done | assumption | omega | contradiction) | decide))
    all_goals first
     | (have h : o.1.1 = p1 ∧ o.1.2.1 = p2 ∧ o.1.2.2 = p3 := by assumption
        have e : rlIdx l (p1, p2, p3) = i := idxV_at (d := rl0) hz (by omega) (by show decide ((l.getD i rl0).1 = _) = true; rw [ho]; exact decide_eq_true ((pltE o.1 (p1, p2, p3)).mp h))
        unfold reasonV
        rw [e, if_pos (by omega), eo2 ho]; done)
     | (have h : ¬ o.1.1 = p1 ∨ ¬ o.1.2.1 = p2 ∨ ¬ o.1.2.2 = p3 := by assumption
        refine fin_lp ⟨i + 1, by omega, lt_succ hz (by show decide ((l.getD i rl0).1 = _) = false; rw [ho]; exact decide_eq_false ((pltN o.1 (p1, p2, p3)).mp h))⟩ (by simp only [go_sem]; first | rfl | ((repeat' apply And.intro) <;> first | rfl | assumption | omega)) (by dsimp only; omega)
        done)
     | (have e : rlIdx l (p1, p2, p3) = -1 := idxV_none (d := rl0) fun k hk => hz k (by omega)
        unfold reasonV
        rw [e, if_neg (by omega)]))
def con51 : Con := { ps := [.d true yPM, .p 34 yPL], rs := [.d false .bool], pre := fun _ => True, out := fun (x : Plm × Plt × Unit) => (uncP x.2.1 x.1, ()), nw := id }
theorem c51 : CtrOk Tryd.prog 51 con51.ctr :=
 con_sound (G := ⟨[], [], [], [], []⟩) tab_ok EnvOk.nil rfl Tryd.func51 rfl con51 15 (by kernel_rfl) (by decide) (by decide) rfl (by decide) rfl (by
  rintro ⟨⟨⟨⟨(a1 : Int), (a2 : Int), (a3 : Int)⟩, (a4 : Int), (a5 : Int)⟩, (b : Int), (l : List Int)⟩, ⟨(p1 : Int), (p2 : Int), (p3 : Int)⟩, _⟩ hpre hwf X hT hG hk hK
  (simp -implicitDefEqProofs (maxSteps := 4000000) only [go_sem, Bool.not_eq_true', Bool.not_eq_false', Bool.or_eq_true, Bool.or_eq_false_iff, Bool.and_eq_true, Bool.and_eq_false_iff, decide_eq_true_eq, decide_eq_false_iff_not, Classical.not_not, not_or, maxLen, con51, hT, hG, hk, hK, Tryd.results51] at hwf ⊢); (try simp (disch := decide +kernel) only [drawn, true_and, and_true])
  unfold uncP
  intro _
  rw [Bool.eq_iff_iff]
  simp [Prod.ext_iff, and_assoc])
def con69 : Con := { ps := [.d false (.sl yPM), .cl 51 [.p 34 yPL]], rs := [.d false (.int .i64)], pre := fun _ => True, out := fun (x : List Plm × (Plt × Unit) × Unit) => (idxV (uncP x.2.1.1) x.1, ()), nw := id }
theorem c69 : CtrOk Tryd.prog 69 con69.ctr :=
 con_sound (G := ⟨[(51, con51.ctr)], [], [], [], []⟩) tab_ok (EnvOk.cons c51 has51 EnvOk.nil) rfl Tryd.func69 rfl con69 66483 (by kernel_rfl) (by decide) (by decide) rfl (by decide) rfl (by
  rintro ⟨(l : List Plm), ⟨⟨(p1 : Int), (p2 : Int), (p3 : Int)⟩, _⟩, _⟩ hpre hwf X hT hG hk hK
  (simp -implicitDefEqProofs (maxSteps := 4000000) only [go_sem, Bool.not_eq_true', Bool.not_eq_false', Bool.or_eq_true, Bool.or_eq_false_iff, Bool.and_eq_true, Bool.and_eq_false_iff, decide_eq_true_eq, decide_eq_false_iff_not, Classical.not_not, not_or, maxLen, con69, con51, hT, hG, hk, hK, Tryd.results69] at hwf ⊢); (try simp (disch := decide +kernel) only [drawn, true_and, and_true])
  clear hwf
  refine fun _ => evk_loop ⟨{ i : Nat // i ≤ l.length ∧ ∀ k, k < i → uncP (p1, p2, p3) (l.getD k pm0) = false }, 1000, fun q => [(0, .one (.sl yPM l false)), (1, .one (.fn 51 [.loc 12 0])), (4, .one (.int .i64 0)), (7, .one (.int .i64 l.length)), (8, .one (.int .i64 q.1))], fun q => [(12, .cells 34 [.int .i64 p1, .int .i64 p2, .int .i64 p3])], fun q => l.length - q.1⟩ ⟨0, by omega, fun k hk => by omega⟩ ?_ ?_
  · simp only [go_sem]
    try (first | rfl | exact ⟨rfl, rfl⟩ | (and_intros <;> first | trivial | rfl | omega))
  · rintro ⟨i, (hi : i ≤ l.length), hz⟩
    (simp -implicitDefEqProofs (maxSteps := 4000000) only [go_sem, Bool.not_eq_true', Bool.not_eq_false', Bool.or_eq_true, Bool.or_eq_false_iff, Bool.and_eq_true, Bool.and_eq_false_iff, decide_eq_true_eq, decide_eq_false_iff_not, Classical.not_not, not_or, maxLen, con69, con51, hT, hG, hk, hK, Tryd.results69]); (try simp (disch := decide +kernel) only [drawn, true_and, and_true])
    obtain ⟨o, ho⟩ : ∃ o, l.getD i pm0 = o := ⟨_, rfl⟩
    have eo : l.getD (i : Int).toNat (((0, 0, 0), 0, 0), 0, []) = o := ho
    rw [eo]
    have eO : (((o.1.1.1, o.1.1.2.1, o.1.1.2.2), o.1.2.1, o.1.2.2), o.2.1, o.2.2) = o := rfl
    try simp only [eO]
    (repeat' (with_reducible (first | refine And.intro ?_ ?_ | intro _))) <;> (try (first | with_reducible (first | done | assumption | omega | contradiction) | decide))
    all_goals first
     | (have h : uncP (p1, p2, p3) o = true := by assumption
        exact (idxV_at (d := pm0) hz (by omega) (by rw [ho]; exact h)).symm)
     | (have h : uncP (p1, p2, p3) o = false := by assumption
        refine fin_lp ⟨i + 1, by omega, lt_succ hz (by rw [ho]; exact h)⟩ (by simp only [go_sem]; first | rfl | ((repeat' apply And.intro) <;> first | rfl | assumption | omega)) (by dsimp only; omega)
        done)
     | exact (idxV_none (d := pm0) fun k hk => hz k (by omega)).symm)
def con50 : Con := { ps := [.d false (.sl yPM), .cl 51 [.p 34 yPL]], rs := [.d false .bool], pre := fun _ => True, out := fun (x : List Plm × (Plt × Unit) × Unit) => (uncV x.1 x.2.1.1, ()), nw := id }
theorem uncV_idx (l : List Plm) (p : Plt) : uncV l p = decide (idxV (uncP p) l ≥ 0) := by
 unfold uncV
 by_cases h : 0 ≤ idxV (uncP p) l
 · obtain ⟨h1, h2, _⟩ := idxV_spec (d := pm0) h
   rw [decide_eq_true (by omega), List.any_eq_true]
   exact ⟨_, getD_mem h1, h2⟩
 · rw [decide_eq_false (by omega), List.any_eq_false]
   intro x hx
   have := idxV_neg (p := uncP p) (l := l) (by omega) x hx
   rw [this]; exact Bool.false_ne_true
theorem c50 : CtrOk Tryd.prog 50 con50.ctr :=
 con_sound (G := ⟨[(69, con69.ctr)], [], [], [], []⟩) tab_ok (EnvOk.cons c69 has69 EnvOk.nil) rfl Tryd.func50 rfl con50 19 (by kernel_rfl) (by decide) (by decide) rfl (by decide) rfl (by
  rintro ⟨(l : List Plm), ⟨⟨(p1 : Int), (p2 : Int), (p3 : Int)⟩, _⟩, _⟩ hpre hwf X hT hG hk hK
  (simp -implicitDefEqProofs (maxSteps := 4000000) only [go_sem, Bool.not_eq_true', Bool.not_eq_false', Bool.or_eq_true, Bool.or_eq_false_iff, Bool.and_eq_true, Bool.and_eq_false_iff, decide_eq_true_eq, decide_eq_false_iff_not, Classical.not_not, not_or, maxLen, con50, con69, hT, hG, hk, hK, Tryd.results50] at hwf ⊢); (try simp (disch := decide +kernel) only [drawn, true_and, and_true])
  rw [uncV_idx]
  (repeat' (with_reducible (first | refine And.intro ?_ ?_ | intro _))) <;> (try (first | with_reducible (first | done | assumption | omega | contradiction) | decide))
  all_goals try rfl)
def con34 : Con := { ps := [.d false (.sl yPM), .d true yPL], rs := [.d false .bool], pre := fun _ => True, out := fun (x : List Plm × Plt × Unit) => (uncV x.1 x.2.1, ()), nw := id }
theorem c34 : CtrOk Tryd.prog 34 con34.ctr :=
 con_sound (G := ⟨[(50, con50.ctr)], [], [], [], []⟩) tab_ok (EnvOk.cons c50 has50 EnvOk.nil) rfl Tryd.func34 rfl con34 27 (by kernel_rfl) (by decide) (by decide) rfl (by decide) rfl (by
  rintro ⟨(l : List Plm), ⟨(p1 : Int), (p2 : Int), (p3 : Int)⟩, _⟩ hpre hwf X hT hG hk hK
  (simp -implicitDefEqProofs (maxSteps := 4000000) only [go_sem, Bool.not_eq_true', Bool.not_eq_false', Bool.or_eq_true, Bool.or_eq_false_iff, Bool.and_eq_true, Bool.and_eq_false_iff, decide_eq_true_eq, decide_eq_false_iff_not, Classical.not_not, not_or, maxLen, con34, con50, hT, hG, hk, hK, Tryd.results34] at hwf ⊢); (try simp (disch := decide +kernel) only [drawn, true_and, and_true]))
end Go.Proofs.YtjhoidgpecgfoaaDoor
