/- Part. -/
import Derived.Test.YtkjpbhkldioggaaGreatClKOToKS
import Derived.Test.YtkjpbhkldioggaaGreatClKcToKe
import Derived.Test.YtkjpbhkldioggaaGreatEvFun5
import Derived.Test.YtkjpbhkldioggaaGreatEvG8ToReg
import Derived.WalkKit
set_option linter.all false
set_option maxRecDepth 100000
set_option maxHeartbeats 4000000
namespace Go.Proofs.YtkjpbhkldioggaaGreat
open Go.Ev
abbrev Dpt := Flt × ByteArray × Int × Int × Int × Int × Int
abbrev Rlg := Plt × Bool × Int × Int
abbrev Plm := Pce × Int × List Int
def dp0 : Dpt := ((ByteArray.empty, 0, ByteArray.empty, 0), ByteArray.empty, 0, 0, 0, 0, 0)
def rl0 : Rlg := ((0, 0, 0), false, 0, 0)
def pm0 : Plm := (((0, 0, 0), 0, 0), 0, [])
instance kdPlD : DecidableEq Plt := instDecidableEqProd
instance kdG1 : DecidableEq (ByteArray × Int) := instDecidableEqProd
instance kdG2 : DecidableEq (Int × ByteArray × Int) := instDecidableEqProd
instance kdFltD : DecidableEq Flt := instDecidableEqProd
theorem fltE (a b : Flt) : (a.1 = b.1 ∧ a.2.1 = b.2.1 ∧ a.2.2.1 = b.2.2.1 ∧ a.2.2.2 = b.2.2.2) = (a = b) := by
 rw [eq_iff_iff]; exact ⟨fun h => Prod.ext h.1 (Prod.ext h.2.1 (Prod.ext h.2.2.1 h.2.2.2)), fun h => by rw [h]; exact ⟨rfl, rfl, rfl, rfl⟩⟩
theorem fltN (a b : Flt) : (¬ a.1 = b.1 ∨ ¬ a.2.1 = b.2.1 ∨ ¬ a.2.2.1 = b.2.2.1 ∨ ¬ a.2.2.2 = b.2.2.2) = (¬ a = b) := by
 rw [← fltE, eq_iff_iff]; by_cases h1 : a.1 = b.1 <;> by_cases h2 : a.2.1 = b.2.1 <;> by_cases h3 : a.2.2.1 = b.2.2.1 <;> by_cases h4 : a.2.2.2 = b.2.2.2 <;> simp [h1, h2, h3, h4]
theorem pltE (a b : Plt) : (a.1 = b.1 ∧ a.2.1 = b.2.1 ∧ a.2.2 = b.2.2) = (a = b) := by
 rw [eq_iff_iff]; exact ⟨fun h => Prod.ext h.1 (Prod.ext h.2.1 h.2.2), fun h => by rw [h]; exact ⟨rfl, rfl, rfl⟩⟩
theorem pltN (a b : Plt) : (¬ a.1 = b.1 ∨ ¬ a.2.1 = b.2.1 ∨ ¬ a.2.2 = b.2.2) = (¬ a = b) := by
 rw [← pltE, eq_iff_iff]; by_cases h1 : a.1 = b.1 <;> by_cases h2 : a.2.1 = b.2.1 <;> by_cases h3 : a.2.2 = b.2.2 <;> simp [h1, h2, h3]
def dpIdx (l : List Dpt) (f : Flt) : Int := idxV (fun d => decide (d.1 = f)) l
def closedV (d : Dpt) (now : Int) : Bool := decide (d.2.2.2.2.2.2 ≠ 0) || decide (now ≥ d.2.2.2.1)
def stateV (l : List Dpt) (f : Flt) (now : Int) : Int :=
 if dpIdx l f < 0 then 1 else if (l.getD (dpIdx l f).toNat dp0).2.2.2.2.2.2 ≠ 0 then 2 else if closedV (l.getD (dpIdx l f).toNat dp0) now = false then 3 else 0
def rlIdx (r : List Rlg) (x : Plt) : Int := idxV (fun y => decide (y.1 = x)) r
def mayV (r : List Rlg) (x : Plt) : Bool := if 0 ≤ rlIdx r x then (r.getD (rlIdx r x).toNat rl0).2.1 else false
def reasonV (r : List Rlg) (x : Plt) : Int := if 0 ≤ rlIdx r x then (r.getD (rlIdx r x).toNat rl0).2.2.2 else 1
def uncP (x : Plt) (y : Plm) : Bool := decide (y.1.1 = x) && decide ((y.2.2.length : Int) > 1)
def uncV (p : List Plm) (x : Plt) : Bool := p.any (uncP x)
def con67 : Con := { ps := [.d false (.sl yDP), .d true yFL], rs := [.d false yI], pre := fun _ => True, out := fun (x : List Dpt × Flt × Unit) => (dpIdx x.1 x.2.1, ()), nw := id }
theorem c67 : CtrOk Tryz.prog 67 con67.ctr :=
 con_sound (G := ⟨[], [], [], [], []⟩) tab_ok EnvOk.nil rfl Tryz.func67 rfl con67 133115 (by kernel_rfl) (by decide) (by decide) rfl (by decide) rfl (by
  rintro ⟨(l : List Dpt), ⟨f1, (f2 : Int), f3, (f4 : Int)⟩, _⟩ hpre hwf X hT hG hk hK
  (simp -implicitDefEqProofs only [go_sem, bP, con67, hT, hG, hk, hK, Tryz.results67] at hwf ⊢)
  clear hwf; refine fun _ => evk_loop ⟨{ i : Nat // i ≤ l.length ∧ ∀ k, k < i → (fun d : Dpt => decide (d.1 = (f1, f2, f3, f4))) (l.getD k dp0) = false }, 1000, fun q => [(3, .one (.loc 70 0)), (4, .one (.int .i64 0)), (7, .one (.sl yDP l false)), (8, .one (.int .i64 l.length)), (9, .one (.int .i64 q.1))], fun q => [(70, .cells 26 [.str f1, .int .i64 f2, .str f3, .int .i64 f4])], fun q => l.length - q.1⟩ ⟨0, by omega, fun k hk => by omega⟩ ?_ ?_
  · simp only [go_sem]
    try first | rfl | (and_intros <;> first | trivial | rfl | omega)
  · rintro ⟨i, (hi : i ≤ l.length), hz⟩
    (simp -implicitDefEqProofs only [go_sem, bP, con67, hT, hG, hk, hK, Tryz.results67])
    obtain ⟨o, ho⟩ : ∃ o, l.getD i dp0 = o := ⟨_, rfl⟩; have eo : l.getD (i : Int).toNat ((ByteArray.empty, 0, ByteArray.empty, 0), ByteArray.empty, 0, 0, 0, 0, 0) = o := ho; rw [eo]
    (repeat' with_reducible first | refine And.intro ?_ ?_ | intro _) <;> try first | with_reducible (first | assumption | omega | contradiction) | decide
    all_goals first
     | (have h : o.1.1 = f1 ∧ o.1.2.1 = f2 ∧ o.1.2.2.1 = f3 ∧ o.1.2.2.2 = f4 := by assumption
        exact (idxV_at (d := dp0) hz (by omega) (by show decide ((l.getD i dp0).1 = _) = true; rw [ho]; exact decide_eq_true ((fltE o.1 (f1, f2, f3, f4)).mp h))).symm)
     | (have h : ¬ o.1.1 = f1 ∨ ¬ o.1.2.1 = f2 ∨ ¬ o.1.2.2.1 = f3 ∨ ¬ o.1.2.2.2 = f4 := by assumption
        refine fin_lp ⟨i + 1, by omega, lt_succ hz (by show decide ((l.getD i dp0).1 = _) = false; rw [ho]; exact decide_eq_false ((fltN o.1 (f1, f2, f3, f4)).mp h))⟩ (by simp only [go_sem]; first | rfl | ((repeat' apply And.intro) <;> first | rfl | assumption | omega)) (by dsimp only; omega)
        done)
     | exact (idxV_none (d := dp0) fun k hk => hz k (by omega)).symm)
def con68 : Con := { ps := [.d true yDP, .d false yI], rs := [.d false .bool], pre := fun _ => True, out := fun (x : Dpt × Int × Unit) => (closedV x.1 x.2.1, ()), nw := id }
theorem c68 : CtrOk Tryz.prog 68 con68.ctr :=
 con_sound (G := ⟨[], [], [], [], []⟩) tab_ok EnvOk.nil rfl Tryz.func68 rfl con68 23 (by kernel_rfl) (by decide) (by decide) rfl (by decide) rfl (by
  rintro ⟨⟨⟨f1, (f2 : Int), f3, (f4 : Int)⟩, a, (b : Int), (c : Int), (d : Int), (e : Int), (s : Int)⟩, (now : Int), _⟩ hpre hwf X hT hG hk hK
  (simp -implicitDefEqProofs only [go_sem, bP, con68, hT, hG, hk, hK, Tryz.results68] at hwf ⊢)
  unfold closedV
  try simp only [ne_eq, decide_not]
  all_goals first | done | rfl | (and_intros <;> first | trivial | rfl) | skip)
theorem dpIdx_lt {l : List Dpt} {f : Flt} (h : ¬ dpIdx l f < 0) : (dpIdx l f).toNat < l.length := (idxV_spec (p := fun d : Dpt => decide (d.1 = f)) (d := dp0) (Int.not_lt.1 h)).1
def con33 : Con := { ps := [.d false (.sl yDP), .d true yFL, .d false yI], rs := [.d false yI], pre := fun _ => True, out := fun (x : List Dpt × Flt × Int × Unit) => (stateV x.1 x.2.1 x.2.2.1, ()), nw := id }
theorem c33 : CtrOk Tryz.prog 33 con33.ctr :=
 con_sound (G := ⟨[(67, con67.ctr), (68, con68.ctr)], [], [], [], []⟩) tab_ok (EnvOk.cons c67 has67 (EnvOk.cons c68 has68 EnvOk.nil)) rfl Tryz.func33 rfl con33 2115799 (by kernel_rfl) (by decide) (by decide) rfl (by decide) rfl (by
  rintro ⟨(l : List Dpt), ⟨f1, (f2 : Int), f3, (f4 : Int)⟩, (now : Int), _⟩ hpre hwf X hT hG hk hK
  (simp -implicitDefEqProofs only [go_sem, bP, con33, con67, con68, hT, hG, hk, hK, Tryz.results33] at hwf ⊢)
  clear hwf; have hlt := dpIdx_lt (l := l) (f := (f1, f2, f3, f4)); unfold stateV; generalize dpIdx l (f1, f2, f3, f4) = i at hlt ⊢; obtain ⟨o, ho⟩ : ∃ o, l.getD i.toNat dp0 = o := ⟨_, rfl⟩; have eo : l.getD i.toNat ((ByteArray.empty, 0, ByteArray.empty, 0), ByteArray.empty, 0, 0, 0, 0, 0) = o := ho; have eO : ((o.1.1, o.1.2.1, o.1.2.2.1, o.1.2.2.2), o.2.1, o.2.2.1, o.2.2.2.1, o.2.2.2.2.1, o.2.2.2.2.2.1, o.2.2.2.2.2.2) = o := rfl; rw [ho]
  try simp only [eo, eO]
  (repeat' with_reducible first | refine And.intro ?_ ?_ | intro _) <;> try first | with_reducible (first | assumption | omega | contradiction) | decide
  all_goals first
   | (rw [if_pos (by assumption)]; done)
   | (rw [if_neg (by assumption), if_pos (by assumption)]; done)
   | (rw [if_neg (by assumption), if_neg (by simp only [ne_eq, Classical.not_not]; assumption), if_pos (by assumption)]; done)
   | (rw [if_neg (by assumption), if_neg (by simp only [ne_eq, Classical.not_not]; assumption), if_neg (by simp only [Bool.not_eq_false]; assumption)]; done)
   | (have := hlt (by assumption); omega)
   | skip)
theorem eo2 {l : List Rlg} {i : Nat} {o : Rlg} (h : l.getD i rl0 = o) : l.getD (i : Int).toNat rl0 = o := h
def con36 : Con := { ps := [.d false (.sl yRU), .d true yPL], rs := [.d false .bool], pre := fun _ => True, out := fun (x : List Rlg × Plt × Unit) => (mayV x.1 x.2.1, ()), nw := id }
theorem c36 : CtrOk Tryz.prog 36 con36.ctr :=
 con_sound (G := ⟨[], [], [], [], []⟩) tab_ok EnvOk.nil rfl Tryz.func36 rfl con36 67547 (by kernel_rfl) (by decide) (by decide) rfl (by decide) rfl (by
  rintro ⟨(l : List Rlg), ⟨(p1 : Int), (p2 : Int), (p3 : Int)⟩, _⟩ hpre hwf X hT hG hk hK
  (simp -implicitDefEqProofs only [go_sem, bP, con36, hT, hG, hk, hK, Tryz.results36] at hwf ⊢)
  clear hwf; refine fun _ => evk_loop ⟨{ i : Nat // i ≤ l.length ∧ ∀ k, k < i → (fun d : Rlg => decide (d.1 = (p1, p2, p3))) (l.getD k rl0) = false }, 1000, fun q => [(3, .one (.loc 70 0)), (4, .one (.bool false)), (7, .one (.sl yRU l false)), (8, .one (.int .i64 l.length)), (9, .one (.int .i64 q.1))], fun q => [(70, .cells 45 [.int .i64 p1, .int .i64 p2, .int .i64 p3])], fun q => l.length - q.1⟩ ⟨0, by omega, fun k hk => by omega⟩ ?_ ?_
  · simp only [go_sem]
    try first | rfl | (and_intros <;> first | trivial | rfl | omega)
  · rintro ⟨i, (hi : i ≤ l.length), hz⟩
    (simp -implicitDefEqProofs only [go_sem, bP, con36, hT, hG, hk, hK, Tryz.results36])
    obtain ⟨o, ho⟩ : ∃ o, l.getD i rl0 = o := ⟨_, rfl⟩; have eo : l.getD (i : Int).toNat ((0, 0, 0), false, 0, 0) = o := ho; rw [eo]
    (repeat' with_reducible first | refine And.intro ?_ ?_ | intro _) <;> try first | with_reducible (first | assumption | omega | contradiction) | decide
    all_goals first
     | (have h : o.1.1 = p1 ∧ o.1.2.1 = p2 ∧ o.1.2.2 = p3 := by assumption
        have e : rlIdx l (p1, p2, p3) = i := idxV_at (d := rl0) hz (by omega) (by show decide ((l.getD i rl0).1 = _) = true; rw [ho]; exact decide_eq_true ((pltE o.1 (p1, p2, p3)).mp h)); unfold mayV
        rw [e, if_pos (by omega), eo2 ho]; done)
     | (have h : ¬ o.1.1 = p1 ∨ ¬ o.1.2.1 = p2 ∨ ¬ o.1.2.2 = p3 := by assumption
        refine fin_lp ⟨i + 1, by omega, lt_succ hz (by show decide ((l.getD i rl0).1 = _) = false; rw [ho]; exact decide_eq_false ((pltN o.1 (p1, p2, p3)).mp h))⟩ (by simp only [go_sem]; first | rfl | ((repeat' apply And.intro) <;> first | rfl | assumption | omega)) (by dsimp only; omega)
        done)
     | (have e : rlIdx l (p1, p2, p3) = -1 := idxV_none (d := rl0) fun k hk => hz k (by omega)
        unfold mayV; rw [e, if_neg (by omega)]))
def con37 : Con := { ps := [.d false (.sl yRU), .d true yPL], rs := [.d false yI], pre := fun _ => True, out := fun (x : List Rlg × Plt × Unit) => (reasonV x.1 x.2.1, ()), nw := id }
theorem c37 : CtrOk Tryz.prog 37 con37.ctr :=
 con_sound (G := ⟨[], [], [], [], []⟩) tab_ok EnvOk.nil rfl Tryz.func37 rfl con37 67547 (by kernel_rfl) (by decide) (by decide) rfl (by decide) rfl (by
  rintro ⟨(l : List Rlg), ⟨(p1 : Int), (p2 : Int), (p3 : Int)⟩, _⟩ hpre hwf X hT hG hk hK
  (simp -implicitDefEqProofs only [go_sem, bP, con37, hT, hG, hk, hK, Tryz.results37] at hwf ⊢)
  clear hwf; refine fun _ => evk_loop ⟨{ i : Nat // i ≤ l.length ∧ ∀ k, k < i → (fun d : Rlg => decide (d.1 = (p1, p2, p3))) (l.getD k rl0) = false }, 1000, fun q => [(3, .one (.loc 70 0)), (4, .one (.int .i64 0)), (7, .one (.sl yRU l false)), (8, .one (.int .i64 l.length)), (9, .one (.int .i64 q.1))], fun q => [(70, .cells 45 [.int .i64 p1, .int .i64 p2, .int .i64 p3])], fun q => l.length - q.1⟩ ⟨0, by omega, fun k hk => by omega⟩ ?_ ?_
  · simp only [go_sem]
    try first | rfl | (and_intros <;> first | trivial | rfl | omega)
  · rintro ⟨i, (hi : i ≤ l.length), hz⟩
    (simp -implicitDefEqProofs only [go_sem, bP, con37, hT, hG, hk, hK, Tryz.results37])
    obtain ⟨o, ho⟩ : ∃ o, l.getD i rl0 = o := ⟨_, rfl⟩; have eo : l.getD (i : Int).toNat ((0, 0, 0), false, 0, 0) = o := ho; rw [eo]
    (repeat' with_reducible first | refine And.intro ?_ ?_ | intro _) <;> try first | with_reducible (first | assumption | omega | contradiction) | decide
    all_goals first
     | (have h : o.1.1 = p1 ∧ o.1.2.1 = p2 ∧ o.1.2.2 = p3 := by assumption
        have e : rlIdx l (p1, p2, p3) = i := idxV_at (d := rl0) hz (by omega) (by show decide ((l.getD i rl0).1 = _) = true; rw [ho]; exact decide_eq_true ((pltE o.1 (p1, p2, p3)).mp h)); unfold reasonV
        rw [e, if_pos (by omega), eo2 ho]; done)
     | (have h : ¬ o.1.1 = p1 ∨ ¬ o.1.2.1 = p2 ∨ ¬ o.1.2.2 = p3 := by assumption
        refine fin_lp ⟨i + 1, by omega, lt_succ hz (by show decide ((l.getD i rl0).1 = _) = false; rw [ho]; exact decide_eq_false ((pltN o.1 (p1, p2, p3)).mp h))⟩ (by simp only [go_sem]; first | rfl | ((repeat' apply And.intro) <;> first | rfl | assumption | omega)) (by dsimp only; omega)
        done)
     | (have e : rlIdx l (p1, p2, p3) = -1 := idxV_none (d := rl0) fun k hk => hz k (by omega)
        unfold reasonV; rw [e, if_neg (by omega)]))
def con73 : Con := { ps := [.d true yPM, .p 45 yPL], rs := [.d false .bool], pre := fun _ => True, out := fun (x : Plm × Plt × Unit) => (uncP x.2.1 x.1, ()), nw := id }
theorem c73 : CtrOk Tryz.prog 73 con73.ctr :=
 con_sound (G := ⟨[], [], [], [], []⟩) tab_ok EnvOk.nil rfl Tryz.func73 rfl con73 15 (by kernel_rfl) (by decide) (by decide) rfl (by decide) rfl (by
  rintro ⟨⟨⟨⟨(a1 : Int), (a2 : Int), (a3 : Int)⟩, (a4 : Int), (a5 : Int)⟩, (b : Int), (l : List Int)⟩, ⟨(p1 : Int), (p2 : Int), (p3 : Int)⟩, _⟩ hpre hwf X hT hG hk hK
  (simp -implicitDefEqProofs only [go_sem, bP, con73, hT, hG, hk, hK, Tryz.results73] at hwf ⊢)
  unfold uncP; intro _; rw [Bool.eq_iff_iff]; simp [Prod.ext_iff, and_assoc])
def con98 : Con := { ps := [.d false (.sl yPM), .cl 73 [.p 45 yPL]], rs := [.d false yI], pre := fun _ => True, out := fun (x : List Plm × (Plt × Unit) × Unit) => (idxV (uncP x.2.1.1) x.1, ()), nw := id }
theorem c98 : CtrOk Tryz.prog 98 con98.ctr :=
 con_sound (G := ⟨[(73, con73.ctr)], [], [], [], []⟩) tab_ok (EnvOk.cons c73 has73 EnvOk.nil) rfl Tryz.func98 rfl con98 66483 (by kernel_rfl) (by decide) (by decide) rfl (by decide) rfl (by
  rintro ⟨(l : List Plm), ⟨⟨(p1 : Int), (p2 : Int), (p3 : Int)⟩, _⟩, _⟩ hpre hwf X hT hG hk hK
  (simp -implicitDefEqProofs only [go_sem, bP, con98, con73, hT, hG, hk, hK, Tryz.results98] at hwf ⊢)
  clear hwf; refine fun _ => evk_loop ⟨{ i : Nat // i ≤ l.length ∧ ∀ k, k < i → uncP (p1, p2, p3) (l.getD k pm0) = false }, 1000, fun q => [(0, .one (.sl yPM l false)), (1, .one (.fn 73 [.loc 12 0])), (4, .one (.int .i64 0)), (7, .one (.int .i64 l.length)), (8, .one (.int .i64 q.1))], fun q => [(12, .cells 45 [.int .i64 p1, .int .i64 p2, .int .i64 p3])], fun q => l.length - q.1⟩ ⟨0, by omega, fun k hk => by omega⟩ ?_ ?_
  · simp only [go_sem]
    try first | rfl | (and_intros <;> first | trivial | rfl | omega)
  · rintro ⟨i, (hi : i ≤ l.length), hz⟩
    (simp -implicitDefEqProofs only [go_sem, bP, con98, con73, hT, hG, hk, hK, Tryz.results98])
    obtain ⟨o, ho⟩ : ∃ o, l.getD i pm0 = o := ⟨_, rfl⟩; have eo : l.getD (i : Int).toNat (((0, 0, 0), 0, 0), 0, []) = o := ho; rw [eo]; have eO : (((o.1.1.1, o.1.1.2.1, o.1.1.2.2), o.1.2.1, o.1.2.2), o.2.1, o.2.2) = o := rfl
    try simp only [eO]
    (repeat' with_reducible first | refine And.intro ?_ ?_ | intro _) <;> try first | with_reducible (first | assumption | omega | contradiction) | decide
    all_goals first
     | (have h : uncP (p1, p2, p3) o = true := by assumption
        exact (idxV_at (d := pm0) hz (by omega) (by rw [ho]; exact h)).symm)
     | (have h : uncP (p1, p2, p3) o = false := by assumption
        refine fin_lp ⟨i + 1, by omega, lt_succ hz (by rw [ho]; exact h)⟩ (by simp only [go_sem]; first | rfl | ((repeat' apply And.intro) <;> first | rfl | assumption | omega)) (by dsimp only; omega)
        done)
     | exact (idxV_none (d := pm0) fun k hk => hz k (by omega)).symm)
def con72 : Con := { ps := [.d false (.sl yPM), .cl 73 [.p 45 yPL]], rs := [.d false .bool], pre := fun _ => True, out := fun (x : List Plm × (Plt × Unit) × Unit) => (uncV x.1 x.2.1.1, ()), nw := id }
theorem uncV_idx (l : List Plm) (p : Plt) : uncV l p = decide (idxV (uncP p) l ≥ 0) := by
 unfold uncV; by_cases h : 0 ≤ idxV (uncP p) l
 · obtain ⟨h1, h2, _⟩ := idxV_spec (d := pm0) h; rw [decide_eq_true (by omega), List.any_eq_true]; exact ⟨_, getD_mem h1, h2⟩
 · rw [decide_eq_false (by omega), List.any_eq_false]; intro x hx; have := idxV_neg (p := uncP p) (l := l) (by omega) x hx; rw [this]; exact Bool.false_ne_true
theorem c72 : CtrOk Tryz.prog 72 con72.ctr :=
 con_sound (G := ⟨[(98, con98.ctr)], [], [], [], []⟩) tab_ok (EnvOk.cons c98 has98 EnvOk.nil) rfl Tryz.func72 rfl con72 19 (by kernel_rfl) (by decide) (by decide) rfl (by decide) rfl (by
  rintro ⟨(l : List Plm), ⟨⟨(p1 : Int), (p2 : Int), (p3 : Int)⟩, _⟩, _⟩ hpre hwf X hT hG hk hK
  (simp -implicitDefEqProofs only [go_sem, bP, con72, con98, hT, hG, hk, hK, Tryz.results72] at hwf ⊢)
  rw [uncV_idx]
  (repeat' with_reducible first | refine And.intro ?_ ?_ | intro _) <;> try first | with_reducible (first | assumption | omega | contradiction) | decide
  all_goals try rfl)
def con35 : Con := { ps := [.d false (.sl yPM), .d true yPL], rs := [.d false .bool], pre := fun _ => True, out := fun (x : List Plm × Plt × Unit) => (uncV x.1 x.2.1, ()), nw := id }
theorem c35 : CtrOk Tryz.prog 35 con35.ctr :=
 con_sound (G := ⟨[(72, con72.ctr)], [], [], [], []⟩) tab_ok (EnvOk.cons c72 has72 EnvOk.nil) rfl Tryz.func35 rfl con35 27 (by kernel_rfl) (by decide) (by decide) rfl (by decide) rfl (by
  rintro ⟨(l : List Plm), ⟨(p1 : Int), (p2 : Int), (p3 : Int)⟩, _⟩ hpre hwf X hT hG hk hK
  (simp -implicitDefEqProofs only [go_sem, bP, con35, con72, hT, hG, hk, hK, Tryz.results35] at hwf ⊢))
def oursV (f : Flt) (c : List Cnt) (n : Int) : Bool := c.any (fun o => decide (o.num = n) && decide (o.flt = f))
def setK (kt : Ty) (l : List kt.den) : List (kt.den × Bool) := l.foldl (fun m x => mset (kt := kt) m x true) []
theorem setK_push (kt : Ty) (l : List kt.den) (x : kt.den) : setK kt (l ++ [x]) = mset (kt := kt) (setK kt l) x true := by
 unfold setK; rw [List.foldl_append]; rfl
theorem mget_mset {kt : Ty} {β : Type} (hk : ∀ a b : kt.den, keyEq kt a b = true ↔ a = b) (m : List (kt.den × β)) (x y : kt.den) (v : β) : mget (kt := kt) (mset (kt := kt) m y v) x = if keyEq kt x y = true then some v else mget (kt := kt) m x := by
 induction m with
 | nil => rfl
 | cons p m ih =>
   obtain ⟨k, w⟩ := p; simp only [mset]; by_cases h1 : keyEq kt y k = true
   · rw [if_pos h1]; have e1 := (hk y k).1 h1; subst e1; simp only [mget]; by_cases h2 : keyEq kt x y = true <;> simp [h2]
   · rw [if_neg h1]; simp only [mget]; by_cases h2 : keyEq kt x k = true
     · have e2 := (hk x k).1 h2; subst e2; have h3 : ¬ keyEq kt x y = true := fun h => h1 ((hk y x).2 ((hk x y).1 h).symm); simp [h2, h3]
     · simp only [if_neg h2]; exact ih
theorem setK_in {kt : Ty} (hk : ∀ a b : kt.den, keyEq kt a b = true ↔ a = b) (x : kt.den) : ∀ (l : List kt.den), (mget (kt := kt) (setK kt l) x).getD false = true ↔ x ∈ l := by
 have key : ∀ (l : List kt.den) (m : List (kt.den × Bool)), (mget (kt := kt) (l.foldl (fun m x => mset (kt := kt) m x true) m) x).getD false = true ↔ (x ∈ l ∨ (mget (kt := kt) m x).getD false = true) := by
  intro l
  induction l with
  | nil => intro m; simp
  | cons y l ih =>
    intro m; rw [List.foldl_cons, ih, mget_mset hk]; by_cases h : keyEq kt x y = true
    · rw [if_pos h]; simp [(hk x y).1 h]
    · rw [if_neg h]; have : x ≠ y := fun e => h ((hk x y).2 e); simp [this]
 intro l; rw [setK, key]; simp [mget]
theorem keyEq_plt (a b : Plt) : keyEq yPL a b = true ↔ a = b := by
 obtain ⟨a1, a2, a3⟩ := a; obtain ⟨b1, b2, b3⟩ := b; simp [keyEq]
theorem keyEq_int (a b : Int) : keyEq yI a b = true ↔ a = b := by simp [keyEq]
abbrev Spt := Flt × Int
theorem keyEq_spt (a b : Spt) : keyEq (.pair yFL yI) a b = true ↔ a = b := by
 obtain ⟨⟨a1, a2, a3, a4⟩, a5⟩ := a; obtain ⟨⟨b1, b2, b3, b4⟩, b5⟩ := b; simp [keyEq, and_assoc]
def dupP (l : List Cnt) (i : Nat) : Prop := (l.getD i ct0).pos ≠ 0 ∧ ∃ k, k < i ∧ (l.getD k ct0).pos = (l.getD i ct0).pos ∧ (l.getD k ct0).flt = (l.getD i ct0).flt
def dupB (l : List Cnt) (i : Nat) : Prop := ∃ x ∈ (l.getD i ct0).pcs, ∃ k, k < i ∧ holdsV (l.getD k ct0) x.1 = true
def dupPb (l : List Cnt) (i : Nat) : Bool := decide ((l.getD i ct0).pos ≠ 0) && (List.range i).any (fun k => decide ((l.getD k ct0).pos = (l.getD i ct0).pos) && decide ((l.getD k ct0).flt = (l.getD i ct0).flt))
def dupBb (l : List Cnt) (i : Nat) : Bool := (l.getD i ct0).pcs.any (fun x => (List.range i).any (fun k => holdsV (l.getD k ct0) x.1))
instance decDupP (l : List Cnt) (i : Nat) : Decidable (dupP l i) := decidable_of_iff (dupPb l i = true) (by
 unfold dupPb dupP; simp only [Bool.and_eq_true, decide_eq_true_eq, List.any_eq_true, List.mem_range])
instance decDupB (l : List Cnt) (i : Nat) : Decidable (dupB l i) := decidable_of_iff (dupBb l i = true) (by
 unfold dupBb dupB; simp only [List.any_eq_true, List.mem_range])
def ckErr (l : List Cnt) (i : Nat) : Int :=
 if ctErr (l.getD i ct0) ≠ 0 then ctErr (l.getD i ct0) else if 0 < i ∧ (l.getD i ct0).num ≤ (l.getD (i - 1) ct0).num then 9 else if dupP l i then 7 else if dupB l i then 5 else 0
def checkV (l : List Cnt) : Int := if 24 < l.length then 2 else fErr (ckErr l) l.length
theorem ckErr_v {l : List Cnt} {i : Nat} (h : ctErr (l.getD i ct0) ≠ 0) : ckErr l i = ctErr (l.getD i ct0) := by unfold ckErr; rw [if_pos h]
theorem ckErr_9 {l : List Cnt} {i : Nat} (h : ctErr (l.getD i ct0) = 0) (h1 : 0 < i) (h2 : (l.getD i ct0).num ≤ (l.getD (i - 1) ct0).num) : ckErr l i = 9 := by
 unfold ckErr; rw [if_neg (by rw [h]; simp), if_pos ⟨h1, h2⟩]
theorem ckErr_7 {l : List Cnt} {i : Nat} (h : ctErr (l.getD i ct0) = 0) (h1 : ¬ (0 < i ∧ (l.getD i ct0).num ≤ (l.getD (i - 1) ct0).num)) (h2 : dupP l i) : ckErr l i = 7 := by
 unfold ckErr; rw [if_neg (by rw [h]; simp), if_neg h1, if_pos h2]
theorem ckErr_5 {l : List Cnt} {i : Nat} (h : ctErr (l.getD i ct0) = 0) (h1 : ¬ (0 < i ∧ (l.getD i ct0).num ≤ (l.getD (i - 1) ct0).num)) (h2 : ¬ dupP l i) (h3 : dupB l i) : ckErr l i = 5 := by
 unfold ckErr; rw [if_neg (by rw [h]; simp), if_neg h1, if_neg h2, if_pos h3]
theorem ckErr_0 {l : List Cnt} {i : Nat} (h : ctErr (l.getD i ct0) = 0) (h1 : ¬ (0 < i ∧ (l.getD i ct0).num ≤ (l.getD (i - 1) ct0).num)) (h2 : ¬ dupP l i) (h3 : ¬ dupB l i) : ckErr l i = 0 := by
 unfold ckErr; rw [if_neg (by rw [h]; simp), if_neg h1, if_neg h2, if_neg h3]
theorem ckErr_z {l : List Cnt} {i : Nat} (h : ckErr l i = 0) : ctErr (l.getD i ct0) = 0 ∧ (0 < i → (l.getD (i - 1) ct0).num < (l.getD i ct0).num) ∧ ¬ dupP l i ∧ ¬ dupB l i := by
 unfold ckErr at h; split at h
 · rename_i h1; exact absurd h h1
 · rename_i h1; split at h
   · omega
   · rename_i h2; split at h
     · omega
     · rename_i h3; split at h
       · omega
       · rename_i h4; exact ⟨Classical.not_not.1 h1, fun h0 => by
          apply Classical.byContradiction; intro hn; exact h2 ⟨h0, by omega⟩, h3, h4⟩
theorem checkV_err {l : List Cnt} {i : Nat} (hl : ¬ 24 < l.length) (hz : ∀ k, k < i → ckErr l k = 0) (hi : i < l.length) (he : ckErr l i ≠ 0) : checkV l = ckErr l i := by
 unfold checkV; rw [if_neg hl, fErr_err hz hi he]
theorem checkV_ok {l : List Cnt} (hl : ¬ 24 < l.length) (hz : ∀ k, k < l.length → ckErr l k = 0) : checkV l = 0 := by
 unfold checkV; rw [if_neg hl, fErr_ok hz]
theorem checkV_zero {l : List Cnt} (h : checkV l = 0) : l.length ≤ 24 ∧ ∀ k, k < l.length → ckErr l k = 0 := by
 unfold checkV at h; split at h
 · omega
 · exact ⟨by omega, fErr_zero h⟩
def takL (l : List Cnt) : List Spt := (l.filter (fun c => decide (c.pos ≠ 0))).map (fun c => (c.flt, c.pos))
def takP (l : List Cnt) : List Plt := l.flatMap (fun c => c.pcs.map (fun x => x.1))
theorem takL_in {l : List Cnt} {i : Nat} (hi : i < l.length) : (l.getD i ct0).pos ≠ 0 → (((l.getD i ct0).flt, (l.getD i ct0).pos) ∈ takL (l.take i) ↔ dupP l i) := by
 intro h0; unfold takL dupP; rw [List.mem_map]; constructor
 · rintro ⟨c, hc, he⟩; obtain ⟨hc1, hc2⟩ := List.mem_filter.1 hc; obtain ⟨k, hk, rfl⟩ := List.getElem_of_mem hc1; rw [List.length_take] at hk; refine ⟨h0, k, by omega, ?_⟩; rw [List.getElem_take] at he; rw [getD_lt (show k < l.length by omega)]; simp only [Prod.mk.injEq] at he; exact ⟨he.2, he.1⟩
 · rintro ⟨_, k, hk, h1, h2⟩; refine ⟨l.getD k ct0, List.mem_filter.2 ⟨?_, by rw [decide_eq_true_eq, h1]; exact h0⟩, by rw [h1, h2]⟩; rw [getD_lt (by omega)]; rw [List.mem_take_iff_getElem]; exact ⟨k, by omega, rfl⟩
theorem takL_succ {l : List Cnt} {i : Nat} (hi : i < l.length) : takL (l.take (i + 1)) = if (l.getD i ct0).pos ≠ 0 then takL (l.take i) ++ [((l.getD i ct0).flt, (l.getD i ct0).pos)] else takL (l.take i) := by
 unfold takL; rw [tsE hi, List.filter_append, List.map_append, ← getD_lt hi (d := ct0)]; by_cases h : (l.getD i ct0).pos ≠ 0
 · rw [if_pos h, List.filter_cons_of_pos (by simpa using h)]; rfl
 · rw [if_neg h, List.filter_cons_of_neg (by simpa using h)]; simp
theorem takP_succ {l : List Cnt} {i : Nat} (hi : i < l.length) : takP (l.take (i + 1)) = takP (l.take i) ++ (l.getD i ct0).pcs.map (fun x => x.1) := by
 unfold takP; rw [tsE hi, List.flatMap_append, ← getD_lt hi (d := ct0)]; simp
theorem holdsV_in {c : Cnt} {p : Plt} : holdsV c p = true ↔ p ∈ c.pcs.map (fun x => x.1) := by
 unfold holdsV; rw [List.any_eq_true, List.mem_map]; simp
theorem takP_in {l : List Cnt} {i : Nat} {p : Plt} (hi : i ≤ l.length) : p ∈ takP (l.take i) ↔ ∃ k, k < i ∧ holdsV (l.getD k ct0) p = true := by
 unfold takP; rw [List.mem_flatMap]; constructor
 · rintro ⟨c, hc, hp⟩; obtain ⟨k, hk, rfl⟩ := List.getElem_of_mem hc; rw [List.length_take] at hk; refine ⟨k, by omega, holdsV_in.2 ?_⟩; rw [getD_lt (show k < l.length by omega)]; rw [List.getElem_take] at hp; exact hp
 · rintro ⟨k, hk, hp⟩; refine ⟨l.getD k ct0, ?_, holdsV_in.1 hp⟩; rw [getD_lt (by omega), List.mem_take_iff_getElem]; exact ⟨k, by omega, rfl⟩
theorem pcs_apart {l : List Pce} (h : ∀ i, i < l.length → okPc (l.getD i pc0) = true ∧ (0 < i → pltC (l.getD (i - 1) pc0).1 (l.getD i pc0).1 < 0)) : ∀ j k, j < k → k < l.length → pltC (l.getD j pc0).1 (l.getD k pc0).1 < 0 := by
 intro j k hjk
 induction k with
 | zero => omega
 | succ k ih =>
   intro hk; have h1 := (h (k + 1) hk).2 (by omega); rw [show k + 1 - 1 = k by omega] at h1; by_cases e : j = k
   · subst e; exact h1
   · exact pltC_cmp.trans _ _ _ (ih (by omega) (by omega)) h1
theorem pcs_ne {l : List Pce} (h : ∀ i, i < l.length → okPc (l.getD i pc0) = true ∧ (0 < i → pltC (l.getD (i - 1) pc0).1 (l.getD i pc0).1 < 0)) {k : Nat} (hk : k < l.length) : (l.getD k pc0).1 ∉ (l.take k).map (fun x => x.1) := by
 intro hm; obtain ⟨x, hx, he⟩ := List.mem_map.1 hm; obtain ⟨j, hj, rfl⟩ := List.getElem_of_mem hx; rw [List.length_take] at hj; have := pcs_apart h j k (by omega) hk; rw [List.getElem_take, ← getD_lt (d := pc0) (show j < l.length by omega)] at he; rw [he] at this; have := (pltC_cmp.eq (l.getD k pc0).1 (l.getD k pc0).1).2 rfl; omega
theorem dupB_of {l : List Cnt} {i k : Nat} {o : Cnt} (hi : i < l.length) (ho : l.getD i ct0 = o) (hk : k < o.pcs.length) (h : (o.pcs.getD k pc0).1 ∈ takP (l.take i)) : dupB l i := by
 obtain ⟨j, hj, hh⟩ := (takP_in (by omega)).1 h; refine ⟨o.pcs.getD k pc0, ?_, j, hj, hh⟩; rw [ho]; exact getD_mem hk
theorem dupB_no {l : List Cnt} {i : Nat} {o : Cnt} (hi : i < l.length) (ho : l.getD i ct0 = o) (h : ∀ j, j < o.pcs.length → (o.pcs.getD j pc0).1 ∉ takP (l.take i)) : ¬ dupB l i := by
 rintro ⟨x, hx, k, hk, hh⟩; rw [ho] at hx; obtain ⟨j, hj, rfl⟩ := mem_getD (d := pc0) hx; exact h j hj ((takP_in (by omega)).2 ⟨k, hk, hh⟩)
theorem pcs_push {l : List Pce} {k : Nat} (hk : k < l.length) : (l.take (k + 1)).map (fun x => x.1) = (l.take k).map (fun x => x.1) ++ [(l.getD k pc0).1] := by
 rw [tsE hk, List.map_append, ← getD_lt hk (d := pc0)]; rfl
def con22 : Con := { ps := [.d false (.sl yCT)], rs := [.d false yI], pre := fun _ => True, out := fun (x : List Cnt × Unit) => (checkV x.1, ()), nw := id }
theorem c22 : CtrOk Tryz.prog 22 con22.ctr :=
 con_sound (G := ⟨[(57, con57.ctr)], [], [], [], []⟩) tab_ok (EnvOk.cons c57 has57 EnvOk.nil) rfl Tryz.func22 rfl con22 18989710403364136445 (by kernel_rfl) (by decide) (by decide) rfl (by decide) rfl (by
  rintro ⟨(l : List Cnt), _⟩ hpre hwf X hT hG hk hK
  (simp -implicitDefEqProofs only [go_sem, bP, con22, con57, hT, hG, hk, hK, Tryz.results22] at hwf ⊢); (try simp (disch := decide +kernel) only [drawn, true_and, and_true])
  clear hwf; refine fun _ => ⟨fun h => ?_, fun h _ => ?_⟩
  · unfold checkV; rw [if_pos (by omega)]
  · have hl : ¬ 24 < l.length := by omega
    refine evk_loop ⟨{ i : Nat // i ≤ l.length ∧ ∀ k, k < i → ckErr l k = 0 }, 1000, fun q => [(0, .one (.sl yCT l false)), (2, .one (.int .i64 0)), (3, .one (.map 70)), (4, .one (.map 71)), (16, .one (.sl yCT l false)), (17, .one (.int .i64 l.length)), (18, .one (.int .i64 q.1))], fun q => [(70, .mapb (.pair yFL yI) .bool true false (setK (.pair yFL yI) (takL (l.take q.1)))), (71, .mapb yPL .bool true false (setK yPL (takP (l.take q.1))))], fun q => l.length - q.1⟩ ⟨0, by omega, fun k hk => by omega⟩ ?_ ?_
    · simp only [go_sem]
      try first | rfl | (and_intros <;> first | trivial | rfl | omega)
    · rintro ⟨i, (hi : i ≤ l.length), (hz : ∀ k, k < i → ckErr l k = 0)⟩; have he := checkV_err (i := i) hl hz
      (simp -implicitDefEqProofs only [go_sem, bP, con22, con57, hT, hG, hk, hK, Tryz.results22]); (try simp (disch := decide +kernel) only [drawn, true_and, and_true])
      obtain ⟨o, ho⟩ : ∃ o, l.getD i ct0 = o := ⟨_, rfl⟩; obtain ⟨u, hu⟩ : ∃ u, l.getD (i - 1) ct0 = u := ⟨_, rfl⟩; have eo : l.getD (i : Int).toNat (0, (ByteArray.empty, 0, ByteArray.empty, 0), 0, 0, 0, 0, 0, []) = o := ho; have eu : l.getD ((i : Int) - 1).toNat (0, (ByteArray.empty, 0, ByteArray.empty, 0), 0, 0, 0, 0, 0, []) = u := by rw [show ((i : Int) - 1).toNat = i - 1 by omega]; exact hu
      rw [eo, eu]; have eO : (o.1, (o.2.1.1, o.2.1.2.1, o.2.1.2.2.1, o.2.1.2.2.2), o.2.2.1, o.2.2.2.1, o.2.2.2.2.1, o.2.2.2.2.2.1, o.2.2.2.2.2.2.1, o.2.2.2.2.2.2.2) = o := rfl; have eS : ((o.2.1.1, o.2.1.2.1, o.2.1.2.2.1, o.2.1.2.2.2), o.2.2.2.2.2.1) = (o.flt, o.pos) := rfl
      try simp only [eO, eS]
      have htk := setK_in (kt := .pair yFL yI) keyEq_spt (o.flt, o.pos) (takL (l.take i))
      (repeat' with_reducible first | refine And.intro ?_ ?_ | intro _) <;> try first | with_reducible (first | assumption | omega | contradiction) | decide
      all_goals first
       | (have h1 : ¬ ctErr o = 0 := by assumption
          have e1 : ckErr l i = ctErr o := by rw [ckErr_v (by rw [ho]; exact h1), ho]
          rw [he (by omega) (by rw [e1]; exact h1), e1]; done)
       | (have h1 : (i : Int) > 0 ∧ o.1 ≤ u.1 := by assumption
          have e1 : ckErr l i = 9 := ckErr_9 (by rw [ho]; assumption) (by omega) (by rw [ho, hu]; exact h1.2)
          rw [he (by omega) (by rw [e1]; decide), e1]; done)
       | (have h0 : ¬ o.2.2.2.2.2.1 = 0 := by assumption
          have hm := htk.1 (by assumption); have h9 : ¬ (0 < i ∧ (l.getD i ct0).num ≤ (l.getD (i - 1) ct0).num) := by
           rw [ho, hu]; have hq : ¬ (i : Int) > 0 ∨ ¬ o.1 ≤ u.1 := by assumption
           rintro ⟨q1, q2⟩
           rcases hq with hq | hq
           · omega
           · exact hq q2
          have hd : dupP l i := (takL_in (by omega) (by rw [ho]; exact h0)).1 (by rw [ho]; exact hm); have e1 : ckErr l i = 7 := ckErr_7 (by rw [ho]; assumption) h9 hd
          rw [he (by omega) (by rw [e1]; decide), e1]; done)
       | (have h0 : ¬ o.2.2.2.2.2.1 = 0 := by assumption
          have hm := mt htk.2 (Bool.eq_false_iff.1 (by assumption)); have hil : i < l.length := by omega
          have hc0 : ctErr o = 0 := by assumption
          have h9 : ¬ (0 < i ∧ (l.getD i ct0).num ≤ (l.getD (i - 1) ct0).num) := by
           rw [ho, hu]; have hq : ¬ (i : Int) > 0 ∨ ¬ o.1 ≤ u.1 := by assumption
           rintro ⟨q1, q2⟩
           rcases hq with hq | hq
           · omega
           · exact hq q2
          have h7 : ¬ dupP l i := fun hd => hm (by have := (takL_in hil (by rw [ho]; exact h0)).2 hd; rw [ho] at this; exact this); obtain ⟨_, _, hpc⟩ := ctErr_zero hc0; refine evk_loop ⟨{ k : Nat // k ≤ o.pcs.length ∧ ∀ j, j < k → (o.pcs.getD j pc0).1 ∉ takP (l.take i) }, 2000, fun q => [(0, .one (.sl yCT l false)), (2, .one (.int .i64 0)), (3, .one (.map 70)), (4, .one (.map 71)), (16, .one (.sl yCT l false)), (17, .one (.int .i64 l.length)), (18, .one (.int .i64 i)), (55, .one (.sl yPC o.pcs false)), (56, .one (.int .i64 o.pcs.length)), (57, .one (.int .i64 q.1))], fun q => [(70, .mapb (.pair yFL yI) .bool true false (setK (.pair yFL yI) (takL (l.take (i + 1))))), (71, .mapb yPL .bool true false (setK yPL (takP (l.take i) ++ (o.pcs.take q.1).map (fun x => x.1))))], fun q => o.pcs.length - q.1⟩ ⟨0, by omega, fun k hk => by omega⟩ ?_ ?_
          · simp only [go_sem]; rw [takL_succ hil, ho]; rw [if_pos h0]
            try simp only [List.take_zero, List.map_nil, List.append_nil]
            try (and_intros <;> first | exact (setK_push _ _ _).symm | trivial | rfl | omega)
          · rintro ⟨k, (hkl : k ≤ o.pcs.length), (hkz : ∀ j, j < k → (o.pcs.getD j pc0).1 ∉ takP (l.take i))⟩
            (simp -implicitDefEqProofs only [go_sem, bP, con22, con57, hT, hG, hk, hK, Tryz.results22]); (try simp (disch := decide +kernel) only [drawn, true_and, and_true])
            obtain ⟨y, hy⟩ : ∃ y, o.pcs.getD k pc0 = y := ⟨_, rfl⟩; have ey : (o.2.2.2.2.2.2.2).getD (k : Int).toNat ((0, 0, 0), 0, 0) = y := hy; rw [ey]; have eP : (y.1.1, y.1.2.1, y.1.2.2) = y.1 := rfl
            try simp only [eP]
            have hin := setK_in (kt := yPL) keyEq_plt y.1 (takP (l.take i) ++ (o.pcs.take k).map (fun x => x.1))
            (repeat' with_reducible first | refine And.intro ?_ ?_ | intro _) <;> try first | with_reducible (first | assumption | omega | contradiction) | decide
            all_goals first
             | (have hm := hin.1 (by assumption)
                have hm2 : y.1 ∈ takP (l.take i) := (List.mem_append.1 hm).resolve_right (by rw [← hy]; exact pcs_ne hpc (by omega)); have hd : dupB l i := dupB_of hil ho (k := k) (by omega) (by rw [hy]; exact hm2)
                rw [he hil (by rw [ckErr_5 (by rw [ho]; exact hc0) h9 h7 hd]; decide), ckErr_5 (by rw [ho]; exact hc0) h9 h7 hd]; done)
             | (have hm := mt hin.2 (Bool.eq_false_iff.1 (by assumption))
                refine fin_lp ⟨k + 1, by omega, lt_succ hkz (by rw [hy]; exact fun q => hm (List.mem_append_left _ q))⟩ ?_ (by dsimp only; omega); simp only [go_sem]; rw [pcs_push (by omega), hy, ← List.append_assoc]
                try (and_intros <;> first | exact (setK_push _ _ _).symm | trivial | rfl | omega)
                done)
             | (have hd : ¬ dupB l i := dupB_no hil ho fun j hj => hkz j (by omega)
                refine fin_lp ⟨i + 1, by omega, lt_succ hz (ckErr_0 (by rw [ho]; exact hc0) h9 h7 hd)⟩ ?_ (by dsimp only; omega); simp only [go_sem]; rw [takP_succ hil, ho, List.take_of_length_le (show o.pcs.length ≤ k by omega)]
                try first | rfl | (and_intros <;> first | trivial | rfl | omega)
                done)
             | skip)
       | (have h0 : o.2.2.2.2.2.1 = 0 := by assumption
          have hil : i < l.length := by omega
          have hc0 : ctErr o = 0 := by assumption
          have h9 : ¬ (0 < i ∧ (l.getD i ct0).num ≤ (l.getD (i - 1) ct0).num) := by
           rw [ho, hu]; have hq : ¬ (i : Int) > 0 ∨ ¬ o.1 ≤ u.1 := by assumption
           rintro ⟨q1, q2⟩
           rcases hq with hq | hq
           · omega
           · exact hq q2
          have h7 : ¬ dupP l i := fun hd => hd.1 (by rw [ho]; exact h0); obtain ⟨_, _, hpc⟩ := ctErr_zero hc0; refine evk_loop ⟨{ k : Nat // k ≤ o.pcs.length ∧ ∀ j, j < k → (o.pcs.getD j pc0).1 ∉ takP (l.take i) }, 2000, fun q => [(0, .one (.sl yCT l false)), (2, .one (.int .i64 0)), (3, .one (.map 70)), (4, .one (.map 71)), (16, .one (.sl yCT l false)), (17, .one (.int .i64 l.length)), (18, .one (.int .i64 i)), (55, .one (.sl yPC o.pcs false)), (56, .one (.int .i64 o.pcs.length)), (57, .one (.int .i64 q.1))], fun q => [(70, .mapb (.pair yFL yI) .bool true false (setK (.pair yFL yI) (takL (l.take (i + 1))))), (71, .mapb yPL .bool true false (setK yPL (takP (l.take i) ++ (o.pcs.take q.1).map (fun x => x.1))))], fun q => o.pcs.length - q.1⟩ ⟨0, by omega, fun k hk => by omega⟩ ?_ ?_
          · simp only [go_sem]; rw [takL_succ hil, ho]; rw [if_neg (fun q => q h0)]
            try simp only [List.take_zero, List.map_nil, List.append_nil]
            try (and_intros <;> first | exact (setK_push _ _ _).symm | trivial | rfl | omega)
          · rintro ⟨k, (hkl : k ≤ o.pcs.length), (hkz : ∀ j, j < k → (o.pcs.getD j pc0).1 ∉ takP (l.take i))⟩
            (simp -implicitDefEqProofs only [go_sem, bP, con22, con57, hT, hG, hk, hK, Tryz.results22]); (try simp (disch := decide +kernel) only [drawn, true_and, and_true])
            obtain ⟨y, hy⟩ : ∃ y, o.pcs.getD k pc0 = y := ⟨_, rfl⟩; have ey : (o.2.2.2.2.2.2.2).getD (k : Int).toNat ((0, 0, 0), 0, 0) = y := hy; rw [ey]; have eP : (y.1.1, y.1.2.1, y.1.2.2) = y.1 := rfl
            try simp only [eP]
            have hin := setK_in (kt := yPL) keyEq_plt y.1 (takP (l.take i) ++ (o.pcs.take k).map (fun x => x.1))
            (repeat' with_reducible first | refine And.intro ?_ ?_ | intro _) <;> try first | with_reducible (first | assumption | omega | contradiction) | decide
            all_goals first
             | (have hm := hin.1 (by assumption)
                have hm2 : y.1 ∈ takP (l.take i) := (List.mem_append.1 hm).resolve_right (by rw [← hy]; exact pcs_ne hpc (by omega)); have hd : dupB l i := dupB_of hil ho (k := k) (by omega) (by rw [hy]; exact hm2)
                rw [he hil (by rw [ckErr_5 (by rw [ho]; exact hc0) h9 h7 hd]; decide), ckErr_5 (by rw [ho]; exact hc0) h9 h7 hd]; done)
             | (have hm := mt hin.2 (Bool.eq_false_iff.1 (by assumption))
                refine fin_lp ⟨k + 1, by omega, lt_succ hkz (by rw [hy]; exact fun q => hm (List.mem_append_left _ q))⟩ ?_ (by dsimp only; omega); simp only [go_sem]; rw [pcs_push (by omega), hy, ← List.append_assoc]
                try (and_intros <;> first | exact (setK_push _ _ _).symm | trivial | rfl | omega)
                done)
             | (have hd : ¬ dupB l i := dupB_no hil ho fun j hj => hkz j (by omega)
                refine fin_lp ⟨i + 1, by omega, lt_succ hz (ckErr_0 (by rw [ho]; exact hc0) h9 h7 hd)⟩ ?_ (by dsimp only; omega); simp only [go_sem]; rw [takP_succ hil, ho, List.take_of_length_le (show o.pcs.length ≤ k by omega)]
                try first | rfl | (and_intros <;> first | trivial | rfl | omega)
                done)
             | skip)
       | (rw [checkV_ok hl (fun k hk => hz k (by omega))]; done)
       | skip)
instance kdPlt : DecidableEq Plt := instDecidableEqProd
instance kdPce : DecidableEq Pce := instDecidableEqProd
instance kdF1 : DecidableEq (ByteArray × Int) := instDecidableEqProd
instance kdF2 : DecidableEq (Int × ByteArray × Int) := instDecidableEqProd
instance kdFlt : DecidableEq Flt := instDecidableEqProd
instance kdC1 : DecidableEq (Int × List Pce) := instDecidableEqProd
instance kdC2 : DecidableEq (Int × Int × List Pce) := instDecidableEqProd
instance kdC3 : DecidableEq (Int × Int × Int × List Pce) := instDecidableEqProd
instance kdC4 : DecidableEq (Int × Int × Int × Int × List Pce) := instDecidableEqProd
instance kdC5 : DecidableEq (Int × Int × Int × Int × Int × List Pce) := instDecidableEqProd
instance kdC6 : DecidableEq (Flt × Int × Int × Int × Int × Int × List Pce) := instDecidableEqProd
instance kdCnt : DecidableEq Cnt := instDecidableEqProd
def numIdx (l : List Cnt) (n : Int) : Int := idxV (fun c => decide (c.num = n)) l
def con81 : Con := { ps := [.d true yCT, .p 3 yI], rs := [.d false .bool], pre := fun _ => True, out := fun (x : Cnt × Int × Unit) => (decide (x.1.num = x.2.1), ()), nw := id }
theorem c81 : CtrOk Tryz.prog 81 con81.ctr :=
 con_sound (G := ⟨[], [], [], [], []⟩) tab_ok EnvOk.nil rfl Tryz.func81 rfl con81 15 (by kernel_rfl) (by decide) (by decide) rfl (by decide) rfl (by
  rintro ⟨⟨(n : Int), ⟨a1, (a2 : Int), a3, (a4 : Int)⟩, (c : Int), (lm : Int), (t : Int), (p : Int), (r : Int), (l : List Pce)⟩, (k : Int), _⟩ hpre hwf X hT hG hk hK
  (simp -implicitDefEqProofs only [go_sem, bP, con81, hT, hG, hk, hK, Tryz.results81] at hwf ⊢))
def con59 : Con := { ps := [.d false (.sl yCT), .cl 81 [.p 3 yI]], rs := [.d false yI], pre := fun _ => True, out := fun (x : List Cnt × (Int × Unit) × Unit) => (numIdx x.1 x.2.1.1, ()), nw := id }
theorem c59 : CtrOk Tryz.prog 59 con59.ctr :=
 con_sound (G := ⟨[(81, con81.ctr)], [], [], [], []⟩) tab_ok (EnvOk.cons c81 has81 EnvOk.nil) rfl Tryz.func59 rfl con59 66483 (by kernel_rfl) (by decide) (by decide) rfl (by decide) rfl (by
  rintro ⟨(l : List Cnt), ⟨(n : Int), _⟩, _⟩ hpre hwf X hT hG hk hK
  (simp -implicitDefEqProofs only [go_sem, bP, con59, con81, hT, hG, hk, hK, Tryz.results59] at hwf ⊢)
  clear hwf; refine fun _ => evk_loop ⟨{ i : Nat // i ≤ l.length ∧ ∀ k, k < i → (fun c : Cnt => decide (c.num = n)) (l.getD k ct0) = false }, 1000, fun q => [(0, .one (.sl yCT l false)), (1, .one (.fn 81 [.loc 12 0])), (4, .one (.int .i64 0)), (7, .one (.int .i64 l.length)), (8, .one (.int .i64 q.1))], fun q => [(12, .cells 3 [.int .i64 n])], fun q => l.length - q.1⟩ ⟨0, by omega, fun k hk => by omega⟩ ?_ ?_
  · simp only [go_sem]
    try first | rfl | (and_intros <;> first | trivial | rfl | omega)
  · rintro ⟨i, (hi : i ≤ l.length), hz⟩
    (simp -implicitDefEqProofs only [go_sem, bP, con59, con81, hT, hG, hk, hK, Tryz.results59])
    obtain ⟨o, ho⟩ : ∃ o, l.getD i ct0 = o := ⟨_, rfl⟩; have eo : l.getD (i : Int).toNat (0, (ByteArray.empty, 0, ByteArray.empty, 0), 0, 0, 0, 0, 0, []) = o := ho; rw [eo]
    (repeat' with_reducible first | refine And.intro ?_ ?_ | intro _) <;> try first | with_reducible (first | assumption | omega | contradiction) | decide
    all_goals first
     | (have h : o.1 = n := by assumption
        exact (idxV_at (d := ct0) hz (by omega) (by show decide ((l.getD i ct0).num = n) = true; rw [ho]; exact decide_eq_true h)).symm)
     | (have h : ¬ o.1 = n := by assumption
        refine fin_lp ⟨i + 1, by omega, lt_succ hz (by show decide ((l.getD i ct0).num = n) = false; rw [ho]; exact decide_eq_false h)⟩ (by simp only [go_sem]; first | rfl | ((repeat' apply And.intro) <;> first | rfl | assumption | omega)) (by dsimp only; omega)
        done)
     | exact (idxV_none (d := ct0) fun k hk => hz k (by omega)).symm
     | skip)
def con44 : Con := { ps := [.d false (.sl yCT), .d false yI], rs := [.d false yI], pre := fun _ => True, out := fun (x : List Cnt × Int × Unit) => (numIdx x.1 x.2.1, ()), nw := id }
theorem c44 : CtrOk Tryz.prog 44 con44.ctr :=
 con_sound (G := ⟨[(59, con59.ctr)], [], [], [], []⟩) tab_ok (EnvOk.cons c59 has59 EnvOk.nil) rfl Tryz.func44 rfl con44 27 (by kernel_rfl) (by decide) (by decide) rfl (by decide) rfl (by
  rintro ⟨(l : List Cnt), (n : Int), _⟩ hpre hwf X hT hG hk hK
  (simp -implicitDefEqProofs only [go_sem, bP, con44, con59, hT, hG, hk, hK, Tryz.results44] at hwf ⊢))
def con25 : Con := { ps := [.d false (.sl yCT)], rs := [.o 85 yCT], pre := fun x => x.1.length ≤ 100000, out := fun x => (x.1, ()), nw := id }
theorem c25 : CtrOk Tryz.prog 25 con25.ctr :=
 con_sound (G := ⟨[], [], [], [], []⟩) tab_ok EnvOk.nil rfl Tryz.func25 rfl con25 21 (by kernel_rfl) (by decide) (by decide) rfl (by decide) rfl (by
  rintro ⟨(l : List Cnt), _⟩ hpre hwf X hT hG hk hK
  (simp -implicitDefEqProofs only [go_sem, con25, hT, hG, hk, hK, Tryz.results25] at hwf ⊢)
  intro a ha; have hpre : l.length ≤ 100000 := hpre; refine ⟨fun h => (List.eq_nil_of_length_eq_zero (ha h)).symm, fun _ => by omega⟩)
def con27 : Con := { ps := [.d false (.sl yPC)], rs := [.o 59 yPC], pre := fun x => x.1.length ≤ 100000, out := fun x => (x.1, ()), nw := id }
theorem c27 : CtrOk Tryz.prog 27 con27.ctr :=
 con_sound (G := ⟨[], [], [], [], []⟩) tab_ok EnvOk.nil rfl Tryz.func27 rfl con27 21 (by kernel_rfl) (by decide) (by decide) rfl (by decide) rfl (by
  rintro ⟨(l : List Pce), _⟩ hpre hwf X hT hG hk hK
  (simp -implicitDefEqProofs only [go_sem, con27, hT, hG, hk, hK, Tryz.results27] at hwf ⊢)
  intro a ha; have hpre : l.length ≤ 100000 := hpre; refine ⟨fun h => (List.eq_nil_of_length_eq_zero (ha h)).symm, fun _ => by omega⟩)
end Go.Proofs.YtkjpbhkldioggaaGreat

namespace Go.Ev
section
variable {cx : Cx} {σ : Nat → Value} {N : Nat → Prop} {m : Mem} {w : World} {fr : Nat} {P : Program}
def Cx.bare (cx : Cx) (w : World) : Cx := ⟨w, fun _ => False, fun _ => False, 0, fun _ => .int .i64 0, [], fun _ => none, cx.D, cx.gv⟩
theorem glOk_bare (h : RepM cx σ N m w) : GlOk (cx.bare w) := by
 intro g v hg; obtain ⟨h1, h2, h3, vs, e, hh, h4, h5⟩ := h.gl g v hg; exact ⟨fun h => h, fun h => h, Nat.lt_of_lt_of_le h3 h.evo.size, vs, e, hh, (h.evo.block g h3 h1).trans h4, h5⟩
theorem repM_bare (h : RepM cx σ N m w) : RepM (cx.bare w) σ N (fun _ => .dead) w where
 blk _ := trivial
 fresh _ _ := rfl
 inj _ _ _ h := by cases h
 notF _ _ h := by cases h
 low _ _ h := by cases h
 evo := ⟨rfl, rfl, rfl, fun _ => Nat.le_refl _, Nat.le_refl _, fun _ _ _ => rfl⟩
 hF _ h := h.elim
 hone := h.hone
 fix _ h := absurd h (Nat.not_lt_zero _)
 mks _ h := by cases h
 gl := glOk_bare h
theorem keeps_bare (h : RepM cx σ N m w) : Rx.Keeps (rx cx σ N m w) (rx (cx.bare w) σ N (fun _ => .dead) w) :=
 ⟨.ex fun b _ _ => ⟨fun h => h.elim id (fun ⟨_, h, _⟩ => by cases h), rfl⟩, fun _ _ => rfl, fun _ h => h⟩
theorem repM_after (h : RepM cx σ N m w) {w' : World} (he : Evo (cx.bare w) w') : RepM cx σ (Nx N fr) m w' ∧ Rx.Keeps (rx cx σ N m w) (rx cx σ (Nx N fr) m w') := by
 refine h.stepD (fun _ => False) (fun _ h => h.1) (fun id hn => h.fresh id hn.1) (fun _ _ => ⟨rfl, rfl⟩) (fun _ _ => rfl) (fun b hb _ => he.block b hb (fun h => h)) ⟨he.size, he.drawn⟩ he.os he.tape he.output
  (fun _ _ h => h.elim) (fun _ _ _ h => h.elim) (fun _ h => h.elim) (fun _ _ h => h.elim)
def nstB (C : Ctr) : Ctr := fun avs m fr => match avs with
 | .one (.nst fid i) :: r => (match m fid with
   | .fam e u xss => (match (C (.one (.sl u (xss.getD i []) false) :: r) (fun _ => .dead) fr).r with
     | .one (.bool b) => ⟨i < xss.length ∧ (C (.one (.sl u (xss.getD i []) false) :: r) (fun _ => .dead) fr).pre, .one (.bool b), [], True⟩
     | _ => bad)
   | _ => bad)
 | _ => bad
theorem nst_ok {f : FuncId} {C : Ctr} (hC : CtrOk P f C) : CtrOk P f (nstB C) := by
 intro D gv hD cx hcx σ N m w fr avs vs h hfr hr hp; unfold nstB at hp ⊢; split at hp
 · rename_i fid i r; split at hp
   · rename_i e u xss hf; split at hp
     · rename_i b hb; obtain ⟨hi, hp⟩ := hp; unfold repAs at hr; obtain ⟨v, vs', rfl, g1, g2⟩ := hr; unfold repA repC at g1; obtain ⟨n1, f1, ws, e1, e2⟩ := g1; have hblk := h.blk fid; rw [hf] at hblk; obtain ⟨f2, ws2, c1, c2⟩ := hblk; simp only [rx] at e1 c1; rw [e1] at c1; cases c1; have hxi : xss[i]? = some (xss.getD i []) := by rw [List.getD_eq_getElem?_getD, List.getElem?_eq_getElem hi]; rfl
       obtain ⟨r1, fl, r2, r3⟩ := c2.row i _ v hxi e2; have hk := keeps_bare h; have hro : ro w (Owned (cx.bare w) σ (fun _ => .dead)) (.sl u) (xss.getD i []) [v] :=
        ro_of_row r2 (roAll_mono (ro_keep hk.k u) _ _ r3) (fun g _ h => h.elim id (fun ⟨_, h, _⟩ => by cases h))
       have hargs : repAs (rx (cx.bare w) σ N (fun _ => .dead) w) (.one (.sl u (xss.getD i []) false) :: r) (v :: vs') := by
        unfold repAs; refine ⟨v, vs', rfl, ?_, repAs_keep hk _ _ g2⟩; unfold repA repC; exact ⟨hro, fun h => by cases h⟩
       refine (hC D gv hD (cx.bare w) hcx σ N (fun _ => .dead) w fr _ _ (repM_bare h) hfr hargs hp).mono fun e w' he => ?_; obtain ⟨v', rfl, σ', q1, q2, q3, q4⟩ := he; rw [hb] at q3; obtain ⟨k1, k2⟩ := repM_after (fr := fr) h q1.evo; refine ⟨v', rfl, σ, k1, k2, ?_, trivial⟩; unfold repA repC at q3 ⊢; exact q3
     · exact hp.elim
   · exact hp.elim
 · exact hp.elim
end
end Go.Ev

namespace Go.Ev
def sealU (id : Nat) (e : TypeId) (t : Ty) (p fid : Nat) (xs : List t.den) : Blk → Option Heap
 | .fam e2 u xss => if slAt t = some (p, u) then some [(fid, .dead), (id, .row e t (putSls u t xs xss))] else none
 | _ => none
def sealOf (m : Mem) : List AV → Option Heap
 | .one (.row id) :: _ => (match m id with
   | .rowg e t p fid xs none => sealU id e t p fid xs (m fid)
   | _ => none)
 | _ => none
def Chc.addU (u : Heap) (C : Chc) : Chc := ⟨C.A, C.pre, C.r, fun a => u ++ C.u a, C.asm⟩
theorem Chc.addU_mk {u : Heap} {A : Type} {p : Prop} {r : A → AV} {v : A → Heap} {q : A → Prop} : Chc.addU u ⟨A, p, r, v, q⟩ = ⟨A, p, r, fun a => u ++ v a, q⟩ := rfl
def sealQ (C : RCtr) (avs : List AV) (m : Mem) (fr : Nat) : Option Heap → Chc
 | some u => Chc.addU u (C avs (updM m u) fr)
 | none => C avs m fr
def sealR (C : RCtr) : RCtr := fun avs m fr => sealQ C avs m fr (sealOf m avs)
theorem seal_of {cx : Cx} {σ : Nat → Value} {N : Nat → Prop} {m : Mem} {w : World} (h : RepM cx σ N m w) {avs : List AV} {vs : List Value} (hr : repAs (rx cx σ N m w) avs vs) {u : Heap} (hu : sealOf m avs = some u) :
 RepM cx σ N (updM m u) w ∧ Rx.Keeps (rx cx σ N m w) (rx cx σ N (updM m u) w) := by
 unfold sealOf at hu; split at hu
 · rename_i id r; split at hu
   · rename_i e t p fid xs hm; unfold sealU at hu; split at hu
     · rename_i e2 u2 xss hf; split at hu
       · rename_i ht; cases hu; unfold repAs at hr; obtain ⟨v, vs', rfl, g1, g2⟩ := hr; unfold repA repC at g1; exact seal_here h g1.1 hm hf ht
       · cases hu
     · cases hu
   · cases hu
 · cases hu
theorem sealR_ok {P : Program} {f : FuncId} {C : RCtr} (hC : RCtrOk P f C) : RCtrOk P f (sealR C) := by
 intro D gv hD cx hcx σ N m w fr avs vs h hfr hr hp; unfold sealR at hp ⊢
 cases hs : sealOf m avs with
 | none =>
   rw [hs] at hp
   exact hC D gv hD cx hcx σ N m w fr avs vs h hfr hr hp
 | some u =>
   rw [hs] at hp; obtain ⟨k1, k2⟩ := seal_of h hr hs; refine (hC D gv hD cx hcx σ N (updM m u) w fr avs vs k1 hfr (repAs_keep k2 _ _ hr) hp).mono fun e w' he => ?_; obtain ⟨v, rfl, a, σ', q1, q2, q3, q4⟩ := he; refine ⟨v, rfl, a, σ', ?_, ?_, ?_, q4⟩
   · simp only [sealQ, Chc.addU]; rw [updM_append]; exact q1
   · simp only [sealQ, Chc.addU]; rw [updM_append]; exact ⟨k2.k.trans q2.k (Nat.le_refl _), fun id hn => (q2.σ id hn).trans (k2.σ id hn), fun id hn => k2.N id (q2.N id hn)⟩
   · simp only [sealQ, Chc.addU]; rw [updM_append]; exact q3
theorem altB_ptr {m : Mem} {op : BinOp} {p : Option Addr} {avs : List AV} {d : TD} : altB m op (.const (.pointer p)) avs d = none := by cases op <;> rfl
attribute [go_sem] altB_ptr sealR sealOf sealU sealQ Chc.addU_mk
end Go.Ev

set_option maxRecDepth 100000
set_option maxHeartbeats 4000000
namespace Go.Proofs.YtkjpbhkldioggaaGreat
open Go.Ev Go.RowKit
abbrev Tsk := Int × List (Int × Int × Int)
theorem task_walk (g off n cap : Nat) (a : Option Addr) (zs : List Int) (t : Int) (w : World) (hz : zs.length = n) (hbig : n ≤ 9223372036854775807) (ha : 0 < n → a = some ⟨g, off, none⟩) (hc : ∀ j, j < n → w.cell? ⟨g, off + j * 2, none⟩ = some (.int .i64 (zs.getD j 0))) :
 Calls Tryz.prog 45 #[.slice a n cap, .int .i64 t] w fun e w' => w' = w ∧
  ((∃ k, k < n ∧ zs.getD k 0 = t ∧ (∀ j, j < k → zs.getD j 0 ≠ t) ∧ e = .returned (.pointer (some ⟨g, off + k * 2, none⟩))) ∨ ((∀ j, j < n → zs.getD j 0 ≠ t) ∧ e = .returned (.pointer none))) := by
 go_enter Tryz.func45, Tryz.ntmps45
 go_wp2
 go_loop [8] (fun i => ∃ k : Nat, k ≤ n ∧ i = .int .i64 k ∧ ∀ j, j < k → zs.getD j 0 ≠ t) (fun i => n - (intOf i).toNat)
 case atStart => exact ⟨0, Nat.zero_le _, rfl, fun j hj => absurd hj (Nat.not_lt_zero _)⟩
 case round =>
  obtain ⟨k, hk, rfl, hno⟩ := hrel; by_cases hlt : k < n
  · obtain rfl := ha (by omega); have hcell := hc k hlt; clear hc ha; obtain ⟨z, hz0⟩ : ∃ z, zs.getD k 0 = z := ⟨_, rfl⟩; rw [hz0] at hcell
    go_wp2
    · have hq : z = t := by
       have h : (z == t) = true := by assumption
       simpa using h
      simp only [gdE] at hz0 hno
      go_ret
      exact ⟨rfl, .inl ⟨k, hlt, hz0.trans hq, hno, rfl⟩⟩
    · have hq : z ≠ t := by
       have h : (z == t) = false := by assumption
       simpa using h
      refine ⟨⟨k + 1, by omega, by simp, fun j hj => ?_⟩, by simp only [intOf]; omega⟩; by_cases e : j = k
      · rw [e, hz0]; exact hq
      · exact hno j (by omega)
  · obtain rfl : k = n := by omega
    clear hc ha
    go_wp2
    simp only [gdE] at hno
    go_ret
    exact ⟨rfl, .inr ⟨hno, rfl⟩⟩
def taskC (id : Nat) (t : Int) (xs : List Tsk) : Chc := ⟨Bool, True, fun b => match b with | true => .one (.ep id 2 (idxV (fun (x : Tsk) => decide (x.1 = t)) xs) 0) | false => .one .nilp, fun _ => [], fun b => match b with | true => 0 ≤ idxV (fun (x : Tsk) => decide (x.1 = t)) xs | false => idxV (fun (x : Tsk) => decide (x.1 = t)) xs < 0⟩
def taskO (id : Nat) (t : Int) (p : Nat) : Option (List Tsk) → Chc
 | some xs => if p = 1 then taskC id t xs else Chc.bad
 | none => Chc.bad
def taskR : RCtr := fun avs m _ => match avs with
 | [.one (.row id), .one (.int .i64 t)] => (match m id with
   | .rowg _ u p _ xs none => taskO id t p (castTy u yTK xs)
   | _ => Chc.bad)
 | _ => Chc.bad
theorem taskR_inv {avs : List AV} {m : Mem} {fr : Nat} (hp : (taskR avs m fr).pre) : ∃ id t e fid xs, avs = [.one (.row id), .one (.int .i64 t)] ∧ m id = .rowg e yTK 1 fid xs none ∧ taskR avs m fr = taskC id t xs := by
 unfold taskR at hp ⊢; split at hp
 case h_2 => exact hp.elim
 rename_i id t; split at hp
 case h_2 => exact hp.elim
 rename_i e u p fid xs0 hm; unfold taskO at hp; split at hp
 case h_2 => exact hp.elim
 rename_i xs hcast; split at hp
 case isFalse => exact hp.elim
 rename_i hp1; subst hp1; obtain ⟨e1, e2⟩ := castTy_eq hcast; subst e1; have e2 : xs0 = xs := e2.symm; subst e2; exact ⟨id, t, e, fid, xs0, rfl, hm, by simp only [hm, hcast, taskO, if_true]⟩
theorem taskR_ok : RCtrOk Tryz.prog 45 taskR := by
 intro D gv hD cx hcx σ N m w fr avs vs h hfr hr hp; obtain ⟨id, t, e, fid, xs, rfl, hm, hC⟩ := taskR_inv hp; rw [hC]; clear hp hC; unfold repAs at hr; obtain ⟨v, vs', rfl, g1, g2⟩ := hr; unfold repAs at g2; obtain ⟨v2, vs2, rfl, g3, g4⟩ := g2; unfold repAs at g4; subst g4; unfold repA repC at g1 g3; obtain ⟨n1, rfl⟩ := g1; obtain ⟨rfl, _⟩ := g3; simp only [rx] at n1; have hb := h.blk id; rw [hm] at hb; obtain ⟨f, vs3, flat, b1, b2, b3, b4, b5⟩ := hb; simp only [rx] at b1 b2 b4; have hlen : vs3.toList.length = xs.length := b3; have hcells : ∀ g, blkOf (σ id) = some g → ∀ j, j < xs.length → w.cell? ⟨g, 0 + j * 2, none⟩ = some (.int .i64 ((xs.map (fun x => x.1)).getD j 0)) := fun g hg j hj => by
  have hz : j < (xs.zip (holed vs3.toList none)).length := by
   rw [List.length_zip]; simp only [holed, List.length_map]; omega
  obtain ⟨pre, c, post, e1, e2, e3, _, _⟩ := roAll_at (n := (yTK : Ty).n) (fun x c hx => elG_len (t := yTK) (p := 1) x c hx) b5 hz; have e2 : pre.length = j * 2 := e2; obtain ⟨c1, c2, c3, c4⟩ := e3; have hcl : c.length = 2 := elG_len _ _ ⟨c1, c2, c3, c4⟩; obtain ⟨p0, p1, rfl⟩ : ∃ p0 p1, c = [p0, p1] := by
   match c, hcl with | [p0, p1], _ => exact ⟨p0, p1, rfl⟩
  obtain ⟨q1, q2, q3, q4, q5⟩ := c4; have q4 : q1 = [.int .i64 (xs[j]).1] := by
   have := q4.1; simpa using this
  subst q4; have q3 : [p0, Value.slice none 0 0] = [Value.int .i64 (xs[j]).1] ++ q2 := q3; have hp0 : p0 = .int .i64 (xs[j]).1 := by
   have := congrArg (fun l => l[0]?) q3; simpa using this
  have hfl : flat[j * 2]? = some p0 := by
   rw [e1, List.getElem?_append_right (by omega), e2, Nat.sub_self]; rfl
  rw [Nat.zero_add, rowR_cells b4 hg (j * 2) p0 hfl, hp0, gdE, List.getElem?_map, List.getElem?_eq_getElem hj]; rfl
 obtain ⟨a, cap, hv, hbig, hg⟩ : ∃ a cap, σ id = .slice a xs.length cap ∧ xs.length ≤ 9223372036854775807 ∧ (0 < xs.length → ∃ g, a = some ⟨g, 0, none⟩ ∧ blkOf (σ id) = some g) := by
  rcases b4.2 with ⟨q1, a, q2⟩ | ⟨g, cap, cur, q1, q2, q3, q4, q5, q6, q7⟩
  · exact ⟨a, 0, by rw [q2, q1], by omega, fun h => by omega⟩
  · exact ⟨_, cap, q2, by simp only [maxLen] at q5; omega, fun _ => ⟨g, rfl, by rw [q2]; exact blkOf_slice q1⟩⟩
 obtain ⟨g, hgg⟩ : ∃ g, 0 < xs.length → a = some ⟨g, 0, none⟩ ∧ blkOf (σ id) = some g := by
  by_cases q : 0 < xs.length
  · obtain ⟨g, h1⟩ := hg q; exact ⟨g, fun _ => h1⟩
  · exact ⟨0, fun h => absurd h q⟩
 have hwalk := task_walk g 0 xs.length cap a (xs.map (fun x => x.1)) t w (by simp) hbig (fun q => (hgg q).1) (fun j hj => hcells g (hgg (by omega)).2 j hj); have hgd : ∀ k, k < xs.length → (xs.map (fun x => x.1)).getD k 0 = (xs.getD k (0, [])).1 := fun k hk => by
  rw [gdE, List.getElem?_map, List.getElem?_eq_getElem hk, gdE, List.getElem?_eq_getElem hk]; rfl
 rw [show (rx cx σ N m w).σ id = .slice a xs.length cap from hv]; refine hwalk.mono ?_; rintro e2 w' ⟨rfl, ⟨k, hk, ht, hno, rfl⟩ | ⟨hno, rfl⟩⟩
 · obtain ⟨k1, k2⟩ := h.weaken (N' := Nx N fr) (fun id h => h.1); have hidx : idxV (fun (x : Tsk) => decide (x.1 = t)) xs = k := idxV_at (d := (0, [])) (fun j hj => by rw [decide_eq_false]; rw [← hgd j (by omega)]; exact hno j hj) hk (by rw [← hgd k hk, decide_eq_true ht]); refine ⟨_, rfl, true, σ, k1, k2, ?_, ?_⟩
   · show repA _ (.one (.ep id 2 (idxV (fun (x : Tsk) => decide (x.1 = t)) xs) 0)) _; unfold repA repC; rw [hidx]; refine ⟨fun hn => n1 hn.1, g, xs.length, cap, ?_, ?_⟩
     · rw [← (hgg (by omega)).1]; exact hv
     · simp
   · show 0 ≤ idxV (fun (x : Tsk) => decide (x.1 = t)) xs; rw [hidx]; omega
 · obtain ⟨k1, k2⟩ := h.weaken (N' := Nx N fr) (fun id h => h.1); refine ⟨_, rfl, false, σ, k1, k2, ?_, ?_⟩
   · show repA _ (.one .nilp) _; unfold repA repC; rfl
   · show idxV (fun (x : Tsk) => decide (x.1 = t)) xs < 0; rw [idxV_none (d := ((0, []) : Tsk)) fun k hk => by rw [decide_eq_false]; rw [← hgd k hk]; exact hno k hk]; omega
attribute [go_sem] taskR taskO taskC
structure RRaw where
 rctr : RCtr
def con45 : RRaw := ⟨taskR⟩
theorem c45 : RCtrOk Tryz.prog 45 con45.rctr := taskR_ok
end Go.Proofs.YtkjpbhkldioggaaGreat
