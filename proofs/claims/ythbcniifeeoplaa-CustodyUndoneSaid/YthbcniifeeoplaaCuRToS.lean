/- The contracts of the functions about seals. -/
import Derived.Test.YthbcniifeeoplaaCuAToIns
import Derived.Test.YthbcniifeeoplaaCuDelToCmp
set_option linter.unusedSimpArgs false
set_option linter.unusedVariables false
set_option maxRecDepth 100000
set_option maxHeartbeats 4000000
namespace Go.Proofs.Ythbcniifeeoplaa
open Go.Ev

theorem has18 : FnHas Try.prog 18 := ⟨⟨_, Try.func18, by kernel_rfl, by kernel_rfl⟩⟩
theorem has19 : FnHas Try.prog 19 := ⟨⟨_, Try.func19, by kernel_rfl, by kernel_rfl⟩⟩
theorem has20 : FnHas Try.prog 20 := ⟨⟨_, Try.func20, by kernel_rfl, by kernel_rfl⟩⟩
theorem has21 : FnHas Try.prog 21 := ⟨⟨_, Try.func21, by kernel_rfl, by kernel_rfl⟩⟩
theorem has24 : FnHas Try.prog 24 := ⟨⟨_, Try.func24, by kernel_rfl, by kernel_rfl⟩⟩
theorem has34 : FnHas Try.prog 34 := ⟨⟨_, Try.func34, by kernel_rfl, by kernel_rfl⟩⟩


abbrev Seals := List (Int × Int)
/-- Where a bag stands, or would stand. -/
def lbS (l : Seals) (x : Int) : Nat := (l.takeWhile (fun s => decide (s.1 < x))).length
def hasS (l : Seals) (x : Int) : Bool := decide (x ∈ l.map (·.1))
def SrtS (l : Seals) : Prop := l.Pairwise (fun a b => a.1 < b.1)
theorem lbS_at {x : Int} : ∀ {l : Seals} {i : Nat}, i ≤ l.length → (∀ k, k < i → (l.getD k (0, 0)).1 < x) → (i < l.length → ¬ (l.getD i (0, 0)).1 < x) → lbS l x = i
 | [], i, h, _, _ => by simp at h; subst h; rfl
 | a :: l, 0, _, _, h => by
   have := h (by simp)
   unfold lbS
   rw [List.takeWhile_cons, if_neg (by simpa using this)]; rfl
 | a :: l, i + 1, hl, h, h2 => by
   have h0 := h 0 (by omega)
   have := lbS_at (x := x) (l := l) (i := i) (by simpa using hl) (fun k hk => h (k + 1) (by omega)) (fun hi => h2 (by simpa using hi))
   unfold lbS at this ⊢
   rw [List.takeWhile_cons, if_pos (by simpa using h0), List.length_cons, this]
theorem srt_lt {l : Seals} (h : SrtS l) {i j : Nat} (hij : i < j) (hj : j < l.length) : (l.getD i (0, 0)).1 < (l.getD j (0, 0)).1 := by
 have := List.pairwise_iff_getElem.1 h i j (by omega) hj hij
 simpa [List.getD_eq_getElem?_getD, hj, show i < l.length by omega] using this
theorem lbS_spec (l : Seals) (x : Int) : lbS l x ≤ l.length ∧ (∀ k, k < lbS l x → (l.getD k (0, 0)).1 < x) ∧ (lbS l x < l.length → ¬ (l.getD (lbS l x) (0, 0)).1 < x) := by
 induction l with
 | nil => exact ⟨Nat.le_refl _, fun k hk => by simp [lbS] at hk, fun h => by simp [lbS] at h⟩
 | cons a l ih =>
   obtain ⟨i1, i2, i3⟩ := ih
   unfold lbS at *
   by_cases h : a.1 < x
   · rw [List.takeWhile_cons, if_pos (by simpa using h)]
     refine ⟨by simpa using i1, fun k hk => ?_, fun hk => ?_⟩
     · cases k with
       | zero => exact h
       | succ k => exact i2 k (by simpa using hk)
     · exact i3 (by simpa using hk)
   · rw [List.takeWhile_cons, if_neg (by simpa using h)]
     exact ⟨by simp, fun k hk => by simp at hk, fun _ => h⟩
theorem hasS_lb {l : Seals} (hs : SrtS l) (x : Int) : hasS l x = decide (lbS l x < l.length ∧ (l.getD (lbS l x) (0, 0)).1 = x) := by
 unfold hasS
 rw [decide_eq_decide, List.mem_map]
 obtain ⟨h1, h2, h3⟩ := lbS_spec l x
 constructor
 · rintro ⟨s, hm, rfl⟩
   obtain ⟨i, hi, rfl⟩ := List.getElem_of_mem hm
   have e : l.getD i (0, 0) = l[i] := by simp [hi]
   have hle : lbS l l[i].1 ≤ i := Nat.not_lt.1 fun k => by have := h2 i k; rw [e] at this; omega
   refine ⟨by omega, ?_⟩
   rcases Nat.lt_or_ge (lbS l l[i].1) i with q | q
   · have := srt_lt hs q hi
     have := h3 (by omega)
     rw [e] at *; omega
   · rw [show lbS l l[i].1 = i by omega, e]
 · rintro ⟨hl, e⟩
   exact ⟨l.getD (lbS l x) (0, 0), by simp [hl], e⟩

theorem cmpS_lt (a b : Int) : cmpS a b < 0 ↔ a < b := by
 unfold cmpS
 (repeat' split) <;> constructor <;> intro h <;> omega
theorem cmpS_eq (a b : Int) : cmpS a b = 0 ↔ a = b := by
 unfold cmpS
 (repeat' split) <;> constructor <;> intro h <;> omega
def conS47 : Con := { ps := [.d false (.sl SE), .d false (.int .i64), .cl 48 [.fb 80 40]], rs := [.d false (.int .i64), .d false .bool], pre := fun (x : Seals × Int × (Unit × Unit) × Unit) => SrtS x.1 ∧ x.1.length ≤ 1000000, out := fun (x : Seals × Int × (Unit × Unit) × Unit) => ((lbS x.1 x.2.1 : Nat), hasS x.1 x.2.1, ()), nw := id }
theorem cS47 : CtrOk Try.prog 47 conS47.ctr :=
 con_sound (G := ⟨[(48, conS48.ctr)], [], [], [], []⟩) tab_ok (EnvOk.cons cS48 has48 EnvOk.nil) rfl Try.func47 rfl conS47 2147618759 (by kernel_rfl) (by decide) (by decide) rfl (by decide) rfl (by
  rintro ⟨(l : Seals), (x : Int), c, _⟩ hpre hwf X hT hG hk hK
  obtain ⟨hs, hl⟩ : SrtS l ∧ l.length ≤ 1000000 := hpre
  (simp -implicitDefEqProofs (maxSteps := 4000000) only [go_sem, Bool.not_eq_true', Bool.not_eq_false', Bool.or_eq_true, Bool.or_eq_false_iff, Bool.and_eq_true, Bool.and_eq_false_iff, decide_eq_true_eq, decide_eq_false_iff_not, Classical.not_not, not_or, maxLen, conS47, conS48, hT, hG, hk, hK, Try.results47] at hwf ⊢); (try simp (disch := decide +kernel) only [drawn, true_and, and_true])
  clear hwf
  intro _
  refine evk_loop ⟨{ q : Nat × Nat // q.1 ≤ q.2 ∧ q.2 ≤ l.length ∧ (∀ k, k < q.1 → (l.getD k (0, 0)).1 < x) ∧ (∀ k, q.2 ≤ k → k < l.length → ¬ (l.getD k (0, 0)).1 < x) }, 1000, fun q => [(0, .one (.sl SE l false)), (1, .one (.int .i64 x)), (2, .one (.fn 48 [.loc 16 0])), (8, .one (.int .i64 l.length)), (9, .one (.int .i64 q.1.1)), (10, .one (.int .i64 q.1.2))], fun i => [(16, .cells 80 [.fn 40 []])], fun q => q.1.2 - q.1.1⟩ ⟨(0, l.length), by omega, by omega, fun k hk => by omega, fun k h1 h2 => by omega⟩ ?_ ?_
  · simp only [go_sem]
    rfl
  · rintro ⟨⟨i, j⟩, (h1 : i ≤ j), (h2 : j ≤ l.length), (h3 : ∀ k, k < i → (l.getD k (0, 0)).1 < x), (h4 : ∀ k, j ≤ k → k < l.length → ¬ (l.getD k (0, 0)).1 < x)⟩
    (simp -implicitDefEqProofs (maxSteps := 4000000) only [go_sem, Bool.not_eq_true', Bool.not_eq_false', Bool.or_eq_true, Bool.or_eq_false_iff, Bool.and_eq_true, Bool.and_eq_false_iff, decide_eq_true_eq, decide_eq_false_iff_not, Classical.not_not, not_or, maxLen, conS47, conS48, hT, hG, hk, hK, Try.results47]); (try simp (disch := decide +kernel) only [drawn, true_and, and_true])
    have e2 : ((i : Int) + (j : Int)) / 2 ^ Int.toNat 1 = (((i + j) / 2 : Nat) : Int) := by
     show ((i : Int) + (j : Int)) / 2 = _
     omega
    simp only [e2]
    obtain ⟨H, hH⟩ : ∃ H, (i + j) / 2 = H := ⟨_, rfl⟩
    rw [hH]
    have hc : cmpS (l.getD ((H : Nat) : Int).toNat (0, 0)).1 x < 0 ↔ (l.getD H (0, 0)).1 < x := cmpS_lt _ _
    have elb : ¬ i < j → lbS l x = i := fun h => lbS_at (by omega) h3 (fun hi => h4 i (by omega) hi)
    have hij : i < j → i ≤ H ∧ H < j := fun h => by omega
    (repeat' (with_reducible (first | refine And.intro ?_ ?_ | intro _))) <;> (try (first | with_reducible (first | done | assumption | omega | contradiction) | decide))
    all_goals first
     | omega
     | (have hlt := hc.1 (by assumption)
        obtain ⟨m1, m2⟩ := hij (by omega)
        refine fin_lp ⟨(H + 1, j), by omega, h2, fun k hk => ?_, h4⟩ ?_ (by dsimp only; omega)
        · rcases Nat.lt_or_ge k H with q | q
          · rcases Nat.lt_or_ge k i with q2 | q2
            · exact h3 k q2
            · have := srt_lt hs q (by omega)
              omega
          · rw [show k = H by omega]; exact hlt
        · simp only [go_sem]
          try (first | rfl | exact ⟨rfl, rfl⟩ | (and_intros <;> first | trivial | rfl | omega))
          done)
     | (have hlt : ¬ (l.getD H (0, 0)).1 < x := fun q => by have := hc.2 q; omega
        obtain ⟨m1, m2⟩ := hij (by omega)
        refine fin_lp ⟨(i, H), by omega, by show H ≤ l.length; omega, h3, fun k hk hkl => ?_⟩ ?_ (by dsimp only; omega)
        · rcases Nat.lt_or_ge H k with q | q
          · have := srt_lt hs q hkl
            omega
          · rw [show k = H by omega]; exact hlt
        · simp only [go_sem]
          try (first | rfl | exact ⟨rfl, rfl⟩ | (and_intros <;> first | trivial | rfl | omega))
          done)
     | (rw [elb (by omega)] <;> rfl)
     | (rw [hasS_lb hs, elb (by omega), Bool.eq_iff_iff, Bool.and_eq_true, decide_eq_true_eq, decide_eq_true_eq, decide_eq_true_eq, cmpS_eq]
        exact and_congr ⟨fun h => by omega, fun h => by omega⟩ Iff.rfl)
     | (trace_state; fail))

def conS39 : Con := { ps := [.d false (.sl SE), .d false (.int .i64), .cl 40 []], rs := [.d false (.int .i64), .d false .bool], pre := fun (x : Seals × Int × Unit × Unit) => SrtS x.1 ∧ x.1.length ≤ 1000000, out := fun (x : Seals × Int × Unit × Unit) => ((lbS x.1 x.2.1 : Nat), hasS x.1 x.2.1, ()), nw := id }
theorem cS39 : CtrOk Try.prog 39 conS39.ctr :=
 con_sound (G := ⟨[(47, conS47.ctr)], [], [], [], []⟩) tab_ok (EnvOk.cons cS47 has47 EnvOk.nil) rfl Try.func39 rfl conS39 231 (by kernel_rfl) (by decide) (by decide) rfl (by decide) rfl (by
  rintro ⟨(l : Seals), (x : Int), c, _⟩ hpre hwf X hT hG hk hK
  obtain ⟨hs, hl⟩ : SrtS l ∧ l.length ≤ 1000000 := hpre
  (simp -implicitDefEqProofs (maxSteps := 4000000) only [go_sem, Bool.not_eq_true', Bool.not_eq_false', Bool.or_eq_true, Bool.or_eq_false_iff, Bool.and_eq_true, Bool.and_eq_false_iff, decide_eq_true_eq, decide_eq_false_iff_not, Classical.not_not, not_or, maxLen, conS39, conS47, hT, hG, hk, hK, Try.results39] at hwf ⊢); (try simp (disch := decide +kernel) only [drawn, true_and, and_true])
  (repeat' (with_reducible (first | refine And.intro ?_ ?_ | intro _))) <;> (try (first | with_reducible (first | done | assumption | omega | contradiction) | decide))
  all_goals first | assumption | exact ⟨hs, hl⟩)
def conS31 : Con := { ps := [.d true (.sl SE), .d false (.int .i64)], rs := [.d false (.int .i64), .d false .bool], pre := fun (x : Seals × Int × Unit) => SrtS x.1 ∧ x.1.length ≤ 1000000, out := fun (x : Seals × Int × Unit) => ((lbS x.1 x.2.1 : Nat), hasS x.1 x.2.1, ()), nw := id }
theorem cS31 : CtrOk Try.prog 31 conS31.ctr :=
 con_sound (G := ⟨[(39, conS39.ctr)], [], [], [], []⟩) tab_ok (EnvOk.cons cS39 has39 EnvOk.nil) rfl Try.func31 rfl conS31 55 (by kernel_rfl) (by decide) (by decide) rfl (by decide) rfl (by
  rintro ⟨(l : Seals), (x : Int), _⟩ hpre hwf X hT hG hk hK
  obtain ⟨hs, hl⟩ : SrtS l ∧ l.length ≤ 1000000 := hpre
  (simp -implicitDefEqProofs (maxSteps := 4000000) only [go_sem, Bool.not_eq_true', Bool.not_eq_false', Bool.or_eq_true, Bool.or_eq_false_iff, Bool.and_eq_true, Bool.and_eq_false_iff, decide_eq_true_eq, decide_eq_false_iff_not, Classical.not_not, not_or, maxLen, conS31, conS39, hT, hG, hk, hK, Try.results31] at hwf ⊢); (try simp (disch := decide +kernel) only [drawn, true_and, and_true])
  (repeat' (with_reducible (first | refine And.intro ?_ ?_ | intro _))) <;> (try (first | with_reducible (first | done | assumption | omega | contradiction) | decide))
  all_goals first | assumption | exact ⟨hs, hl⟩)
def clearV (l : Seals) (b m : Int) : Seals × Int := if b < 1 ∨ b > 40 ∨ m < 1 ∨ m > 1048576 then ([], 1) else if hasS l b = true then ([], 5) else (insL l (lbS l b) [(b, m)], 0)
def revV (l : Seals) (b : Int) : Seals × Int := if hasS l b = true then (delL l (lbS l b), 0) else ([], 6)
def conS17 : Con := { ps := [.d true (.sl SE), .d false (.int .i64), .d false (.int .i64)], rs := [.d true (.sl SE), .d false (.int .i64)], pre := fun (x : Seals × Int × Int × Unit) => SrtS x.1 ∧ x.1.length ≤ 100000, out := fun (x : Seals × Int × Int × Unit) => ((clearV x.1 x.2.1 x.2.2.1).1, (clearV x.1 x.2.1 x.2.2.1).2, ()), nw := id }
theorem cS17 : CtrOk Try.prog 17 conS17.ctr :=
 con_sound (G := ⟨[(31, conS31.ctr), (33, con33.ctr), (32, conS32.ctr)], [], [], [], []⟩) tab_ok (EnvOk.cons cS31 has31 (EnvOk.cons c33 has33 (EnvOk.cons cS32 has32 EnvOk.nil))) rfl Try.func17 rfl conS17 2155873231 (by kernel_rfl) (by decide) (by decide) rfl (by decide) rfl (by
  rintro ⟨(l : Seals), (b : Int), (m : Int), _⟩ hpre hwf X hT hG hk hK
  obtain ⟨hs, hl⟩ : SrtS l ∧ l.length ≤ 100000 := hpre
  (simp -implicitDefEqProofs (maxSteps := 4000000) only [go_sem, Bool.not_eq_true', Bool.not_eq_false', Bool.or_eq_true, Bool.or_eq_false_iff, Bool.and_eq_true, Bool.and_eq_false_iff, decide_eq_true_eq, decide_eq_false_iff_not, Classical.not_not, not_or, maxLen, conS17, conS31, con33, conS32, hT, hG, hk, hK, Try.results17] at hwf ⊢); (try simp (disch := decide +kernel) only [drawn, true_and, and_true])
  clear hwf
  have hb := (lbS_spec l b).1
  unfold clearV
  (repeat' (with_reducible (first | refine And.intro ?_ ?_ | intro _))) <;> (try (first | with_reducible (first | done | assumption | omega | contradiction) | decide))
  all_goals first
   | omega
   | exact ⟨hs, by omega⟩
   | (rw [if_pos (by omega)] <;> rfl)
   | (rw [if_neg (by omega), if_pos (by assumption)] <;> rfl)
   | (rw [if_neg (by omega), if_neg (by simp_all)] <;> rfl)
   | (trace_state; fail))
def conS19 : Con := { ps := [.d true (.sl SE), .d false (.int .i64)], rs := [.d true (.sl SE), .d false (.int .i64)], pre := fun (x : Seals × Int × Unit) => SrtS x.1 ∧ x.1.length ≤ 100000, out := fun (x : Seals × Int × Unit) => ((revV x.1 x.2.1).1, (revV x.1 x.2.1).2, ()), nw := id }
theorem cS19 : CtrOk Try.prog 19 conS19.ctr :=
 con_sound (G := ⟨[(31, conS31.ctr), (33, con33.ctr), (34, conS34.ctr)], [], [], [], []⟩) tab_ok (EnvOk.cons cS31 has31 (EnvOk.cons c33 has33 (EnvOk.cons cS34 has34 EnvOk.nil))) rfl Try.func19 rfl conS19 33015 (by kernel_rfl) (by decide) (by decide) rfl (by decide) rfl (by
  rintro ⟨(l : Seals), (b : Int), _⟩ hpre hwf X hT hG hk hK
  obtain ⟨hs, hl⟩ : SrtS l ∧ l.length ≤ 100000 := hpre
  (simp -implicitDefEqProofs (maxSteps := 4000000) only [go_sem, Bool.not_eq_true', Bool.not_eq_false', Bool.or_eq_true, Bool.or_eq_false_iff, Bool.and_eq_true, Bool.and_eq_false_iff, decide_eq_true_eq, decide_eq_false_iff_not, Classical.not_not, not_or, maxLen, conS19, conS31, con33, conS34, hT, hG, hk, hK, Try.results19] at hwf ⊢); (try simp (disch := decide +kernel) only [drawn, true_and, and_true])
  clear hwf
  have hb := (lbS_spec l b).1
  have hh : hasS l b = true → lbS l b < l.length := fun h => by
   rw [hasS_lb hs, decide_eq_true_eq] at h; exact h.1
  unfold revV
  (repeat' (with_reducible (first | refine And.intro ?_ ?_ | intro _))) <;> (try (first | with_reducible (first | done | assumption | omega | contradiction) | decide))
  all_goals first
   | omega
   | exact ⟨hs, by omega⟩
   | (have := hh (by simp_all); omega)
   | (rw [if_pos (by assumption)] <;> rfl)
   | (rw [if_neg (by simp_all)] <;> rfl)
   | (trace_state; fail))

def conS15 : Con := { ps := [.p 58 ySR], rs := [.d false .bool], pre := fun (x : Src × Unit) => 0 ≤ x.1.2, out := fun (x : Src × Unit) => (decide (x.1.2 < (x.1.1.length : Int)), ()), nw := id }
theorem cS15 : CtrOk Try.prog 15 conS15.ctr :=
 con_sound (G := ⟨[], [], [], [], []⟩) tab_ok EnvOk.nil rfl Try.func15 rfl conS15 5 (by kernel_rfl) (by decide) (by decide) rfl (by decide) rfl (by
  rintro ⟨⟨(l : List Int), (a : Int)⟩, _⟩ hpre hwf X hT hG hk hK
  (simp -implicitDefEqProofs (maxSteps := 4000000) only [go_sem, Bool.not_eq_true', Bool.not_eq_false', Bool.or_eq_true, Bool.or_eq_false_iff, Bool.and_eq_true, Bool.and_eq_false_iff, decide_eq_true_eq, decide_eq_false_iff_not, Classical.not_not, not_or, maxLen, conS15, hT, hG, hk, hK, Try.results15] at hwf ⊢); (try simp (disch := decide +kernel) only [drawn, true_and, and_true])
  (repeat' (with_reducible (first | refine And.intro ?_ ?_ | intro _))) <;> (try (first | with_reducible (first | done | assumption | omega | contradiction) | decide))
  all_goals rfl)
def conS24 : Con := { ps := [.d true (.sl SE)], rs := [.d false (.sl (.int .i64))], pre := fun (x : Seals × Unit) => x.1.length ≤ 100000, out := fun (x : Seals × Unit) => (x.1.map (·.1), ()), nw := id }
theorem cS24 : CtrOk Try.prog 24 conS24.ctr :=
 con_sound (G := ⟨[], [], [], [], []⟩) tab_ok EnvOk.nil rfl Try.func24 rfl conS24 543 (by kernel_rfl) (by decide) (by decide) rfl (by decide) rfl (by
  rintro ⟨(l : Seals), _⟩ hpre hwf X hT hG hk hK
  have hl : l.length ≤ 100000 := hpre
  (simp -implicitDefEqProofs (maxSteps := 4000000) only [go_sem, Bool.not_eq_true', Bool.not_eq_false', Bool.or_eq_true, Bool.or_eq_false_iff, Bool.and_eq_true, Bool.and_eq_false_iff, decide_eq_true_eq, decide_eq_false_iff_not, Classical.not_not, not_or, maxLen, conS24, hT, hG, hk, hK, Try.results24] at hwf ⊢); (try simp (disch := decide +kernel) only [drawn, true_and, and_true])
  clear hwf
  (repeat' (with_reducible (first | refine And.intro ?_ ?_ | intro _))) <;> (try (first | with_reducible (first | done | assumption | omega | contradiction) | decide))
  refine evk_loop ⟨{ i : Nat // i ≤ l.length }, 1000, fun q => [(1, .one (.loc 70 0)), (3, .one (.row 71)), (4, .one (.int .i64 q.1))], fun q => [(70, .cells 38 [.sl SE l false]), (71, .row 3 (.int .i64) ((l.take q.1).map (·.1)))], fun q => l.length - q.1⟩ ⟨0, by omega⟩ ?_ ?_
  · simp only [go_sem]
    try (first | rfl | exact ⟨rfl, rfl⟩ | (and_intros <;> first | trivial | rfl | omega))
  · rintro ⟨i, (hi : i ≤ l.length)⟩
    (simp -implicitDefEqProofs (maxSteps := 4000000) only [go_sem, Bool.not_eq_true', Bool.not_eq_false', Bool.or_eq_true, Bool.or_eq_false_iff, Bool.and_eq_true, Bool.and_eq_false_iff, decide_eq_true_eq, decide_eq_false_iff_not, Classical.not_not, not_or, maxLen, conS24, hT, hG, hk, hK, Try.results24]); (try simp (disch := decide +kernel) only [drawn, true_and, and_true])
    have hlen : (l.take i).length ≤ i := by rw [List.length_take]; omega
    have e : i < l.length → (l.take (i + 1)).map (·.1) = (l.take i).map (·.1) ++ [(l.getD i (0, 0)).1] := fun h => by
     rw [List.take_succ_eq_append_getElem h, List.map_append]
     simp [h]
    (repeat' (with_reducible (first | refine And.intro ?_ ?_ | intro _))) <;> (try (first | with_reducible (first | done | assumption | omega | contradiction) | decide))
    all_goals first
     | omega
     | (simp only [List.length_map]; omega)
     | (refine fin_lp ⟨i + 1, by omega⟩ ?_ (by dsimp only; omega)
        simp only [go_sem]
        rw [e (by omega)]
        try (first | rfl | exact ⟨rfl, rfl⟩ | (and_intros <;> first | trivial | rfl | omega))
        done)
     | (rw [List.take_of_length_le (by omega)] <;> rfl)
     | (trace_state; fail))
def conS18 : Con := { ps := [.d true (.sl SE), .d false (.int .i64), .d false (.int .i64)], rs := [.d true (.sl SE), .d false (.int .i64)], pre := fun (x : Seals × Int × Int × Unit) => x.1.length ≤ 100000, out := fun (x : Seals × Int × Int × Unit) => ((clearV x.1 x.2.1 x.2.2.1).1, (clearV x.1 x.2.1 x.2.2.1).2, ()), nw := id }
theorem cS18 : CtrOk Try.prog 18 conS18.ctr :=
 con_sound (G := ⟨[(24, conS24.ctr), (14, con14.ctr)], [], [], [], []⟩) tab_ok (EnvOk.cons cS24 has24 (EnvOk.cons c14 has14 EnvOk.nil)) rfl Try.func18 rfl conS18 17592462869455 (by kernel_rfl) (by decide) (by decide) rfl (by decide) rfl (by
  rintro ⟨(l : Seals), (b : Int), (m : Int), _⟩ hpre hwf X hT hG hk hK
  have hl : l.length ≤ 100000 := hpre
  (simp -implicitDefEqProofs (maxSteps := 4000000) only [go_sem, Bool.not_eq_true', Bool.not_eq_false', Bool.or_eq_true, Bool.or_eq_false_iff, Bool.and_eq_true, Bool.and_eq_false_iff, decide_eq_true_eq, decide_eq_false_iff_not, Classical.not_not, not_or, maxLen, conS18, conS24, con14, hT, hG, hk, hK, Try.results18] at hwf ⊢); (try simp (disch := decide +kernel) only [drawn, true_and, and_true])
  clear hwf
  have hb := lbS_spec l b
  have hh : (decide (b ∈ l.map (·.1))) = hasS l b := rfl
  try rw [hh]
  have hcl : (((¬b < 1 ∧ ¬b > 40) ∧ ¬m < 1) ∧ ¬m > 1048576) → ¬ b ∈ l.map (fun x => x.1) → clearV l b m = (insL l (lbS l b) [(b, m)], 0) := fun k1 k2 => by
   unfold clearV
   rw [if_neg (by omega), if_neg (by unfold hasS; simpa using k2)]
  have hc1 : ((b < 1 ∨ b > 40) ∨ m < 1) ∨ m > 1048576 → clearV l b m = ([], 1) := fun k1 => by unfold clearV; rw [if_pos (by omega)]
  have hc5 : (((¬b < 1 ∧ ¬b > 40) ∧ ¬m < 1) ∧ ¬m > 1048576) → b ∈ l.map (fun x => x.1) → clearV l b m = ([], 5) := fun k1 k2 => by
   unfold clearV
   rw [if_neg (by omega), if_pos (by unfold hasS; simpa using k2)]
  (repeat' (with_reducible (first | refine And.intro ?_ ?_ | intro _))) <;> (try (first | with_reducible (first | done | assumption | omega | contradiction) | decide))
  all_goals try (first
   | omega
   | (rw [hc1 (by omega)] <;> rfl)
   | (rw [hc5 (by assumption) (by assumption)] <;> rfl))
  all_goals (
   refine evk_loop ⟨{ i : Nat // i ≤ lbS l b }, 1000, fun q => [(1, .one (.int .i64 b)), (2, .one (.int .i64 m)), (3, .one (.loc 70 0)), (6, .one (.loc 71 0)), (7, .one (.int .i64 0)), (8, .one (.loc 72 0)), (9, .one (.int .i64 q.1))], fun q => [(70, .cells 38 [.sl SE l false]), (71, .cells 38 [.row 73]), (72, .cells 38 [.row 74]), (73, .row 65 SE []), (74, .row 65 SE [])], fun q => lbS l b - q.1⟩ ⟨0, by omega⟩ ?_ ?_
   · simp only [go_sem]
     try (first | rfl | exact ⟨rfl, rfl⟩ | (and_intros <;> first | trivial | rfl | omega))
   · rintro ⟨i, (hi : i ≤ lbS l b)⟩
     (simp -implicitDefEqProofs (maxSteps := 4000000) only [go_sem, Bool.not_eq_true', Bool.not_eq_false', Bool.or_eq_true, Bool.or_eq_false_iff, Bool.and_eq_true, Bool.and_eq_false_iff, decide_eq_true_eq, decide_eq_false_iff_not, Classical.not_not, not_or, maxLen, conS18, conS24, con14, hT, hG, hk, hK, Try.results18]); (try simp (disch := decide +kernel) only [drawn, true_and, and_true])
     have h2 : i < lbS l b → (l.getD i (0, 0)).1 < b := hb.2.1 i
     have h3 : i = lbS l b → i < l.length → ¬ (l.getD i (0, 0)).1 < b := fun h => by rw [h]; exact hb.2.2
     have h4 : i < l.length → (l.getD i (0, 0)).1 < b → i < lbS l b := fun hl' hlt => by
      rcases Nat.lt_or_ge i (lbS l b) with q | q
      · exact q
      · exact absurd hlt (h3 (by omega) hl')
     have h5 : ¬ (i < l.length ∧ (l.getD i (0, 0)).1 < b) → i = lbS l b := fun hn => by
      rcases Nat.lt_or_ge i (lbS l b) with q | q
      · exact absurd ⟨by omega, h2 q⟩ hn
      · omega
     have hi2 := hb.1
     (repeat' (with_reducible (first | refine And.intro ?_ ?_ | intro _))) <;> (try (first | with_reducible (first | done | assumption | omega | contradiction) | decide))
     all_goals first
      | omega
      | (have hlt : (l.getD i (0, 0)).1 < b := by assumption
         have hl' : (i : Int) < (l.length : Int) := by assumption
         have := h4 (by omega) hlt
         refine fin_lp ⟨i + 1, by omega⟩ ?_ (by dsimp only; omega)
         simp only [go_sem]
         try (first | rfl | exact ⟨rfl, rfl⟩ | (and_intros <;> first | trivial | rfl | omega))
         done)
      | (have hc : (i : Int) < (l.length : Int) ∧ (l.getD i (0, 0)).1 < b := by assumption
         have := h4 (by omega) hc.2
         refine fin_lp ⟨i + 1, by omega⟩ ?_ (by dsimp only; omega)
         simp only [go_sem]
         try (first | rfl | exact ⟨rfl, rfl⟩ | (and_intros <;> first | trivial | rfl | omega))
         done)
      | (simp only [List.length_append, List.length_take, List.length_drop, List.length_cons, List.length_nil]; omega)
      | (have hd : ¬ (i : Int) < (l.length : Int) ∨ ¬ (l.getD i (0, 0)).1 < b := by assumption
         have e := h5 (fun q => hd.elim (fun k => by have := q.1; omega) (fun k => k q.2))
         have hcc := hcl (by assumption) (by assumption)
         rw [← e] at hcc
         rw [hcc]
         first | done | rfl | (show l.take i ++ [(b, m)] ++ (l.take l.length).drop i = _; rw [List.take_length]; rfl))
      | (trace_state; fail)))

theorem filt_del {x : Int} : ∀ {l : Seals}, SrtS l → hasS l x = true → l.filter (fun s => !decide (s.1 = x)) = delL l (lbS l x)
 | [], _, h => by simp [hasS] at h
 | a :: l, hs, h => by
   have hs2 : SrtS l := (List.pairwise_cons.1 hs).2
   have hlt := (List.pairwise_cons.1 hs).1
   by_cases e : a.1 = x
   · have h0 : lbS (a :: l) x = 0 := by unfold lbS; rw [List.takeWhile_cons, if_neg (by simp; omega)]; rfl
     rw [h0, List.filter_cons, if_neg (by simpa using e)]
     unfold delL
     simp only [List.take_zero, List.nil_append, Nat.zero_add, List.drop_succ_cons, List.drop_zero]
     refine List.filter_eq_self.2 fun s hm => ?_
     have := hlt s hm
     simp; omega
   · have hm : hasS l x = true := by
      unfold hasS at h ⊢
      rw [decide_eq_true_eq, List.map_cons, List.mem_cons] at h
      rcases h with h | h
      · exact absurd h.symm e
      · exact decide_eq_true h
     have hax : a.1 < x := by
      unfold hasS at hm
      rw [decide_eq_true_eq, List.mem_map] at hm
      obtain ⟨s, hs3, rfl⟩ := hm
      exact hlt s hs3
     have h1 : lbS (a :: l) x = lbS l x + 1 := by unfold lbS; rw [List.takeWhile_cons, if_pos (by simpa using hax), List.length_cons]
     rw [h1, List.filter_cons, if_pos (by simpa using e), filt_del hs2 hm]
     unfold delL
     simp
def conS20 : Con := { ps := [.d true (.sl SE), .d false (.int .i64)], rs := [.d true (.sl SE), .d false (.int .i64)], pre := fun (x : Seals × Int × Unit) => SrtS x.1 ∧ x.1.length ≤ 100000, out := fun (x : Seals × Int × Unit) => ((revV x.1 x.2.1).1, (revV x.1 x.2.1).2, ()), nw := id }
theorem cS20 : CtrOk Try.prog 20 conS20.ctr :=
 con_sound (G := ⟨[(24, conS24.ctr), (14, con14.ctr)], [], [], [], []⟩) tab_ok (EnvOk.cons cS24 has24 (EnvOk.cons c14 has14 EnvOk.nil)) rfl Try.func20 rfl conS20 268701943 (by kernel_rfl) (by decide) (by decide) rfl (by decide) rfl (by
  rintro ⟨(l : Seals), (b : Int), _⟩ hpre hwf X hT hG hk hK
  obtain ⟨hs, hl⟩ : SrtS l ∧ l.length ≤ 100000 := hpre
  (simp -implicitDefEqProofs (maxSteps := 4000000) only [go_sem, Bool.not_eq_true', Bool.not_eq_false', Bool.or_eq_true, Bool.or_eq_false_iff, Bool.and_eq_true, Bool.and_eq_false_iff, decide_eq_true_eq, decide_eq_false_iff_not, Classical.not_not, not_or, maxLen, conS20, conS24, con14, hT, hG, hk, hK, Try.results20] at hwf ⊢); (try simp (disch := decide +kernel) only [drawn, true_and, and_true])
  clear hwf
  have hc0 : ¬ b ∈ l.map (fun x => x.1) → revV l b = ([], 6) := fun k => by unfold revV; rw [if_neg (by unfold hasS; simpa using k)]
  have hc1 : b ∈ l.map (fun x => x.1) → revV l b = (l.filter (fun s => !decide (s.1 = b)), 0) := fun k => by
   have hh : hasS l b = true := decide_eq_true k
   unfold revV
   rw [if_pos hh, filt_del hs hh]
  (repeat' (with_reducible (first | refine And.intro ?_ ?_ | intro _))) <;> (try (first | with_reducible (first | done | assumption | omega | contradiction) | decide))
  all_goals try (first
   | omega
   | (rw [hc0 (by assumption)] <;> rfl))
  all_goals (
   refine evk_loop ⟨{ i : Nat // i ≤ l.length }, 1000, fun q => [(1, .one (.int .i64 b)), (2, .one (.loc 70 0)), (4, .one (.loc 71 0)), (5, .one (.int .i64 0)), (6, .one (.loc 72 0)), (7, .one (.int .i64 q.1))], fun q => [(70, .cells 38 [.sl SE l false]), (71, .cells 38 [.row 73]), (72, .cells 38 [.row 74]), (73, .row 65 SE []), (74, .row 65 SE ((l.take q.1).filter (fun s => !decide (s.1 = b))))], fun q => l.length - q.1⟩ ⟨0, by omega⟩ ?_ ?_
   · simp only [go_sem]
     try (first | rfl | exact ⟨rfl, rfl⟩ | (and_intros <;> first | trivial | rfl | omega))
   · rintro ⟨i, (hi : i ≤ l.length)⟩
     (simp -implicitDefEqProofs (maxSteps := 4000000) only [go_sem, Bool.not_eq_true', Bool.not_eq_false', Bool.or_eq_true, Bool.or_eq_false_iff, Bool.and_eq_true, Bool.and_eq_false_iff, decide_eq_true_eq, decide_eq_false_iff_not, Classical.not_not, not_or, maxLen, conS20, conS24, con14, hT, hG, hk, hK, Try.results20]); (try simp (disch := decide +kernel) only [drawn, true_and, and_true])
     have hfl : ((l.take i).filter (fun s => !decide (s.1 = b))).length ≤ l.length := Nat.le_trans (List.length_filter_le _ _) (by rw [List.length_take]; omega)
     have hst : i < l.length → (l.take (i + 1)).filter (fun s => !decide (s.1 = b)) = (l.take i).filter (fun s => !decide (s.1 = b)) ++ (if (l.getD i (0, 0)).1 = b then [] else [l.getD i (0, 0)]) := fun h => by
      rw [List.take_succ_eq_append_getElem h, List.filter_append]
      congr 1
      have e : l.getD i (0, 0) = l[i] := by simp [h]
      rw [e]
      by_cases q : l[i].1 = b <;> simp [q]
     (repeat' (with_reducible (first | refine And.intro ?_ ?_ | intro _))) <;> (try (first | with_reducible (first | done | assumption | omega | contradiction) | decide))
     all_goals first
      | omega
      | (refine Nat.le_trans (Nat.mul_le_mul_right 16 (Nat.add_le_add_right hfl 1)) ?_; omega)
      | (have hq : ¬ (l.getD (i : Int).toNat (0, 0)).1 = b := by assumption
         refine fin_lp ⟨i + 1, by omega⟩ ?_ (by dsimp only; omega)
         simp only [go_sem]
         exact ⟨((hst (by omega)).trans (congrArg _ (if_neg hq))).symm, by omega⟩)
      | (have hq : (l.getD (i : Int).toNat (0, 0)).1 = b := by assumption
         refine fin_lp ⟨i + 1, by omega⟩ ?_ (by dsimp only; omega)
         simp only [go_sem]
         exact ⟨((hst (by omega)).trans ((congrArg _ (if_pos hq)).trans (List.append_nil _))).symm, by omega⟩)
      | (rw [hc1 (by assumption), List.take_of_length_le (by omega)] <;> rfl)
      | (rw [hc1 (by assumption)] <;> rfl)
      | (trace_state; fail)))
def conS21 : Con := { ps := [.d true (.sl SE), .d true (.sl SE)], rs := [.d false .bool], pre := fun _ => True, out := fun (x : Seals × Seals × Unit) => (decide (x.1 = x.2.1), ()), nw := id }
theorem cS21 : CtrOk Try.prog 21 conS21.ctr :=
 con_sound (G := ⟨[], [], [], [], []⟩) tab_ok EnvOk.nil rfl Try.func21 rfl conS21 1073877055 (by kernel_rfl) (by decide) (by decide) rfl (by decide) rfl (by
  rintro ⟨(a : Seals), (b : Seals), _⟩ hpre hwf X hT hG hk hK
  (simp -implicitDefEqProofs (maxSteps := 4000000) only [go_sem, Bool.not_eq_true', Bool.not_eq_false', Bool.or_eq_true, Bool.or_eq_false_iff, Bool.and_eq_true, Bool.and_eq_false_iff, decide_eq_true_eq, decide_eq_false_iff_not, Classical.not_not, not_or, maxLen, conS21, hT, hG, hk, hK, Try.results21] at hwf ⊢); (try simp (disch := decide +kernel) only [drawn, true_and, and_true])
  have hla := hwf.1.1
  clear hwf
  (repeat' (with_reducible (first | refine And.intro ?_ ?_ | intro _))) <;> (try (first | with_reducible (first | done | assumption | omega | contradiction) | decide))
  all_goals try (refine (decide_eq_false (fun e => ?_)).symm; subst e; omega)
  all_goals (
   have hab : a.length = b.length := by omega
   refine evk_loop ⟨{ i : Nat // i ≤ a.length ∧ ∀ k, k < i → a.getD k (0, 0) = b.getD k (0, 0) }, 1000, fun q => [(2, .one (.loc 70 0)), (3, .one (.loc 71 0)), (5, .one (.int .i64 q.1))], fun q => [(70, .cells 38 [.sl SE a false]), (71, .cells 38 [.sl SE b false])], fun q => a.length - q.1⟩ ⟨0, by omega, fun k hk => by omega⟩ ?_ ?_
   · simp only [go_sem]
     try (first | rfl | exact ⟨rfl, rfl⟩ | (and_intros <;> first | trivial | rfl | omega))
   · rintro ⟨i, (hi : i ≤ a.length), (hz : ∀ k, k < i → a.getD k (0, 0) = b.getD k (0, 0))⟩
     (simp -implicitDefEqProofs (maxSteps := 4000000) only [go_sem, Bool.not_eq_true', Bool.not_eq_false', Bool.or_eq_true, Bool.or_eq_false_iff, Bool.and_eq_true, Bool.and_eq_false_iff, decide_eq_true_eq, decide_eq_false_iff_not, Classical.not_not, not_or, maxLen, conS21, hT, hG, hk, hK, Try.results21]); (try simp (disch := decide +kernel) only [drawn, true_and, and_true])
     (repeat' (with_reducible (first | refine And.intro ?_ ?_ | intro _))) <;> (try (first | with_reducible (first | done | assumption | omega | contradiction) | decide))
     all_goals first
      | omega
      | (have hq : (a.getD (i : Int).toNat (0, 0)).1 = (b.getD (i : Int).toNat (0, 0)).1 ∧ (a.getD (i : Int).toNat (0, 0)).2 = (b.getD (i : Int).toNat (0, 0)).2 := by assumption
         refine fin_lp ⟨i + 1, by omega, fun k hk => ?_⟩ ?_ (by dsimp only; omega)
         · rcases Nat.lt_or_ge k i with q | q
           · exact hz k q
           · rw [show k = i by omega]; exact Prod.ext hq.1 hq.2
         · simp only [go_sem]
           try (first | rfl | exact ⟨rfl, rfl⟩ | (and_intros <;> first | trivial | rfl | omega))
           done)
      | (have hq : ¬ (a.getD (i : Int).toNat (0, 0)).1 = (b.getD (i : Int).toNat (0, 0)).1 ∨ ¬ (a.getD (i : Int).toNat (0, 0)).2 = (b.getD (i : Int).toNat (0, 0)).2 := by assumption
         refine (decide_eq_false (fun e => ?_)).symm
         subst e
         rcases hq with k | k <;> exact k rfl)
      | (refine (decide_eq_true ?_).symm
         refine List.ext_getElem hab fun k h1 h2 => ?_
         have := hz k (by omega)
         simpa [h1, h2] using this)
      | (trace_state; fail)))
end Go.Proofs.Ythbcniifeeoplaa

/- CustodyScript, CustodyUndone: the laws. -/
set_option linter.unusedSimpArgs false
set_option linter.unusedVariables false
set_option maxRecDepth 100000
set_option maxHeartbeats 8000000
namespace Go.Proofs.Ythbcniifeeoplaa
open Go.Ev

theorem srt_del {l : Seals} (h : SrtS l) (i : Nat) : SrtS (delL l i) := by
 unfold delL
 refine List.Pairwise.sublist ?_ h
 conv => rhs; rw [← List.take_append_drop i l]
 exact List.Sublist.append (List.Sublist.refl _) (by rw [← List.drop_drop]; exact List.drop_sublist _ _)
theorem srt_ins {l : Seals} (h : SrtS l) {b m : Int} (hn : hasS l b = false) : SrtS (insL l (lbS l b) [(b, m)]) := by
 obtain ⟨h1, h2, h3⟩ := lbS_spec l b
 have hne : ∀ s ∈ l, s.1 ≠ b := fun s hs e => by
  unfold hasS at hn
  rw [decide_eq_false_iff_not] at hn
  exact hn (List.mem_map.2 ⟨s, hs, e⟩)
 have htk : ∀ s ∈ l.take (lbS l b), s.1 < b := fun s hs => by
  obtain ⟨k, hk, rfl⟩ := List.getElem_of_mem hs
  rw [List.length_take] at hk
  have := h2 k (by omega)
  simpa [show k < l.length by omega] using this
 have hdr : ∀ s ∈ l.drop (lbS l b), b < s.1 := fun s hs => by
  obtain ⟨k, hk, rfl⟩ := List.getElem_of_mem hs
  rw [List.length_drop] at hk
  have hlt : lbS l b < l.length := by omega
  have h4 := h3 hlt
  have h5 := hne l[lbS l b + k] (List.getElem_mem _)
  rw [List.getElem_drop]
  rcases Nat.eq_zero_or_pos k with e | e
  · subst e
    have : (l.getD (lbS l b) (0, 0)).1 = l[lbS l b].1 := by simp [hlt]
    simp only [Nat.add_zero] at h5 ⊢
    omega
  · have h6 := srt_lt h (show lbS l b < lbS l b + k by omega) (by omega)
    have e1 : (l.getD (lbS l b + k) (0, 0)).1 = l[lbS l b + k].1 := by simp [show lbS l b + k < l.length by omega]
    omega
 unfold insL SrtS
 have hsp : (l.take (lbS l b) ++ l.drop (lbS l b)).Pairwise (fun a b => a.1 < b.1) := by rw [List.take_append_drop]; exact h
 obtain ⟨k1, k2, k3⟩ := List.pairwise_append.1 hsp
 rw [List.append_assoc, List.pairwise_append]
 refine ⟨k1, ?_, fun x hx y hy => ?_⟩
 · rw [List.singleton_append, List.pairwise_cons]
   exact ⟨hdr, k2⟩
 · rw [List.singleton_append, List.mem_cons] at hy
   rcases hy with rfl | hy
   · exact htk x hx
   · exact k3 x hx y hy
theorem ins_len {l : Seals} {b m : Int} : (insL l (lbS l b) [(b, m)]).length = l.length + 1 := by
 have := (lbS_spec l b).1
 unfold insL; simp only [List.length_append, List.length_take, List.length_drop, List.length_singleton]; omega
theorem clear_ok {l : Seals} (h : SrtS l) {b m : Int} (he : (clearV l b m).2 = 0) : SrtS (clearV l b m).1 ∧ (clearV l b m).1.length = l.length + 1 := by
 unfold clearV at he ⊢
 split
 · rename_i q; rw [if_pos q] at he; cases he
 · rename_i q
   rw [if_neg q] at he
   split
   · rename_i q2; rw [if_pos q2] at he; cases he
   · rename_i q2
     exact ⟨srt_ins h (by simpa using q2), ins_len⟩
theorem rev_ok {l : Seals} (h : SrtS l) {b : Int} (he : (revV l b).2 = 0) : SrtS (revV l b).1 ∧ (revV l b).1.length ≤ l.length := by
 unfold revV at he ⊢
 split
 · refine ⟨srt_del h _, ?_⟩
   unfold delL; simp only [List.length_append, List.length_take, List.length_drop]; omega
 · rename_i q; rw [if_neg q] at he; cases he

theorem lb_ins {l : Seals} {b m : Int} : lbS (insL l (lbS l b) [(b, m)]) b = lbS l b := by
 obtain ⟨h1, h2, h3⟩ := lbS_spec l b
 refine lbS_at (by rw [ins_len]; omega) (fun k hk => ?_) (fun _ => ?_)
 · have := h2 k hk
   unfold insL
   rw [List.append_assoc, List.getD_eq_getElem?_getD, List.getElem?_append_left (by rw [List.length_take]; omega), List.getElem?_take_of_lt hk, ← List.getD_eq_getElem?_getD]
   exact this
 · unfold insL
   rw [List.append_assoc, List.getD_eq_getElem?_getD, List.getElem?_append_right (by rw [List.length_take]; omega), List.length_take, Nat.min_eq_left h1, Nat.sub_self]
   simp
theorem del_ins {α : Type} {l : List α} {i : Nat} (h : i ≤ l.length) (x : α) : delL (insL l i [x]) i = l := by
 unfold delL insL
 have hl : (l.take i).length = i := by rw [List.length_take]; omega
 rw [List.append_assoc, List.take_left' hl, show l.take i ++ ([x] ++ l.drop i) = (l.take i ++ [x]) ++ l.drop i by rw [List.append_assoc], List.drop_left' (by rw [List.length_append, hl]; rfl), List.take_append_drop]
theorem undone {l : Seals} {b m : Int} (hs : SrtS l) (h1 : 1 ≤ b) (h2 : b ≤ 40) (h3 : 1 ≤ m) (h4 : m ≤ 1048576) :
 (b ∈ l.map (fun x => x.1) → clearV l b m = ([], 5)) ∧ (¬ b ∈ l.map (fun x => x.1) → clearV l b m = (insL l (lbS l b) [(b, m)], 0) ∧ revV (insL l (lbS l b) [(b, m)]) b = (l, 0) ∧ SrtS (insL l (lbS l b) [(b, m)]) ∧ b ∈ (insL l (lbS l b) [(b, m)]).map (fun x => x.1) ∧ (insL l (lbS l b) [(b, m)]).length = l.length + 1) := by
 constructor
 · intro h
   unfold clearV
   rw [if_neg (by omega), if_pos (by unfold hasS; simpa using h)]
 · intro h
   have hn : hasS l b = false := by unfold hasS; simpa using h
   have hin : b ∈ (insL l (lbS l b) [(b, m)]).map (fun x => x.1) := by unfold insL; simp
   refine ⟨?_, ?_, srt_ins hs hn, hin, ins_len⟩
   · unfold clearV
     rw [if_neg (by omega), if_neg (by rw [hn]; simp)]
   · unfold revV
     rw [if_pos (show hasS (insL l (lbS l b) [(b, m)]) b = true from decide_eq_true hin), lb_ins, del_ins (lbS_spec l b).1]
def con5 : Con := { ps := [.d false (.sl (.int .i64)), .d false (.int .i64), .d false (.int .i64)], rs := [.d false .bool], pre := fun _ => True, out := fun _ => (true, ()), nw := id }
theorem c5 : CtrOk Try.prog 5 con5.ctr :=
 con_sound (G := ⟨[(9, con9.ctr), (10, con10.ctr), (15, conS15.ctr), (16, con16.ctr), (17, conS17.ctr), (18, conS18.ctr), (19, conS19.ctr), (20, conS20.ctr), (21, conS21.ctr), (22, con22.ctr), (23, con23.ctr), (24, conS24.ctr), (8, con8.ctr)], [], [], [], []⟩) tab_ok (EnvOk.cons c9 has9 (EnvOk.cons c10 has10 (EnvOk.cons cS15 has15 (EnvOk.cons c16 has16 (EnvOk.cons cS17 has17 (EnvOk.cons cS18 has18 (EnvOk.cons cS19 has19 (EnvOk.cons cS20 has20 (EnvOk.cons cS21 has21 (EnvOk.cons c22 has22 (EnvOk.cons c23 has23 (EnvOk.cons cS24 has24 (EnvOk.cons c8 has8 EnvOk.nil))))))))))))) rfl Try.func5 rfl con5 77749041773968106809589703 (by kernel_rfl) (by decide) (by decide) rfl (by decide) rfl (by
  rintro ⟨(src : List Int), (bag : Int), (im : Int), _⟩ hpre hwf X hT hG hk hK
  (simp -implicitDefEqProofs (maxSteps := 4000000) only [go_sem, Bool.not_eq_true', Bool.not_eq_false', Bool.or_eq_true, Bool.or_eq_false_iff, Bool.and_eq_true, Bool.and_eq_false_iff, decide_eq_true_eq, decide_eq_false_iff_not, Classical.not_not, not_or, maxLen, con5, con9, con10, conS15, con16, conS17, conS18, conS19, conS20, conS21, con22, con23, conS24, con8, hT, hG, hk, hK, Try.results5] at hwf ⊢); (try simp (disch := decide +kernel) only [drawn, true_and, and_true])
  clear hwf
  intros
  refine evk_loop ⟨{ q : Src × Seals × Nat // 0 ≤ q.1.2 ∧ SrtS q.2.1 ∧ q.2.1.length ≤ q.2.2 ∧ q.2.2 ≤ 20 }, 1000, fun q => [(1, .one (.int .i64 bag)), (2, .one (.int .i64 im)), (7, .one (.loc 70 0)), (8, .one (.loc 71 0)), (9, .one (.loc 72 0)), (10, .one (.int .i64 q.1.2.2))],
   fun q => [(70, .cells 58 [.sl (.int .i64) q.1.1.1 false, .int .i64 q.1.1.2]), (71, .cells 38 [.sl SE q.1.2.1 false]), (72, .cells 38 [.sl SE q.1.2.1 false])], fun q => 20 - q.1.2.2⟩ ⟨((src.take 2000, 0), [], 0), Int.le_refl 0, .nil, Nat.zero_le _, Nat.zero_le _⟩ ?_ ?_
  · simp only [go_sem]
    try (first | rfl | exact ⟨rfl, rfl⟩ | (and_intros <;> first | trivial | rfl | omega))
  · rintro ⟨⟨⟨s, a⟩, l, i⟩, (h1 : 0 ≤ a), (hs : SrtS l), (hl : l.length ≤ i), (hi : i ≤ 20)⟩
    (simp -implicitDefEqProofs (maxSteps := 4000000) only [go_sem, Bool.not_eq_true', Bool.not_eq_false', Bool.or_eq_true, Bool.or_eq_false_iff, Bool.and_eq_true, Bool.and_eq_false_iff, decide_eq_true_eq, decide_eq_false_iff_not, Classical.not_not, not_or, maxLen, con5, con9, con10, conS15, con16, conS17, conS18, conS19, conS20, conS21, con22, con23, conS24, con8, hT, hG, hk, hK, Try.results5]); (try simp (disch := decide +kernel) only [drawn, true_and, and_true])
    have p1 : 0 ≤ (Src.step (s, a)).snd := step_pos h1
    have p2 : 0 ≤ (Src.step (s, a)).step.snd := step_pos p1
    have p3 : 0 ≤ (Src.step (s, a)).step.step.snd := step_pos p2
    have kc : ∀ b m, (clearV l b m).2 = 0 → SrtS (clearV l b m).1 ∧ (clearV l b m).1.length = l.length + 1 := fun b m h => clear_ok hs h
    have kr : ∀ b, (revV l b).2 = 0 → SrtS (revV l b).1 ∧ (revV l b).1.length ≤ l.length := fun b h => rev_ok hs h
    generalize goMod (Src.step (s, a)).step.raw 3 = V3
    generalize goMod (Src.step (s, a)).raw 5 = V2
    generalize goMod (Src.raw (s, a)) 7 = V1
    generalize (Src.step (s, a)).step.step = S3 at p3 ⊢
    obtain ⟨s3, a3⟩ := S3
    have hl2 : l.length ≤ 20 := by omega
    clear hpre
    (repeat' (with_reducible (first | refine And.intro ?_ ?_ | intro _))) <;> (try (first | with_reducible (first | done | assumption | omega | contradiction) | decide))
    all_goals first
     | omega
     | exact ⟨hs, by omega⟩
     | (have hq := (kc _ _ (by assumption)).2
        omega)
     | (have hq := (kr _ (by assumption)).2
        omega)
     | (have hq := kc _ _ (by assumption)
        refine fin_lp ⟨((s3, a3), (clearV l _ _).1, i + 1), p3, hq.1, (by rw [hq.2]; show l.length + 1 ≤ i + 1; omega), (by show i + 1 ≤ 20; omega)⟩ ?_ (by dsimp only; omega)
        simp only [go_sem]
        try (first | rfl | exact ⟨rfl, rfl⟩ | (and_intros <;> first | trivial | rfl | omega))
        done)
     | (have hq := kr _ (by assumption)
        refine fin_lp ⟨((s3, a3), (revV l _).1, i + 1), p3, hq.1, Nat.le_trans hq.2 (by show l.length ≤ i + 1; omega), (by show i + 1 ≤ 20; omega)⟩ ?_ (by dsimp only; omega)
        simp only [go_sem]
        try (first | rfl | exact ⟨rfl, rfl⟩ | (and_intros <;> first | trivial | rfl | omega))
        done)
     | (refine fin_lp ⟨((s3, a3), l, i + 1), p3, hs, (by show l.length ≤ i + 1; omega), (by show i + 1 ≤ 20; omega)⟩ ?_ (by dsimp only; omega)
        simp only [go_sem]
        try (first | rfl | exact ⟨rfl, rfl⟩ | (and_intros <;> first | trivial | rfl | omega))
        done)
     | (trace_state; fail))
def con6 : Con := { ps := [.d false (.sl (.int .i64)), .d false (.int .i64)], rs := [.d false .bool], pre := fun _ => True, out := fun _ => (true, ()), nw := id }
theorem c6 : CtrOk Try.prog 6 con6.ctr :=
 con_sound (G := ⟨[(9, con9.ctr), (15, conS15.ctr), (16, con16.ctr), (17, conS17.ctr), (13, con13.ctr), (14, con14.ctr), (19, conS19.ctr), (21, conS21.ctr), (23, con23.ctr), (24, conS24.ctr), (8, con8.ctr)], [], [], [], []⟩) tab_ok (EnvOk.cons c9 has9 (EnvOk.cons cS15 has15 (EnvOk.cons c16 has16 (EnvOk.cons cS17 has17 (EnvOk.cons c13 has13 (EnvOk.cons c14 has14 (EnvOk.cons cS19 has19 (EnvOk.cons cS21 has21 (EnvOk.cons c23 has23 (EnvOk.cons cS24 has24 (EnvOk.cons c8 has8 EnvOk.nil))))))))))) rfl Try.func6 rfl con6 562984317386739 (by kernel_rfl) (by decide) (by decide) rfl (by decide) rfl (by
  rintro ⟨(src : List Int), (bag : Int), _⟩ hpre hwf X hT hG hk hK
  (simp -implicitDefEqProofs (maxSteps := 4000000) only [go_sem, Bool.not_eq_true', Bool.not_eq_false', Bool.or_eq_true, Bool.or_eq_false_iff, Bool.and_eq_true, Bool.and_eq_false_iff, decide_eq_true_eq, decide_eq_false_iff_not, Classical.not_not, not_or, maxLen, con6, con9, conS15, con16, conS17, con13, con14, conS19, conS21, con23, conS24, con8, hT, hG, hk, hK, Try.results6] at hwf ⊢); (try simp (disch := decide +kernel) only [drawn, true_and, and_true])
  clear hwf
  intros
  refine evk_loop ⟨{ q : Src × Seals × Nat // 0 ≤ q.1.2 ∧ SrtS q.2.1 ∧ q.2.1.length ≤ q.2.2 ∧ q.2.2 ≤ 8 }, 1000, fun q => [(1, .one (.int .i64 bag)), (5, .one (.loc 70 0)), (6, .one (.loc 71 0)), (7, .one (.int .i64 q.1.2.2))],
   fun q => [(70, .cells 58 [.sl (.int .i64) q.1.1.1 false, .int .i64 q.1.1.2]), (71, .cells 38 [.sl SE q.1.2.1 false])], fun q => 8 - q.1.2.2⟩ ⟨((src.take 2000, 0), [], 0), Int.le_refl 0, .nil, Nat.zero_le _, Nat.zero_le _⟩ ?_ ?_
  · simp only [go_sem]
    try (first | rfl | exact ⟨rfl, rfl⟩ | (and_intros <;> first | trivial | rfl | omega))
  · rintro ⟨⟨⟨s, a⟩, l, i⟩, (h1 : 0 ≤ a), (hs : SrtS l), (hl : l.length ≤ i), (hi : i ≤ 8)⟩
    (simp -implicitDefEqProofs (maxSteps := 4000000) only [go_sem, Bool.not_eq_true', Bool.not_eq_false', Bool.or_eq_true, Bool.or_eq_false_iff, Bool.and_eq_true, Bool.and_eq_false_iff, decide_eq_true_eq, decide_eq_false_iff_not, Classical.not_not, not_or, maxLen, con6, con9, conS15, con16, conS17, con13, con14, conS19, conS21, con23, conS24, con8, hT, hG, hk, hK, Try.results6]); (try simp (disch := decide +kernel) only [drawn, true_and, and_true])
    have p1 : 0 ≤ (Src.step (s, a)).snd := step_pos h1
    have kc : ∀ b m, (clearV l b m).2 = 0 → SrtS (clearV l b m).1 ∧ (clearV l b m).1.length = l.length + 1 := fun b m h => clear_ok hs h
    have hV := goMod_bd (Src.raw (s, a)) (12 - 1 + 1) (by omega)
    generalize goMod (Src.raw (s, a)) (12 - 1 + 1) = V at hV ⊢
    have hg := goMod_bd bag 12 (by omega)
    generalize goMod bag 12 = g at hg ⊢
    generalize Src.step (s, a) = S3 at p1 ⊢
    obtain ⟨s3, a3⟩ := S3
    have hl2 : l.length ≤ 8 := by omega
    clear hpre
    have hun := undone (b := 1 + g) (m := 5) hs (by omega) (by omega) (by omega) (by omega)
    by_cases hm : (1 + g) ∈ l.map (fun x => x.1)
    · have hcl := hun.1 hm
      simp only [hcl]
      (repeat' (with_reducible (first | refine And.intro ?_ ?_ | intro _))) <;> (try (first | with_reducible (first | done | assumption | omega | contradiction) | decide))
      all_goals first
       | omega
       | exact ⟨hs, by omega⟩
       | (have hq := (kc _ _ (by assumption)).2
          omega)
       | (have hq := kc _ _ (by assumption)
          refine fin_lp ⟨((s3, a3), (clearV l _ _).1, i + 1), p1, hq.1, (by rw [hq.2]; show l.length + 1 ≤ i + 1; omega), (by show i + 1 ≤ 8; omega)⟩ ?_ (by dsimp only; omega)
          simp only [go_sem]
          try (first | rfl | exact ⟨rfl, rfl⟩ | (and_intros <;> first | trivial | rfl | omega))
          done)
       | (refine fin_lp ⟨((s3, a3), l, i + 1), p1, hs, (by show l.length ≤ i + 1; omega), (by show i + 1 ≤ 8; omega)⟩ ?_ (by dsimp only; omega)
          simp only [go_sem]
          try (first | rfl | exact ⟨rfl, rfl⟩ | (and_intros <;> first | trivial | rfl | omega))
          done)
       | (exfalso; apply_assumption; exact hm)
       | (simp_all; done)
       | (trace_state; fail)
    · obtain ⟨hcl, hrv, hsd, hin, hln⟩ := hun.2 hm
      simp only [hcl, hrv]
      (repeat' (with_reducible (first | refine And.intro ?_ ?_ | intro _))) <;> (try (first | with_reducible (first | done | assumption | omega | contradiction) | decide))
      all_goals first
       | omega
       | exact ⟨hs, by omega⟩
       | exact ⟨hsd, by omega⟩
       | (have hq := (kc _ _ (by assumption)).2
          omega)
       | (have hq := kc _ _ (by assumption)
          refine fin_lp ⟨((s3, a3), (clearV l _ _).1, i + 1), p1, hq.1, (by rw [hq.2]; show l.length + 1 ≤ i + 1; omega), (by show i + 1 ≤ 8; omega)⟩ ?_ (by dsimp only; omega)
          simp only [go_sem]
          try (first | rfl | exact ⟨rfl, rfl⟩ | (and_intros <;> first | trivial | rfl | omega))
          done)
       | (refine fin_lp ⟨((s3, a3), l, i + 1), p1, hs, (by show l.length ≤ i + 1; omega), (by show i + 1 ≤ 8; omega)⟩ ?_ (by dsimp only; omega)
          simp only [go_sem]
          try (first | rfl | exact ⟨rfl, rfl⟩ | (and_intros <;> first | trivial | rfl | omega))
          done)
       | (exfalso; exact hm (by assumption))
       | (simp_all; done)
       | (trace_state; fail))
end Go.Proofs.Ythbcniifeeoplaa
