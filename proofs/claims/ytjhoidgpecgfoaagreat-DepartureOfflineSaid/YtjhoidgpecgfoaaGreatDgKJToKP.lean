/- Handhelds. -/
import Derived.Test.YtjhoidgpecgfoaaGreatDgK2ToKeys
import Derived.Test.YtjhoidgpecgfoaaGreatDgKfToKA
set_option linter.unusedSimpArgs false
set_option linter.unusedVariables false
set_option maxRecDepth 100000
set_option maxHeartbeats 8000000
namespace Go.Proofs.YtjhoidgpecgfoaaGreat
open Go.Ev

abbrev Grt := Pce × Flt
abbrev Hnd := Int × Int × Int × Bool × List (Pce × Flt) × List Cnt × List Opn
def newH (n : Nat) : Hnd := ((n : Int) + 1, 1, 0, false, [], [], [])
def newsH (n : Nat) : List Hnd := (List.range n).map newH
def con32 : Con := { ps := [.d false (.int .i64)], rs := [.o 40 yHH, .d false (.int .i64)], pre := fun (x : Int × Unit) => 0 ≤ x.1 ∧ x.1 ≤ 6, out := fun (x : Int × Unit) => (newsH x.1.toNat, 0, ()), nw := id }
theorem c32 : CtrOk Tryz.prog 32 con32.ctr :=
 con_sound (G := ⟨[(88, con88.ctr)], [], [], []⟩) tab_ok (EnvOk.cons c88 has88 EnvOk.nil) rfl Tryz.func32 rfl con32 3901 (by kernel_rfl) (by decide) (by decide) rfl (by decide) rfl (by
  rintro ⟨(n : Int), _⟩ hpre hwf X hT hG hk hK
  obtain ⟨h1, h2⟩ : 0 ≤ n ∧ n ≤ 6 := hpre
  (simp -implicitDefEqProofs only [go_sem, Bool.not_eq_true', Bool.not_eq_false', Bool.or_eq_true, Bool.or_eq_false_iff, Bool.and_eq_true, Bool.and_eq_false_iff, decide_eq_true_eq, decide_eq_false_iff_not, Classical.not_not, not_or, maxLen, con32, con88, hT, hG, hk, hK, Tryz.results32] at hwf ⊢)
  have hwf := hwf
  have e : inV n 0 6 = true := by unfold inV; simp [h1, h2]
  simp only [e]
  refine ⟨fun q => (by cases q), fun _ => ?_⟩
  refine evk_loop ⟨{ k : Nat // (k : Int) ≤ n }, 1000, fun q => [(4, .one (.row 64)), (9, .one (.int .i64 n)), (10, .one (.int .i64 q.1))], fun q => [(64, .row 40 yHH (newsH q.1))], fun q => n.toNat - q.1⟩ ⟨0, by omega⟩ ?_ ?_
  · simp only [go_sem]
    try (first | rfl | exact ⟨rfl, rfl⟩ | (and_intros <;> first | trivial | rfl | omega))
  · rintro ⟨k, (hk1 : (k : Int) ≤ n)⟩
    (simp -implicitDefEqProofs only [go_sem, Bool.not_eq_true', Bool.not_eq_false', Bool.or_eq_true, Bool.or_eq_false_iff, Bool.and_eq_true, Bool.and_eq_false_iff, decide_eq_true_eq, decide_eq_false_iff_not, Classical.not_not, not_or, maxLen, con32, con88, hT, hG, hk, hK, Tryz.results32])
    have hs : newsH (k + 1) = newsH k ++ [newH k] := by unfold newsH; rw [List.range_succ, List.map_append]; rfl
    have hl : (newsH k).length = k := by unfold newsH; simp
    clear e
    (repeat' (with_reducible (first | refine And.intro ?_ ?_ | intro _))) <;> (try (first | with_reducible (first | done | assumption | omega | contradiction) | decide))
    all_goals first
     | omega
     | (refine fin_lp ⟨k + 1, by omega⟩ ?_ (by dsimp only; omega)
        simp only [go_sem]
        rw [hs]
        try (first | rfl | exact ⟨rfl, rfl⟩ | (and_intros <;> first | trivial | rfl | omega))
        done)
     | (rw [show n.toNat = k by omega]; done)
     | (congr 1; omega)
     | fail)
def con34 : Con := { ps := [.p 103 ySR], rs := [.d false .bool], pre := fun _ => True, out := fun (x : Src × Unit) => (decide (x.1.2 < x.1.1.length), ()), nw := id }
theorem c34 : CtrOk Tryz.prog 34 con34.ctr :=
 con_sound (G := ⟨[], [], [], []⟩) tab_ok EnvOk.nil rfl Tryz.func34 rfl con34 5 (by kernel_rfl) (by decide) (by decide) rfl (by decide) rfl (by
  rintro ⟨⟨(s : List Int), (a : Int)⟩, _⟩ hpre hwf X hT hG hk hK
  (simp -implicitDefEqProofs only [go_sem, Bool.not_eq_true', Bool.not_eq_false', Bool.or_eq_true, Bool.or_eq_false_iff, Bool.and_eq_true, Bool.and_eq_false_iff, decide_eq_true_eq, decide_eq_false_iff_not, Classical.not_not, not_or, maxLen, con34, hT, hG, hk, hK, Tryz.results34] at hwf ⊢); (try simp (disch := decide +kernel) only [drawn, true_and, and_true])
  (repeat' (with_reducible (first | refine And.intro ?_ ?_ | intro _))) <;> (try (first | with_reducible (first | done | assumption | omega | contradiction) | decide))
  all_goals first | done | fail)
def okGr (g : Grt) : Bool := okPc g.1 && fltOk g.2
def con90 : Con := { ps := [.d true yGR], rs := [.d false .bool], pre := fun _ => True, out := fun (x : Grt × Unit) => (okGr x.1, ()), nw := id }
theorem c90 : CtrOk Tryz.prog 90 con90.ctr :=
 con_sound (G := ⟨[(94, con94.ctr), (142, con142.ctr)], [], [], []⟩) tab_ok (EnvOk.cons c94 has94 (EnvOk.cons c142 has142 EnvOk.nil)) rfl Tryz.func90 rfl con90 7 (by kernel_rfl) (by decide) (by decide) rfl (by decide) rfl (by
  rintro ⟨⟨⟨⟨(p1 : Int), (p2 : Int), (p3 : Int)⟩, (e1 : Int), (e2 : Int)⟩, ⟨f1, (f2 : Int), f3, (f4 : Int)⟩⟩, _⟩ hpre hwf X hT hG hk hK
  (simp -implicitDefEqProofs only [go_sem, Bool.not_eq_true', Bool.not_eq_false', Bool.or_eq_true, Bool.or_eq_false_iff, Bool.and_eq_true, Bool.and_eq_false_iff, decide_eq_true_eq, decide_eq_false_iff_not, Classical.not_not, not_or, maxLen, con90, con94, con142, hT, hG, hk, hK, Tryz.results90] at hwf ⊢)
  rfl)
structure HOk (h : Hnd) : Prop where
 num : 1 ≤ h.1 ∧ h.1 ≤ 6
 nxt : 1 ≤ h.2.1 ∧ h.2.1 ≤ 1048576
 lst : 0 ≤ h.2.2.1 ∧ h.2.2.1 ≤ 1048576
 bar : h.2.2.2.1 = true ∨ h.2.2.2.2.1.length = 0 ∧ h.2.2.2.2.2.1.length = 0 ∧ h.2.2.2.2.2.2.length = 0
 gl : h.2.2.2.2.1.length ≤ 60
 gok : ∀ g ∈ h.2.2.2.2.1, okGr g = true
 gs : ∀ i, 0 < i → i < h.2.2.2.2.1.length → pltC (h.2.2.2.2.1.getD (i - 1) (pc0, ct0.flt)).1.1 (h.2.2.2.2.1.getD i (pc0, ct0.flt)).1.1 < 0
 ce : ∀ o ∈ h.2.2.2.2.2.1, o.pcs = []
 cok : CtsOk h.2.2.2.2.2.1
 ll : h.2.2.2.2.2.2.length ≤ 60
 lok : ∀ o ∈ h.2.2.2.2.2.2, okOp o = true ∧ o.2.1 = h.1 ∧ o.1 ≤ h.2.2.1
 lsq : ∀ i, i < h.2.2.2.2.2.2.length → (h.2.2.2.2.2.2.getD i o0).2.2.1 = h.2.1 - h.2.2.2.2.2.2.length + i
 lt : ∀ i, 0 < i → i < h.2.2.2.2.2.2.length → (h.2.2.2.2.2.2.getD (i - 1) o0).1 ≤ (h.2.2.2.2.2.2.getD i o0).1
def con137 : Con := { ps := [.d true yHH], rs := [.d false .bool], pre := fun (x : Hnd × Unit) => HOk x.1, out := fun _ => (true, ()), nw := id }
theorem c137 : CtrOk Tryz.prog 137 con137.ctr :=
 con_sound (G := ⟨[(88, con88.ctr)], [], [], []⟩) tab_ok (EnvOk.cons c88 has88 EnvOk.nil) rfl Tryz.func137 rfl con137 7 (by kernel_rfl) (by decide) (by decide) rfl (by decide) rfl (by
  rintro ⟨⟨(n : Int), (x : Int), (t : Int), (off : Bool), (gr : List (Pce × Flt)), (cs : List Cnt), (lg : List Opn)⟩, _⟩ hpre hwf X hT hG hk hK
  have h0 : HOk (n, x, t, off, gr, cs, lg) := hpre
  have e1 : inV n 1 6 = true := by have := h0.num; unfold inV; simp only [Bool.and_eq_true, decide_eq_true_eq]; exact this
  have e2 : inV x 1 1048576 = true := by have := h0.nxt; unfold inV; simp only [Bool.and_eq_true, decide_eq_true_eq]; exact this
  have e3 : inV t 0 1048576 = true := by have := h0.lst; unfold inV; simp only [Bool.and_eq_true, decide_eq_true_eq]; exact this
  (simp -implicitDefEqProofs only [go_sem, Bool.not_eq_true', Bool.not_eq_false', Bool.or_eq_true, Bool.or_eq_false_iff, Bool.and_eq_true, Bool.and_eq_false_iff, decide_eq_true_eq, decide_eq_false_iff_not, Classical.not_not, not_or, maxLen, con137, con88, hT, hG, hk, hK, Tryz.results137] at hwf ⊢)
  clear hwf hpre
  exact ⟨⟨e1, e2⟩, e3⟩)
def con138 : Con := { ps := [.d true yHH], rs := [.d false .bool], pre := fun (x : Hnd × Unit) => HOk x.1, out := fun _ => (true, ()), nw := id }
theorem c138 : CtrOk Tryz.prog 138 con138.ctr :=
 con_sound (G := ⟨[], [], [], []⟩) tab_ok EnvOk.nil rfl Tryz.func138 rfl con138 7 (by kernel_rfl) (by decide) (by decide) rfl (by decide) rfl (by
  rintro ⟨⟨(n : Int), (x : Int), (t : Int), (off : Bool), (gr : List (Pce × Flt)), (cs : List Cnt), (lg : List Opn)⟩, _⟩ hpre hwf X hT hG hk hK
  have h0 : HOk (n, x, t, off, gr, cs, lg) := hpre
  have hb : off = true ∨ gr.length = 0 ∧ cs.length = 0 ∧ lg.length = 0 := h0.bar
  (simp -implicitDefEqProofs only [go_sem, Bool.not_eq_true', Bool.not_eq_false', Bool.or_eq_true, Bool.or_eq_false_iff, Bool.and_eq_true, Bool.and_eq_false_iff, decide_eq_true_eq, decide_eq_false_iff_not, Classical.not_not, not_or, maxLen, con138, hT, hG, hk, hK, Tryz.results138] at hwf ⊢)
  clear hwf hpre
  rcases hb with rfl | ⟨h1, h2, h3⟩
  · exact fun _ _ => ⟨fun h => (by cases h), fun _ => ⟨fun h => (by cases h), .inl rfl⟩⟩
  · exact fun _ _ => ⟨fun _ => (by omega), fun _ => ⟨fun _ => (by omega), .inr (by omega)⟩⟩)
def con140 : Con := { ps := [.d true yHH], rs := [.d false .bool], pre := fun (x : Hnd × Unit) => HOk x.1, out := fun _ => (true, ()), nw := id }
theorem c140 : CtrOk Tryz.prog 140 con140.ctr :=
 con_sound (G := ⟨[(65, con65.ctr)], [], [], []⟩) tab_ok (EnvOk.cons c65 has65 EnvOk.nil) rfl Tryz.func140 rfl con140 33751 (by kernel_rfl) (by decide) (by decide) rfl (by decide) rfl (by
  rintro ⟨⟨(n : Int), (x : Int), (t : Int), (off : Bool), (gr : List (Pce × Flt)), (cs : List Cnt), (lg : List Opn)⟩, _⟩ hpre hwf X hT hG hk hK
  have h0 : HOk (n, x, t, off, gr, cs, lg) := hpre
  have hce : ∀ o ∈ cs, o.pcs = [] := h0.ce
  have hcv : checkV cs = 0 := checkV_iff.2 h0.cok
  (simp -implicitDefEqProofs only [go_sem, Bool.not_eq_true', Bool.not_eq_false', Bool.or_eq_true, Bool.or_eq_false_iff, Bool.and_eq_true, Bool.and_eq_false_iff, decide_eq_true_eq, decide_eq_false_iff_not, Classical.not_not, not_or, maxLen, con140, con65, hT, hG, hk, hK, Tryz.results140] at hwf ⊢)
  clear hwf hpre
  refine fun _ => evk_loop ⟨{ i : Nat // i ≤ cs.length }, 1000, fun q => [(1, .one (.loc 70 0)), (6, .one (.sl yCT cs false)), (7, .one (.int .i64 cs.length)), (8, .one (.int .i64 q.1))], fun q => [(70, .cells 204 [.int .i64 n, .int .i64 x, .int .i64 t, .bool off, .sl yGR gr false, .sl yCT cs false, .sl yOP lg false])], fun q => cs.length - q.1⟩ ⟨0, Nat.zero_le _⟩ ?_ ?_
  · simp only [go_sem]
    try (first | rfl | exact ⟨rfl, rfl⟩ | (and_intros <;> first | trivial | rfl | omega))
  · rintro ⟨i, (hi : i ≤ cs.length)⟩
    (simp -implicitDefEqProofs only [go_sem, Bool.not_eq_true', Bool.not_eq_false', Bool.or_eq_true, Bool.or_eq_false_iff, Bool.and_eq_true, Bool.and_eq_false_iff, decide_eq_true_eq, decide_eq_false_iff_not, Classical.not_not, not_or, maxLen, con140, con65, hT, hG, hk, hK, Tryz.results140])
    obtain ⟨u, hu⟩ : ∃ u, cs.getD (i : Int).toNat (0, (ByteArray.empty, 0, ByteArray.empty, 0), 0, 0, 0, 0, 0, []) = u := ⟨_, rfl⟩
    have hu2 : cs.getD i ct0 = u := hu
    have hz : i < cs.length → u.2.2.2.2.2.2.2 = [] := fun h => hce u (by rw [← hu2]; exact getD_mem h)
    try simp only [hu, hcv]
    (repeat' (with_reducible (first | refine And.intro ?_ ?_ | intro _))) <;> (try (first | with_reducible (first | done | assumption | omega | contradiction) | decide))
    all_goals first
     | omega
     | (refine fin_lp ⟨i + 1, by omega⟩ ?_ (by dsimp only; omega)
        simp only [go_sem]
        try (first | rfl | exact ⟨rfl, rfl⟩ | (and_intros <;> first | trivial | rfl | omega))
        done)
     | (have hz := hz (by omega); simp [hz] at *; done)
     | fail)
def con139 : Con := { ps := [.d true yHH], rs := [.d false .bool], pre := fun (x : Hnd × Unit) => HOk x.1, out := fun _ => (true, ()), nw := id }
theorem c139 : CtrOk Tryz.prog 139 con139.ctr :=
 con_sound (G := ⟨[(90, con90.ctr), (49, con49.ctr)], [], [], []⟩) tab_ok (EnvOk.cons c90 has90 (EnvOk.cons c49 has49 EnvOk.nil)) rfl Tryz.func139 rfl con139 274877922591 (by kernel_rfl) (by decide) (by decide) rfl (by decide) rfl (by
  rintro ⟨⟨(n : Int), (x : Int), (t : Int), (off : Bool), (gr : List (Pce × Flt)), (cs : List Cnt), (lg : List Opn)⟩, _⟩ hpre hwf X hT hG hk hK
  have h0 : HOk (n, x, t, off, gr, cs, lg) := hpre
  have hgl : gr.length ≤ 60 := h0.gl
  have hgk : ∀ g ∈ gr, okGr g = true := h0.gok
  have hgs : ∀ i, 0 < i → i < gr.length → pltC (gr.getD (i - 1) (pc0, ct0.flt)).1.1 (gr.getD i (pc0, ct0.flt)).1.1 < 0 := h0.gs
  (simp -implicitDefEqProofs only [go_sem, Bool.not_eq_true', Bool.not_eq_false', Bool.or_eq_true, Bool.or_eq_false_iff, Bool.and_eq_true, Bool.and_eq_false_iff, decide_eq_true_eq, decide_eq_false_iff_not, Classical.not_not, not_or, maxLen, con139, con90, con49, hT, hG, hk, hK, Tryz.results139] at hwf ⊢); (try simp (disch := decide +kernel) only [drawn, true_and, and_true])
  clear hwf hpre
  refine fun _ => ⟨fun _ => (by omega), fun _ _ => ?_⟩
  refine evk_loop ⟨{ i : Nat // i ≤ gr.length }, 1000, fun q => [(1, .one (.loc 70 0)), (10, .one (.sl yGR gr false)), (11, .one (.int .i64 gr.length)), (12, .one (.int .i64 q.1))], fun q => [(70, .cells 204 [.int .i64 n, .int .i64 x, .int .i64 t, .bool off, .sl yGR gr false, .sl yCT cs false, .sl yOP lg false])], fun q => gr.length - q.1⟩ ⟨0, Nat.zero_le _⟩ ?_ ?_
  · simp only [go_sem]
    try (first | rfl | exact ⟨rfl, rfl⟩ | (and_intros <;> first | trivial | rfl | omega))
  · rintro ⟨i, (hi : i ≤ gr.length)⟩
    (simp -implicitDefEqProofs only [go_sem, Bool.not_eq_true', Bool.not_eq_false', Bool.or_eq_true, Bool.or_eq_false_iff, Bool.and_eq_true, Bool.and_eq_false_iff, decide_eq_true_eq, decide_eq_false_iff_not, Classical.not_not, not_or, maxLen, con139, con90, con49, hT, hG, hk, hK, Tryz.results139]); (try simp (disch := decide +kernel) only [drawn, true_and, and_true])
    obtain ⟨u, hu⟩ : ∃ u, gr.getD (i : Int).toNat (((0, 0, 0), 0, 0), ByteArray.empty, 0, ByteArray.empty, 0) = u := ⟨_, rfl⟩
    obtain ⟨v, hv⟩ : ∃ v, gr.getD ((i : Int) - 1).toNat (((0, 0, 0), 0, 0), ByteArray.empty, 0, ByteArray.empty, 0) = v := ⟨_, rfl⟩
    have hu2 : gr.getD i (pc0, ct0.flt) = u := hu
    have hk1 : i < gr.length → okGr u = true := fun h => hgk u (by rw [← hu2]; exact getD_mem h)
    have hk2 : 0 < i → i < gr.length → pltC v.1.1 u.1.1 < 0 := fun h1 h2 => by
     have := hgs i h1 h2
     rw [hu2, show gr.getD (i - 1) (pc0, ct0.flt) = v from by rw [← hv, show ((i : Int) - 1).toNat = i - 1 by omega]; rfl] at this
     exact this
    try simp only [hu, hv]
    generalize okGr u = B at hk1 ⊢
    generalize pltC v.1.1 u.1.1 = C at hk2 ⊢
    clear hgk hgs h0 hu2 hu hv
    (repeat' (with_reducible (first | refine And.intro ?_ ?_ | intro _))) <;> (try (first | with_reducible (first | done | assumption | omega | contradiction) | decide))
    all_goals first
     | omega
     | (refine fin_lp ⟨i + 1, by omega⟩ ?_ (by dsimp only; omega)
        simp only [go_sem]
        try (first | rfl | exact ⟨rfl, rfl⟩ | (and_intros <;> first | trivial | rfl | omega))
        done)
     | (rename_i q; rcases q with q | q
        · have := hk1 (by omega); rw [q] at this; cases this
        · have := hk2 (by omega) (by omega); omega)
     | fail)
def con141 : Con := { ps := [.d true yHH], rs := [.d false .bool], pre := fun (x : Hnd × Unit) => HOk x.1, out := fun _ => (true, ()), nw := id }
theorem c141 : CtrOk Tryz.prog 141 con141.ctr :=
 con_sound (G := ⟨[(120, con120.ctr)], [], [], []⟩) tab_ok (EnvOk.cons c120 has120 EnvOk.nil) rfl Tryz.func141 rfl con141 36028797018979615 (by kernel_rfl) (by decide) (by decide) rfl (by decide) rfl (by
  rintro ⟨⟨(n : Int), (x : Int), (t : Int), (off : Bool), (gr : List (Pce × Flt)), (cs : List Cnt), (lg : List Opn)⟩, _⟩ hpre hwf X hT hG hk hK
  have h0 : HOk (n, x, t, off, gr, cs, lg) := hpre
  have hll : lg.length ≤ 60 := h0.ll
  have hlk : ∀ o ∈ lg, okOp o = true ∧ o.2.1 = n ∧ o.1 ≤ t := h0.lok
  have hlq : ∀ i, i < lg.length → (lg.getD i o0).2.2.1 = x - lg.length + i := h0.lsq
  have hlt : ∀ i, 0 < i → i < lg.length → (lg.getD (i - 1) o0).1 ≤ (lg.getD i o0).1 := h0.lt
  have hx : 1 ≤ x ∧ x ≤ 1048576 := h0.nxt
  (simp -implicitDefEqProofs only [go_sem, Bool.not_eq_true', Bool.not_eq_false', Bool.or_eq_true, Bool.or_eq_false_iff, Bool.and_eq_true, Bool.and_eq_false_iff, decide_eq_true_eq, decide_eq_false_iff_not, Classical.not_not, not_or, maxLen, con141, con120, hT, hG, hk, hK, Tryz.results141] at hwf ⊢); (try simp (disch := decide +kernel) only [drawn, true_and, and_true])
  clear hwf hpre
  refine fun _ => ⟨fun _ => (by omega), fun _ _ => ?_⟩
  refine evk_loop ⟨{ i : Nat // i ≤ lg.length }, 1000, fun q => [(1, .one (.loc 70 0)), (10, .one (.sl yOP lg false)), (11, .one (.int .i64 lg.length)), (12, .one (.int .i64 q.1))], fun q => [(70, .cells 204 [.int .i64 n, .int .i64 x, .int .i64 t, .bool off, .sl yGR gr false, .sl yCT cs false, .sl yOP lg false])], fun q => lg.length - q.1⟩ ⟨0, Nat.zero_le _⟩ ?_ ?_
  · simp only [go_sem]
    try (first | rfl | exact ⟨rfl, rfl⟩ | (and_intros <;> first | trivial | rfl | omega))
  · rintro ⟨i, (hi : i ≤ lg.length)⟩
    (simp -implicitDefEqProofs only [go_sem, Bool.not_eq_true', Bool.not_eq_false', Bool.or_eq_true, Bool.or_eq_false_iff, Bool.and_eq_true, Bool.and_eq_false_iff, decide_eq_true_eq, decide_eq_false_iff_not, Classical.not_not, not_or, maxLen, con141, con120, hT, hG, hk, hK, Tryz.results141]); (try simp (disch := decide +kernel) only [drawn, true_and, and_true])
    obtain ⟨u, hu⟩ : ∃ u, lg.getD (i : Int).toNat (0, 0, 0, 0, 0, (0, 0, 0), 0, 0) = u := ⟨_, rfl⟩
    obtain ⟨v, hv⟩ : ∃ v, lg.getD ((i : Int) - 1).toNat (0, 0, 0, 0, 0, (0, 0, 0), 0, 0) = v := ⟨_, rfl⟩
    have hu2 : lg.getD i o0 = u := hu
    have hk1 : i < lg.length → okOp u = true ∧ u.2.1 = n ∧ u.1 ≤ t := fun h => hlk u (by rw [← hu2]; exact getD_mem h)
    have hk3 : i < lg.length → u.2.2.1 = x - lg.length + i := fun h => by have := hlq i h; rw [hu2] at this; exact this
    have hk2 : 0 < i → i < lg.length → v.1 ≤ u.1 := fun h1 h2 => by
     have := hlt i h1 h2
     rw [hu2, show lg.getD (i - 1) o0 = v from by rw [← hv, show ((i : Int) - 1).toNat = i - 1 by omega]; rfl] at this
     exact this
    try simp only [hu, hv]
    generalize okOp u = B at hk1 ⊢
    clear h0 hu2 hu hv hlq hlt
    (repeat' (with_reducible (first | refine And.intro ?_ ?_ | intro _))) <;> (try (first | with_reducible (first | done | assumption | omega | contradiction) | decide))
    all_goals first
     | omega
     | (refine fin_lp ⟨i + 1, by omega⟩ ?_ (by dsimp only; omega)
        simp only [go_sem]
        try (first | rfl | exact ⟨rfl, rfl⟩ | (and_intros <;> first | trivial | rfl | omega))
        done)
     | exact (hk1 (by omega)).1
     | (have hB := hk1 (by omega)
        have h3 := hk3 (by omega)
        rename_i q; rcases q with ((q | q) | q) | q
        · rw [hB.1] at q; cases q
        · exact q hB.2.1
        · exact q h3
        · have := hk2 (by omega) (by omega); omega)
     | (by_cases e : lg.length = 0
        · exact .inl (by omega)
        · exact .inr (hlk _ (getD_mem (by omega))).2.2)
     | fail)
def bareC (l : List Cnt) : List Cnt := l.map (fun o => setPcs o [])
def con92 : Con := { ps := [.d false (.sl yCT)], rs := [.d false (.sl yCT)], pre := fun (x : List Cnt × Unit) => x.1.length ≤ 1000, out := fun (x : List Cnt × Unit) => (bareC x.1, ()), nw := id }
theorem c92 : CtrOk Tryz.prog 92 con92.ctr :=
 con_sound (G := ⟨[(68, con68.ctr)], [], [], []⟩) tab_ok (EnvOk.cons c68 has68 EnvOk.nil) rfl Tryz.func92 rfl con92 1821 (by kernel_rfl) (by decide) (by decide) rfl (by decide) rfl (by
  rintro ⟨(l : List Cnt), _⟩ hpre hwf X hT hG hk hK
  have hl : l.length ≤ 1000 := hpre
  (simp -implicitDefEqProofs only [go_sem, Bool.not_eq_true', Bool.not_eq_false', Bool.or_eq_true, Bool.or_eq_false_iff, Bool.and_eq_true, Bool.and_eq_false_iff, decide_eq_true_eq, decide_eq_false_iff_not, Classical.not_not, not_or, maxLen, con92, con68, hT, hG, hk, hK, Tryz.results92] at hwf ⊢)
  clear hwf
  refine ⟨by omega, fun _ _ => ?_⟩
  refine evk_loop ⟨{ i : Nat // i ≤ l.length }, 1000, fun q => [(3, .one (.row 64)), (8, .one (.int .i64 l.length)), (9, .one (.int .i64 q.1))], fun q => [(64, .row 107 yCT (bareC (l.take q.1) ++ l.drop q.1))], fun q => l.length - q.1⟩ ⟨0, Nat.zero_le _⟩ ?_ ?_
  · simp only [go_sem]
    try (first | rfl | exact ⟨rfl, rfl⟩ | (and_intros <;> first | trivial | rfl | omega))
  · rintro ⟨i, (hi : i ≤ l.length)⟩
    (simp -implicitDefEqProofs only [go_sem, Bool.not_eq_true', Bool.not_eq_false', Bool.or_eq_true, Bool.or_eq_false_iff, Bool.and_eq_true, Bool.and_eq_false_iff, decide_eq_true_eq, decide_eq_false_iff_not, Classical.not_not, not_or, maxLen, con92, con68, hT, hG, hk, hK, Tryz.results92])
    have hbl : (bareC (l.take i) ++ l.drop i).length = l.length := by unfold bareC; rw [List.length_append, List.length_map, List.length_take, List.length_drop]; omega
    have hst : i < l.length → ∀ o : Cnt, o = setPcs ((bareC (l.take i) ++ l.drop i).getD i ct0) [] → (bareC (l.take i) ++ l.drop i).set i o = bareC (l.take (i + 1)) ++ l.drop (i + 1) := fun h o ho => by
     have hlb : (bareC (l.take i)).length = i := by unfold bareC; rw [List.length_map, List.length_take]; omega
     rw [List.getD_eq_getElem?_getD, List.getElem?_append_right (by omega), hlb, Nat.sub_self, List.drop_eq_getElem_cons h] at ho
     rw [List.set_append_right _ _ (by omega), hlb, Nat.sub_self, List.drop_eq_getElem_cons h, List.set_cons_zero, List.take_succ_eq_append_getElem h]
     unfold bareC
     rw [List.map_append, List.append_assoc, ho]
     rfl
    try simp only [hbl]
    (repeat' (with_reducible (first | refine And.intro ?_ ?_ | intro _))) <;> (try (first | with_reducible (first | done | assumption | omega | contradiction) | decide))
    all_goals first
     | omega
     | (have hs := hst (by omega) _ rfl
        refine fin_lp ⟨i + 1, by omega⟩ ?_ (by dsimp only; omega)
        simp only [go_sem]
        first | exact hs | exact ⟨hs, trivial⟩ | (and_intros <;> first | exact hs | rfl | omega | trivial)
        done)
     | (rw [show i = l.length by omega, List.take_length, List.drop_length, List.append_nil]; done)
     | fail)
def con97 : Con := { ps := [.d false (.sl yOP)], rs := [.o 81 yOP], pre := fun (x : List Opn × Unit) => x.1.length ≤ 100000, out := fun (x : List Opn × Unit) => (x.1, ()), nw := id }
theorem c97 : CtrOk Tryz.prog 97 con97.ctr :=
 con_sound (G := ⟨[], [], [], []⟩) tab_ok EnvOk.nil rfl Tryz.func97 rfl con97 21 (by kernel_rfl) (by decide) (by decide) rfl (by decide) rfl (by
  rintro ⟨(l : List Opn), _⟩ hpre hwf X hT hG hk hK
  (simp -implicitDefEqProofs only [go_sem, con97, hT, hG, hk, hK, Tryz.results97] at hwf ⊢)
  intro a ha
  have hpre : l.length ≤ 100000 := hpre
  refine ⟨fun h => (List.eq_nil_of_length_eq_zero (ha h)).symm, fun _ => by omega⟩)
def con91 : Con := { ps := [.d false (.sl yGR)], rs := [.o 85 yGR], pre := fun (x : List Grt × Unit) => x.1.length ≤ 100000, out := fun (x : List Grt × Unit) => (x.1, ()), nw := id }
theorem c91 : CtrOk Tryz.prog 91 con91.ctr :=
 con_sound (G := ⟨[], [], [], []⟩) tab_ok EnvOk.nil rfl Tryz.func91 rfl con91 21 (by kernel_rfl) (by decide) (by decide) rfl (by decide) rfl (by
  rintro ⟨(l : List Grt), _⟩ hpre hwf X hT hG hk hK
  (simp -implicitDefEqProofs only [go_sem, con91, hT, hG, hk, hK, Tryz.results91] at hwf ⊢)
  intro a ha
  have hpre : l.length ≤ 100000 := hpre
  refine ⟨fun h => (List.eq_nil_of_length_eq_zero (ha h)).symm, fun _ => by omega⟩)
def con96 : Con := { ps := [.d true yHH], rs := [.d true yHH], pre := fun (x : Hnd × Unit) => HOk x.1, out := fun (x : Hnd × Unit) => (x.1, ()), nw := id }
theorem c96 : CtrOk Tryz.prog 96 con96.ctr :=
 con_sound (G := ⟨[(97, con97.ctr), (91, con91.ctr), (92, con92.ctr)], [], [], []⟩) tab_ok (EnvOk.cons c97 has97 (EnvOk.cons c91 has91 (EnvOk.cons c92 has92 EnvOk.nil))) rfl Tryz.func96 rfl con96 7 (by kernel_rfl) (by decide) (by decide) rfl (by decide) rfl (by
  rintro ⟨⟨(n : Int), (x : Int), (t : Int), (off : Bool), (gr : List (Pce × Flt)), (cs : List Cnt), (lg : List Opn)⟩, _⟩ hpre hwf X hT hG hk hK
  have h0 : HOk (n, x, t, off, gr, cs, lg) := hpre
  have hgl : gr.length ≤ 60 := h0.gl
  have hll : lg.length ≤ 60 := h0.ll
  have hcl : cs.length ≤ 24 := h0.cok.len
  have hce : bareC cs = cs := by
   have hce : ∀ o ∈ cs, o.pcs = [] := h0.ce
   unfold bareC
   conv => rhs; rw [← List.map_id cs]
   exact List.map_congr_left fun o ho => by rw [← hce o ho]; rfl
  (simp -implicitDefEqProofs only [go_sem, Bool.not_eq_true', Bool.not_eq_false', Bool.or_eq_true, Bool.or_eq_false_iff, Bool.and_eq_true, Bool.and_eq_false_iff, decide_eq_true_eq, decide_eq_false_iff_not, Classical.not_not, not_or, maxLen, con96, con97, con91, con92, hT, hG, hk, hK, Tryz.results96] at hwf ⊢); (try simp (disch := decide +kernel) only [drawn, true_and, and_true])
  clear hwf hpre
  simp only [hce]
  (repeat' (with_reducible (first | refine And.intro ?_ ?_ | intro _))) <;> (try (first | with_reducible (first | done | assumption | omega | contradiction) | decide))
  all_goals first | omega | rfl | fail)
end Go.Proofs.YtjhoidgpecgfoaaGreat

/- Handhelds: Validate, Scan, Offline, Online. -/
set_option linter.unusedSimpArgs false
set_option linter.unusedVariables false
set_option maxRecDepth 100000
set_option maxHeartbeats 8000000
namespace Go.Proofs.YtjhoidgpecgfoaaGreat
open Go.Ev

def con89 : Con := { ps := [.d true yHH], rs := [.d false (.int .i64)], pre := fun (x : Hnd × Unit) => HOk x.1, out := fun _ => (0, ()), nw := id }
theorem c89 : CtrOk Tryz.prog 89 con89.ctr :=
 con_sound (G := ⟨[(137, con137.ctr), (138, con138.ctr), (139, con139.ctr), (140, con140.ctr), (141, con141.ctr)], [], [(17, 7)], []⟩) tab_ok (EnvOk.cons c137 has137 (EnvOk.cons c138 has138 (EnvOk.cons c139 has139 (EnvOk.cons c140 has140 (EnvOk.cons c141 has141 EnvOk.nil))))) rfl Tryz.func89 rfl con89 35520559 (by kernel_rfl) (by decide) (by decide) rfl (by decide) rfl (by
  rintro ⟨⟨(n : Int), (x : Int), (t : Int), (off : Bool), (gr : List (Pce × Flt)), (cs : List Cnt), (lg : List Opn)⟩, _⟩ hpre hwf X hT hG hk hK
  have h0 : HOk (n, x, t, off, gr, cs, lg) := hpre
  have h1 : HOk (n, x, t, off, gr, cs, lg) = True := eq_true h0
  (simp -implicitDefEqProofs only [go_sem, Bool.not_eq_true', Bool.not_eq_false', Bool.or_eq_true, Bool.or_eq_false_iff, Bool.and_eq_true, Bool.and_eq_false_iff, decide_eq_true_eq, decide_eq_false_iff_not, Classical.not_not, not_or, maxLen, con89, con137, con138, con139, con140, con141, hT, hG, hk, hK, Tryz.results89] at hwf ⊢)
  clear hwf hpre
  refine fun _ => evk_loop ⟨{ q : Nat × Int // q.2 = (q.1 : Int) ∧ q.1 ≤ 5 }, 1000, fun q => [(17, .one (.cs 70 5)), (18, .one (.int .i64 5)), (19, .one (.int .i64 q.1.2))], fun q => [(70, .cells 58 [.mv 137 [.pk [.int .i64 n, .int .i64 x, .int .i64 t, .bool off, .sl yGR gr false, .sl yCT cs false, .sl yOP lg false]], .mv 138 [.pk [.int .i64 n, .int .i64 x, .int .i64 t, .bool off, .sl yGR gr false, .sl yCT cs false, .sl yOP lg false]], .mv 139 [.pk [.int .i64 n, .int .i64 x, .int .i64 t, .bool off, .sl yGR gr false, .sl yCT cs false, .sl yOP lg false]], .mv 140 [.pk [.int .i64 n, .int .i64 x, .int .i64 t, .bool off, .sl yGR gr false, .sl yCT cs false, .sl yOP lg false]], .mv 141 [.pk [.int .i64 n, .int .i64 x, .int .i64 t, .bool off, .sl yGR gr false, .sl yCT cs false, .sl yOP lg false]]])], fun q => 5 - q.1.1⟩ ⟨(0, 0), rfl, Nat.zero_le _⟩ ?_ ?_
  · simp only [go_sem]
    try (first | rfl | exact ⟨rfl, rfl⟩ | (and_intros <;> first | trivial | rfl | omega))
  · rintro ⟨⟨i, z⟩, (hz : z = (i : Int)), (hi : i ≤ 5)⟩
    rcases (by omega : (i = 0 ∧ z = 0) ∨ (i = 1 ∧ z = 1) ∨ (i = 2 ∧ z = 2) ∨ (i = 3 ∧ z = 3) ∨ (i = 4 ∧ z = 4) ∨ (i = 5 ∧ z = 5)) with ⟨rfl, rfl⟩ | ⟨rfl, rfl⟩ | ⟨rfl, rfl⟩ | ⟨rfl, rfl⟩ | ⟨rfl, rfl⟩ | ⟨rfl, rfl⟩
    all_goals
     (simp -implicitDefEqProofs only [go_sem, Bool.not_eq_true', Bool.not_eq_false', Bool.or_eq_true, Bool.or_eq_false_iff, Bool.and_eq_true, Bool.and_eq_false_iff, decide_eq_true_eq, decide_eq_false_iff_not, Classical.not_not, not_or, maxLen, con89, con137, con138, con139, con140, con141, hT, hG, hk, hK, Tryz.results89, Int.reduceToNat, Int.reduceLT, Int.reduceLE])
     try simp only [h1]
     (repeat' (with_reducible (first | refine And.intro ?_ ?_ | intro _))) <;> (try (first | with_reducible (first | done | assumption | omega | contradiction) | decide))
     all_goals first
      | omega
      | rfl
      | trivial
      | (refine fin_lp ⟨(1, 1), rfl, by omega⟩ ?_ (by dsimp only; omega)
         simp only [go_sem]
         try (first | rfl | exact ⟨rfl, rfl⟩ | (and_intros <;> first | trivial | rfl | omega))
         done)
      | (refine fin_lp ⟨(2, 2), rfl, by omega⟩ ?_ (by dsimp only; omega)
         simp only [go_sem]
         try (first | rfl | exact ⟨rfl, rfl⟩ | (and_intros <;> first | trivial | rfl | omega))
         done)
      | (refine fin_lp ⟨(3, 3), rfl, by omega⟩ ?_ (by dsimp only; omega)
         simp only [go_sem]
         try (first | rfl | exact ⟨rfl, rfl⟩ | (and_intros <;> first | trivial | rfl | omega))
         done)
      | (refine fin_lp ⟨(4, 4), rfl, by omega⟩ ?_ (by dsimp only; omega)
         simp only [go_sem]
         try (first | rfl | exact ⟨rfl, rfl⟩ | (and_intros <;> first | trivial | rfl | omega))
         done)
      | (refine fin_lp ⟨(5, 5), rfl, by omega⟩ ?_ (by dsimp only; omega)
         simp only [go_sem]
         try (first | rfl | exact ⟨rfl, rfl⟩ | (and_intros <;> first | trivial | rfl | omega))
         done)
      | fail)
def con93 : Con := { ps := [.d false (.int .i64)], rs := [.d true yHH, .d true yOP, .d false (.int .i64)], pre := fun _ => True, out := fun (x : Int × Unit) => ((0, 0, 0, false, [], [], []), o0, x.1, ()), nw := id }
theorem c93 : CtrOk Tryz.prog 93 con93.ctr :=
 con_sound (G := ⟨[], [], [], []⟩) tab_ok EnvOk.nil rfl Tryz.func93 rfl con93 29 (by kernel_rfl) (by decide) (by decide) rfl (by decide) rfl (by
  rintro ⟨(n : Int), _⟩ hpre hwf X hT hG hk hK
  (simp -implicitDefEqProofs only [go_sem, Bool.not_eq_true', Bool.not_eq_false', Bool.or_eq_true, Bool.or_eq_false_iff, Bool.and_eq_true, Bool.and_eq_false_iff, decide_eq_true_eq, decide_eq_false_iff_not, Classical.not_not, not_or, maxLen, con93, hT, hG, hk, hK, Tryz.results93] at hwf ⊢)
  try (first | rfl | exact ⟨rfl, rfl⟩ | (and_intros <;> first | trivial | rfl | omega)))
def con143 : Con := { ps := [.d true yCT, .p 3 (.int .i64)], rs := [.d false .bool], pre := fun _ => True, out := fun (x : Cnt × Int × Unit) => (decide (x.1.num = x.2.1), ()), nw := id }
theorem c143 : CtrOk Tryz.prog 143 con143.ctr :=
 con_sound (G := ⟨[], [], [], []⟩) tab_ok EnvOk.nil rfl Tryz.func143 rfl con143 15 (by kernel_rfl) (by decide) (by decide) rfl (by decide) rfl (by
  rintro ⟨⟨(n : Int), ⟨a1, (a2 : Int), a3, (a4 : Int)⟩, (c : Int), (lm : Int), (t : Int), (p : Int), (r : Int), (l : List Pce)⟩, (k : Int), _⟩ hpre hwf X hT hG hk hK
  (simp -implicitDefEqProofs only [go_sem, Bool.not_eq_true', Bool.not_eq_false', Bool.or_eq_true, Bool.or_eq_false_iff, Bool.and_eq_true, Bool.and_eq_false_iff, decide_eq_true_eq, decide_eq_false_iff_not, Classical.not_not, not_or, maxLen, con143, hT, hG, hk, hK, Tryz.results143] at hwf ⊢))
def conIdxH : Con := { ps := [.d false (.sl yCT), .cl 143 [.p 3 (.int .i64)]], rs := [.d false (.int .i64)], pre := fun _ => True, out := fun (x : List Cnt × (Int × Unit) × Unit) => (numIdx x.1 x.2.1.1, ()), nw := id }
theorem cIdxH : CtrOk Tryz.prog 121 conIdxH.ctr :=
 con_sound (G := ⟨[(143, con143.ctr)], [], [], []⟩) tab_ok (EnvOk.cons c143 has143 EnvOk.nil) rfl Tryz.func121 rfl conIdxH 66483 (by kernel_rfl) (by decide) (by decide) rfl (by decide) rfl (by
  rintro ⟨(l : List Cnt), ⟨(n : Int), _⟩, _⟩ hpre hwf X hT hG hk hK
  skip
  (simp -implicitDefEqProofs only [go_sem, Bool.not_eq_true', Bool.not_eq_false', Bool.or_eq_true, Bool.or_eq_false_iff, Bool.and_eq_true, Bool.and_eq_false_iff, decide_eq_true_eq, decide_eq_false_iff_not, Classical.not_not, not_or, maxLen, conIdxH, con143, hT, hG, hk, hK, Tryz.results121] at hwf ⊢)
  clear hwf
  refine fun _ => evk_loop ⟨{ i : Nat // i ≤ l.length ∧ ∀ k, k < i → (fun c : Cnt => decide (c.num = n)) (l.getD k ct0) = false }, 1000, fun q => [(0, .one (.sl yCT l false)), (1, .one (.fn 143 [.loc 12 0])), (4, .one (.int .i64 0)), (7, .one (.int .i64 l.length)), (8, .one (.int .i64 q.1))], fun q => [(12, .cells 3 [.int .i64 n])], fun q => l.length - q.1⟩ ⟨0, by omega, fun k hk => by omega⟩ ?_ ?_
  · simp only [go_sem]
    try (first | rfl | exact ⟨rfl, rfl⟩ | (and_intros <;> first | trivial | rfl | omega))
  · rintro ⟨i, (hi : i ≤ l.length), hz⟩
    (simp -implicitDefEqProofs only [go_sem, Bool.not_eq_true', Bool.not_eq_false', Bool.or_eq_true, Bool.or_eq_false_iff, Bool.and_eq_true, Bool.and_eq_false_iff, decide_eq_true_eq, decide_eq_false_iff_not, Classical.not_not, not_or, maxLen, conIdxH, con143, hT, hG, hk, hK, Tryz.results121])
    obtain ⟨o, ho⟩ : ∃ o, l.getD i ct0 = o := ⟨_, rfl⟩
    have eo : l.getD (i : Int).toNat (0, (ByteArray.empty, 0, ByteArray.empty, 0), 0, 0, 0, 0, 0, []) = o := ho
    try simp only [eo]
    (repeat' (with_reducible (first | refine And.intro ?_ ?_ | intro _))) <;> (try (first | with_reducible (first | done | assumption | omega | contradiction) | decide))
    all_goals first
     | (have h : o.1 = n := by assumption
        exact (idxV_at (d := ct0) hz (by omega) (by show decide ((l.getD i ct0).num = n) = true; rw [ho]; exact decide_eq_true h)).symm)
     | (have h : ¬ o.1 = n := by assumption
        refine fin_lp ⟨i + 1, by omega, lt_succ hz (by show decide ((l.getD i ct0).num = n) = false; rw [ho]; exact decide_eq_false h)⟩ (by simp only [go_sem]; first | rfl | ((repeat' apply And.intro) <;> first | rfl | assumption | omega)) (by dsimp only; omega)
        done)
     | exact (idxV_none (d := ct0) fun k hk => hz k (by omega)).symm
     | fail)
def con178 : Con := { ps := [.d false (.sl yGR), .d true yGR], rs := [.d false (.int .i64)], pre := fun _ => True, out := fun (x : List Grt × Grt × Unit) => (idxV (fun g => decide (g = x.2.1)) x.1, ()), nw := id }
theorem c178 : CtrOk Tryz.prog 178 con178.ctr :=
 con_sound (G := ⟨[], [], [], []⟩) tab_ok EnvOk.nil rfl Tryz.func178 rfl con178 66491 (by kernel_rfl) (by decide) (by decide) rfl (by decide) rfl (by
  rintro ⟨(l : List Grt), ⟨⟨⟨(p1 : Int), (p2 : Int), (p3 : Int)⟩, (e1 : Int), (e2 : Int)⟩, ⟨f1, (f2 : Int), f3, (f4 : Int)⟩⟩, _⟩ hpre hwf X hT hG hk hK
  (simp -implicitDefEqProofs only [go_sem, Bool.not_eq_true', Bool.not_eq_false', Bool.or_eq_true, Bool.or_eq_false_iff, Bool.and_eq_true, Bool.and_eq_false_iff, decide_eq_true_eq, decide_eq_false_iff_not, Classical.not_not, not_or, maxLen, con178, hT, hG, hk, hK, Tryz.results178] at hwf ⊢); (try simp (disch := decide +kernel) only [drawn, true_and, and_true])
  clear hwf
  refine fun _ => evk_loop ⟨{ i : Nat // i ≤ l.length ∧ ∀ k, k < i → (fun g : Grt => decide (g = (((p1, p2, p3), e1, e2), f1, f2, f3, f4))) (l.getD k (pc0, ct0.flt)) = false }, 1000, fun q => [(0, .one (.sl yGR l false)), (3, .one (.loc 70 0)), (4, .one (.int .i64 0)), (7, .one (.int .i64 l.length)), (8, .one (.int .i64 q.1))], fun q => [(70, .cells 85 [.int .i64 p1, .int .i64 p2, .int .i64 p3, .int .i64 e1, .int .i64 e2, .str f1, .int .i64 f2, .str f3, .int .i64 f4])], fun q => l.length - q.1⟩ ⟨0, by omega, fun k hk => by omega⟩ ?_ ?_
  · simp only [go_sem]
    try (first | rfl | exact ⟨rfl, rfl⟩ | (and_intros <;> first | trivial | rfl | omega))
  · rintro ⟨i, (hi : i ≤ l.length), hz⟩
    (simp -implicitDefEqProofs only [go_sem, Bool.not_eq_true', Bool.not_eq_false', Bool.or_eq_true, Bool.or_eq_false_iff, Bool.and_eq_true, Bool.and_eq_false_iff, decide_eq_true_eq, decide_eq_false_iff_not, Classical.not_not, not_or, maxLen, con178, hT, hG, hk, hK, Tryz.results178]); (try simp (disch := decide +kernel) only [drawn, true_and, and_true])
    obtain ⟨o, ho⟩ : ∃ o, l.getD i (pc0, ct0.flt) = o := ⟨_, rfl⟩
    have eo : l.getD (i : Int).toNat (((0, 0, 0), 0, 0), ByteArray.empty, 0, ByteArray.empty, 0) = o := ho
    try simp only [eo]
    obtain ⟨⟨⟨(q1 : Int), (q2 : Int), (q3 : Int)⟩, (q4 : Int), (q5 : Int)⟩, ⟨q6, (q7 : Int), q8, (q9 : Int)⟩⟩ := o
    clear eo
    (repeat' (with_reducible (first | refine And.intro ?_ ?_ | intro _))) <;> (try (first | with_reducible (first | done | assumption | omega | contradiction) | decide))
    all_goals first
     | omega
     | (refine (idxV_at (d := (pc0, ct0.flt)) hz (by omega) ?_).symm
        rw [ho]
        refine decide_eq_true ?_
        simp_all
        done)
     | (refine fin_lp ⟨i + 1, by omega, lt_succ hz ?_⟩ ?_ (by dsimp only; omega)
        · rw [ho]
          refine decide_eq_false fun e => ?_
          simp only [Prod.mk.injEq] at e
          simp_all
        · simp only [go_sem]
          try (first | rfl | exact ⟨rfl, rfl⟩ | (and_intros <;> first | trivial | rfl | omega))
        done)
     | exact (idxV_none (d := (pc0, ct0.flt)) fun k hk => hz k (by omega)).symm
     | fail)
def con144 : Con := { ps := [.d false (.sl yGR), .d true yGR], rs := [.d false .bool], pre := fun _ => True, out := fun (x : List Grt × Grt × Unit) => (decide (idxV (fun g => decide (g = x.2.1)) x.1 ≥ 0), ()), nw := id }
theorem c144 : CtrOk Tryz.prog 144 con144.ctr :=
 con_sound (G := ⟨[(178, con178.ctr)], [], [], []⟩) tab_ok (EnvOk.cons c178 has178 EnvOk.nil) rfl Tryz.func144 rfl con144 27 (by kernel_rfl) (by decide) (by decide) rfl (by decide) rfl (by
  rintro ⟨(l : List Grt), ⟨⟨⟨(p1 : Int), (p2 : Int), (p3 : Int)⟩, (e1 : Int), (e2 : Int)⟩, ⟨f1, (f2 : Int), f3, (f4 : Int)⟩⟩, _⟩ hpre hwf X hT hG hk hK
  (simp -implicitDefEqProofs only [go_sem, Bool.not_eq_true', Bool.not_eq_false', Bool.or_eq_true, Bool.or_eq_false_iff, Bool.and_eq_true, Bool.and_eq_false_iff, decide_eq_true_eq, decide_eq_false_iff_not, Classical.not_not, not_or, maxLen, con144, con178, hT, hG, hk, hK, Tryz.results144] at hwf ⊢))
def lastO (l : List Opn) (p : Plt) : Option Opn := l.reverse.find? (fun o => decide (o.plate = p))
def loadV (cs : List Cnt) (gr : List Grt) (lg : List Opn) (p : Pce) (n : Int) : Int :=
 if numIdx cs n < 0 then 6 else if idxV (fun g => decide (g = (p, (cs.getD (numIdx cs n).toNat ct0).flt))) gr < 0 then 10 else match lastO lg p.1 with
  | some o => if o.kind = 1 then 5 else 0
  | none => 0
theorem idxV_bd {α : Type} (p : α → Bool) (l : List α) : -1 ≤ idxV p l ∧ idxV p l < l.length := by
 unfold idxV
 split
 · rename_i i h
   have := (List.findIdx?_eq_some_iff_getElem.1 h).1
   omega
 · omega
def TailN (l : List Opn) (p : Plt) (n : Nat) : Prop := n ≤ l.length ∧ ∀ i, i < n → ¬ (l.reverse.getD i o0).plate = p
theorem TailN.all {l : List Opn} {p : Plt} (h : TailN l p l.length) : lastO l p = none := by
 unfold lastO
 rw [List.find?_eq_none]
 intro o ho
 obtain ⟨i, hi, rfl⟩ := List.getElem_of_mem ho
 have := h.2 i (by simpa using hi)
 rw [List.getD_eq_getElem?_getD, List.getElem?_eq_getElem hi] at this
 simpa using this
theorem TailN.at_ {l : List Opn} {p : Plt} {n : Nat} (h : TailN l p n) (hn : n < l.length) (e : (l.reverse.getD n o0).plate = p) : lastO l p = some (l.reverse.getD n o0) := by
 unfold lastO
 have hn' : n < l.reverse.length := by simpa using hn
 have e0 : l.reverse.getD n o0 = l.reverse[n] := by rw [List.getD_eq_getElem?_getD, List.getElem?_eq_getElem hn']; rfl
 rw [e0] at e ⊢
 rw [List.find?_eq_some_iff_getElem]
 refine ⟨by simpa using e, n, hn', rfl, fun j hj => ?_⟩
 have := h.2 j hj
 rw [List.getD_eq_getElem?_getD, List.getElem?_eq_getElem (by omega : j < l.reverse.length)] at this
 simpa using this
def con95 : Con := { ps := [.d true yHH, .d true yPC, .d false (.int .i64)], rs := [.d false (.int .i64)], pre := fun (x : Hnd × Pce × Int × Unit) => True, out := fun (x : Hnd × Pce × Int × Unit) => (loadV x.1.2.2.2.2.2.1 x.1.2.2.2.2.1 x.1.2.2.2.2.2.2 x.2.1 x.2.2.1, ()), nw := id }
theorem c95 : CtrOk Tryz.prog 95 con95.ctr :=
 con_sound (G := ⟨[(121, conIdxH.ctr), (144, con144.ctr), (125, con125.ctr)], [], [], [(164, it164)]⟩) tab_ok (EnvOk.cons cIdxH has121 (EnvOk.cons c144 has144 (EnvOk.cons c125 has125 (EnvOk.icons i164 has164 EnvOk.nil)))) rfl Tryz.func95 rfl con95 2481551606527 (by kernel_rfl) (by decide) (by decide) rfl (by decide) rfl (by
  rintro ⟨⟨(n : Int), (x : Int), (t : Int), (off : Bool), (gr : List (Pce × Flt)), (cs : List Cnt), (lg : List Opn)⟩, ⟨⟨(p1 : Int), (p2 : Int), (p3 : Int)⟩, (e1 : Int), (e2 : Int)⟩, (k : Int), _⟩ hpre hwf X hT hG hk hK
  (simp -implicitDefEqProofs only [go_sem, Bool.not_eq_true', Bool.not_eq_false', Bool.or_eq_true, Bool.or_eq_false_iff, Bool.and_eq_true, Bool.and_eq_false_iff, decide_eq_true_eq, decide_eq_false_iff_not, Classical.not_not, not_or, maxLen, con95, conIdxH, con144, con125, hT, hG, hk, hK, Tryz.results95] at hwf ⊢); (try simp (disch := decide +kernel) only [drawn, true_and, and_true])
  clear hwf
  have hib := idxV_bd (fun c : Cnt => decide (c.num = k)) cs
  have hib : -1 ≤ numIdx cs k ∧ numIdx cs k < cs.length := hib
  obtain ⟨u, hu⟩ : ∃ u, cs.getD (numIdx cs k).toNat (0, (ByteArray.empty, 0, ByteArray.empty, 0), 0, 0, 0, 0, 0, []) = u := ⟨_, rfl⟩
  have hu2 : cs.getD (numIdx cs k).toNat ct0 = u := hu
  have hL : loadV cs gr lg ((p1, p2, p3), e1, e2) k = if numIdx cs k < 0 then 6 else if idxV (fun g => decide (g = (((p1, p2, p3), e1, e2), u.2.1))) gr < 0 then 10 else match lastO lg (p1, p2, p3) with
   | some o => if o.kind = 1 then 5 else 0
   | none => 0 := by unfold loadV; rw [hu2]
  simp only [hu]
  clear hu hu2
  obtain ⟨u1, ⟨u2, (u3 : Int), u4, (u5 : Int)⟩, u6⟩ := u
  dsimp only at hL ⊢
  generalize hB : idxV (fun g => decide (g = (((p1, p2, p3), e1, e2), u2, u3, u4, u5))) gr = B at hL ⊢
  clear hB
  generalize numIdx cs k = NI at hib hL ⊢
  (repeat' (with_reducible (first | refine And.intro ?_ ?_ | intro _))) <;> (try (first | with_reducible (first | done | assumption | omega | contradiction) | decide))
  all_goals try (first | omega | rfl)
  all_goals try (rw [hL, if_pos (by omega)]; done)
  all_goals try (rw [hL, if_neg (by omega), if_pos (by omega)]; done)
  rw [if_neg (by omega), if_neg (by omega)] at hL
  refine evk_range (I := it164) (E := slG .back yOP true _ lg) ⟨fun p => { u : Unit // TailN lg (p1, p2, p3) p.length }, 1000, [(4, .one (.loc 70 0)), (6, .one (.loc 71 0))], fun p _ => [(70, .cells 79 [.int .i64 p1, .int .i64 p2, .int .i64 p3, .int .i64 e1, .int .i64 e2]), (71, .cells 60 [.int .i64 0])]⟩ ⟨(), Nat.zero_le _, fun i hi => absurd hi (Nat.not_lt_zero _)⟩ rfl ?_ rfl trivial rfl ?_ (by kernel_rfl) (by kernel_rfl) rfl ?_ ?_
  · rw [hG]; rfl
  · simp only [go_sem]
  · rintro p j ⟨_, (htr : TailN lg (p1, p2, p3) p.length)⟩ hpf hasm
    obtain ⟨rfl, hj⟩ := pfx_at hpf
    have hev := rev_at hj (0, 0, 0, 0, 0, (0, 0, 0), 0, 0)
    obtain ⟨y, hy⟩ : ∃ y, lg.getD (lg.length - 1 - j) (0, 0, 0, 0, 0, (0, 0, 0), 0, 0) = y := ⟨_, rfl⟩
    (simp -implicitDefEqProofs only [go_sem, Bool.not_eq_true', Bool.not_eq_false', Bool.or_eq_true, Bool.or_eq_false_iff, Bool.and_eq_true, Bool.and_eq_false_iff, decide_eq_true_eq, decide_eq_false_iff_not, Classical.not_not, not_or, maxLen, con95, conIdxH, con144, con125, hT, hG, hk, hK, Tryz.results95]); (try simp (disch := decide +kernel) only [drawn, true_and, and_true])
    rw [hy] at hev
    simp only [hy]
    rw [List.length_range] at htr
    have hat : y.plate = (p1, p2, p3) → lastO lg (p1, p2, p3) = some y := fun e => by rw [hev] at e ⊢; exact htr.at_ hj e
    have hne : ¬ y.plate = (p1, p2, p3) → TailN lg (p1, p2, p3) (List.range j ++ [j]).length := fun e => by
     rw [List.length_append, List.length_range, List.length_singleton]
     refine ⟨by omega, fun i hi => ?_⟩
     by_cases q : i = j
     · subst q; rw [← hev]; exact e
     · exact htr.2 i (by omega)
    clear htr hev hy hib
    obtain ⟨y1, y2, y3, (y4 : Int), y5, ⟨(q1 : Int), (q2 : Int), (q3 : Int)⟩, y6⟩ := y
    have hat : (q1, q2, q3) = (p1, p2, p3) → lastO lg (p1, p2, p3) = some (y1, y2, y3, y4, y5, (q1, q2, q3), y6) := hat
    have hne : ¬ (q1, q2, q3) = (p1, p2, p3) → TailN lg (p1, p2, p3) (List.range j ++ [j]).length := hne
    clear hasm hpf
    dsimp only
    (repeat' (with_reducible (first | refine And.intro ?_ ?_ | intro _))) <;> (try (first | with_reducible (first | done | assumption | omega | contradiction) | decide))
    all_goals first
     | omega
     | (refine fin_rf ⟨(), hne ?_⟩ ?_
        · simp only [Prod.mk.injEq]; omega
        · simp only [go_sem]
        done)
     | (rw [hL, hat (by simp only [Prod.mk.injEq]; assumption)]
        first | exact (if_pos (show y4 = 1 by assumption)).symm | exact (if_neg (show ¬ y4 = 1 by assumption)).symm)
     | fail
  · rintro p ⟨_, (htr : TailN lg (p1, p2, p3) p.length)⟩ hp
    have hpl : p.length = lg.length := by rw [show p = List.range lg.length from hp, List.length_range]
    rw [hpl] at htr
    have hno := htr.all
    (simp -implicitDefEqProofs only [go_sem, Bool.not_eq_true', Bool.not_eq_false', Bool.or_eq_true, Bool.or_eq_false_iff, Bool.and_eq_true, Bool.and_eq_false_iff, decide_eq_true_eq, decide_eq_false_iff_not, Classical.not_not, not_or, maxLen, con95, conIdxH, con144, con125, hT, hG, hk, hK, Tryz.results95]); (try simp (disch := decide +kernel) only [drawn, true_and, and_true])
    rw [hL, hno])
structure GOk (g : List Grt) : Prop where
 len : g.length ≤ 60
 ok : ∀ x ∈ g, okGr x = true
 srt : ∀ i, 0 < i → i < g.length → pltC (g.getD (i - 1) (pc0, ct0.flt)).1.1 (g.getD i (pc0, ct0.flt)).1.1 < 0
def offH (h : Hnd) (g : List Grt) (c : List Cnt) : Hnd := (h.1, h.2.1, h.2.2.1, true, g, bareC c, h.2.2.2.2.2.2)
def scanV (h : Hnd) (k : Int) (p : Pce) (n t : Int) : Hnd × Opn × Int :=
 if h.2.2.2.1 = true ∧ k = 1 ∧ loadV h.2.2.2.2.2.1 h.2.2.2.2.1 h.2.2.2.2.2.2 p n ≠ 0 then ((0, 0, 0, false, [], [], []), o0, loadV h.2.2.2.2.2.1 h.2.2.2.2.1 h.2.2.2.2.2.2 p n)
 else ((h.1, h.2.1 + 1, t, h.2.2.2.1, h.2.2.2.2.1, h.2.2.2.2.2.1, if h.2.2.2.1 = true then h.2.2.2.2.2.2 ++ [(t, h.1, h.2.1, k, n, p)] else h.2.2.2.2.2.2), (t, h.1, h.2.1, k, n, p), 0)
end Go.Proofs.YtjhoidgpecgfoaaGreat

/- Devices at work (plain); the generator of grants. -/
set_option linter.unusedSimpArgs false
set_option linter.unusedVariables false
set_option maxRecDepth 100000
set_option maxHeartbeats 8000000
namespace Go.Proofs.YtjhoidgpecgfoaaGreat
open Go.Ev

theorem bareC_ok {c : List Cnt} (h : CtsOk c) : CtsOk (bareC c) := by
 unfold bareC
 refine ⟨by rw [List.length_map]; exact h.len, fun x hx => ?_, List.pairwise_map.2 (h.num.imp fun q => q), List.pairwise_map.2 (h.pos.imp fun q => q), List.pairwise_map.2 (h.pl.imp fun _ x hx => (by cases hx))⟩
 obtain ⟨o, ho, rfl⟩ := List.mem_map.1 hx
 exact ⟨(h.ok o ho).1, Nat.zero_le _, ⟨fun x hx => (by cases hx), .nil⟩⟩
abbrev hn0 : Hnd := (0, 0, 0, false, [], [], [])
theorem ctsOk_nil : CtsOk [] := ⟨Nat.zero_le _, fun x hx => (by cases hx), .nil, .nil, .nil⟩
theorem newH_ok {i : Nat} (h : i < 6) : HOk (newH i) := by
 unfold newH
 refine ⟨by dsimp only; omega, by dsimp only; omega, by dsimp only; omega, .inr ⟨rfl, rfl, rfl⟩, Nat.zero_le _, fun x hx => (by cases hx), fun i _ hi => absurd hi (Nat.not_lt_zero _), fun x hx => (by cases hx), ctsOk_nil, Nat.zero_le _, fun x hx => (by cases hx), fun i hi => absurd hi (Nat.not_lt_zero _), fun i _ hi => absurd hi (Nat.not_lt_zero _)⟩
theorem HOk.off {h : Hnd} {g : List Grt} {c : List Cnt} (h0 : HOk h) (hg : GOk g) (hc : CtsOk c) : HOk (offH h g c) := by
 refine ⟨h0.num, h0.nxt, h0.lst, .inl rfl, hg.len, hg.ok, hg.srt, fun o ho => ?_, bareC_ok hc, h0.ll, h0.lok, h0.lsq, h0.lt⟩
 obtain ⟨x, _, rfl⟩ := List.mem_map.1 (show o ∈ bareC c from ho)
 rfl
theorem scanV_0 {h : Hnd} {k : Int} {p : Pce} {n t : Int} (he : (scanV h k p n t).2.2 = 0) :
 scanV h k p n t = ((h.1, h.2.1 + 1, t, h.2.2.2.1, h.2.2.2.2.1, h.2.2.2.2.2.1, if h.2.2.2.1 = true then h.2.2.2.2.2.2 ++ [(t, h.1, h.2.1, k, n, p)] else h.2.2.2.2.2.2), (t, h.1, h.2.1, k, n, p), 0) ∧
 (h.2.2.2.1 = true → k = 1 → loadV h.2.2.2.2.2.1 h.2.2.2.2.1 h.2.2.2.2.2.2 p n = 0) := by
 unfold scanV at he ⊢
 split at he
 · rename_i hc; exact absurd he hc.2.2
 · rename_i hc
   rw [if_neg hc]
   exact ⟨rfl, fun h1 h2 => Classical.byContradiction fun h3 => hc ⟨h1, h2, h3⟩⟩
theorem getD_snoc {l : List Opn} {o z : Opn} {i : Nat} : (l ++ [o]).getD i z = if i < l.length then l.getD i z else if i = l.length then o else z := by
 rw [List.getD_eq_getElem?_getD, List.getElem?_append]
 split
 · rw [List.getD_eq_getElem?_getD]
 · split
   · rename_i h1 h2; subst h2; simp
   · rename_i h1 h2
     rw [List.getElem?_eq_none (by simp; omega)]; rfl
theorem HOk.scan {h : Hnd} {k : Int} {p : Pce} {n t : Int} (h0 : HOk h) (hk : k = 1 ∨ k = 2) (hp : okPc p = true) (hn : 1 ≤ n ∧ n ≤ 999) (ht : h.2.2.1 ≤ t ∧ t ≤ 1000) (hx : h.2.1 ≤ 1000) (hl : h.2.2.2.2.2.2.length < 60) :
 okOp (t, h.1, h.2.1, k, n, p) = true ∧ HOk (h.1, h.2.1 + 1, t, h.2.2.2.1, h.2.2.2.2.1, h.2.2.2.2.2.1, if h.2.2.2.1 = true then h.2.2.2.2.2.2 ++ [(t, h.1, h.2.1, k, n, p)] else h.2.2.2.2.2.2) := by
 have h1 := h0.num
 have h2 := h0.nxt
 have h3 := h0.lst
 have ho : okOp (t, h.1, h.2.1, k, n, p) = true := by
  unfold okOp inV
  simp only [hp, Bool.and_eq_true, Bool.or_eq_true, decide_eq_true_eq, and_true]
  omega
 refine ⟨ho, ?_⟩
 obtain ⟨a, x, l, off, gr, cs, lg⟩ := h
 have hlq : ∀ i, i < lg.length → (lg.getD i o0).2.2.1 = x - lg.length + i := h0.lsq
 have hlt : ∀ i, 0 < i → i < lg.length → (lg.getD (i - 1) o0).1 ≤ (lg.getD i o0).1 := h0.lt
 have hlk : ∀ o ∈ lg, okOp o = true ∧ o.2.1 = a ∧ o.1 ≤ l := h0.lok
 dsimp only at *
 by_cases hf : off = true
 · rw [if_pos hf]
   refine ⟨h1, by dsimp only; omega, by dsimp only; omega, .inl hf, h0.gl, h0.gok, h0.gs, h0.ce, h0.cok, by dsimp only; rw [List.length_append, List.length_singleton]; omega, fun o ho' => ?_, fun i hi => ?_, fun i hi0 hi => ?_⟩ <;> dsimp only at *
   · rcases List.mem_append.1 ho' with q | q
     · obtain ⟨k1, k2, k3⟩ := hlk o q
       exact ⟨k1, k2, by omega⟩
     · rw [List.mem_singleton.1 q]; exact ⟨ho, rfl, Int.le_refl _⟩
   · rw [List.length_append, List.length_singleton] at hi ⊢
     rw [getD_snoc]
     by_cases q : i < lg.length
     · rw [if_pos q, hlq i q]; omega
     · rw [if_neg q, if_pos (by omega)]; dsimp only; omega
   · rw [List.length_append, List.length_singleton] at hi
     rw [getD_snoc, getD_snoc, if_pos (by omega : i - 1 < lg.length)]
     by_cases q : i < lg.length
     · rw [if_pos q]; exact hlt i hi0 q
     · rw [if_neg q, if_pos (by omega)]
       have := (hlk _ (getD_mem (d := o0) (by omega : i - 1 < lg.length))).2.2
       dsimp only; omega
 · rw [if_neg hf]
   obtain ⟨q1, q2, q3⟩ := h0.bar.resolve_left hf
   dsimp only at q3
   have q3 := List.eq_nil_of_length_eq_zero q3
   subst q3
   exact ⟨h1, by dsimp only; omega, by dsimp only; omega, .inr ⟨q1, q2, rfl⟩, h0.gl, h0.gok, h0.gs, h0.ce, h0.cok, Nat.zero_le _, fun o ho => (by cases ho), fun i hi => absurd hi (Nat.not_lt_zero _), fun i _ hi => absurd hi (Nat.not_lt_zero _)⟩
theorem getD_setH {l : List Hnd} {d j : Nat} {x : Hnd} (hd : d < l.length) : (l.set d x).getD j hn0 = if j = d then x else l.getD j hn0 := by
 rw [List.getD_eq_getElem?_getD, List.getElem?_set, List.getD_eq_getElem?_getD]
 by_cases h : j = d
 · subst h; rw [if_pos rfl, if_pos rfl, if_pos hd]; rfl
 · rw [if_neg (fun e => h e.symm), if_neg h]
end Go.Proofs.YtjhoidgpecgfoaaGreat
