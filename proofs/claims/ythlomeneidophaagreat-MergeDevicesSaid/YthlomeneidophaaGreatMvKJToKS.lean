/- Handhelds. -/
import Derived.Test.YthlomeneidophaaGreatMvK2ToK4
import Derived.Test.YthlomeneidophaaGreatMvKfToKH
set_option linter.unusedSimpArgs false
set_option linter.unusedVariables false
set_option maxRecDepth 100000
set_option maxHeartbeats 8000000
namespace Go.Proofs.YthlomeneidophaaGreat
open Go.Ev

abbrev Grt := Pce × Flt
abbrev Hnd := Int × Int × Int × Bool × List (Pce × Flt) × List Cnt × List Opn
def newH (n : Nat) : Hnd := ((n : Int) + 1, 1, 0, false, [], [], [])
def newsH (n : Nat) : List Hnd := (List.range n).map newH
def con5 : Con := { ps := [.d false (.int .i64)], rs := [.o 35 yHH, .d false (.int .i64)], pre := fun (x : Int × Unit) => 0 ≤ x.1 ∧ x.1 ≤ 6, out := fun (x : Int × Unit) => (newsH x.1.toNat, 0, ()), nw := id }
theorem c5 : CtrOk Tryz.prog 5 con5.ctr :=
 con_sound (G := ⟨[(20, con20.ctr)], [], [], []⟩) tab_ok (EnvOk.cons c20 has20 EnvOk.nil) rfl Tryz.func5 rfl con5 3901 (by kernel_rfl) (by decide) (by decide) rfl (by decide) rfl (by
  rintro ⟨(n : Int), _⟩ hpre hwf X hT hG hk hK
  obtain ⟨h1, h2⟩ : 0 ≤ n ∧ n ≤ 6 := hpre
  (simp -implicitDefEqProofs only [go_sem, Bool.not_eq_true', Bool.not_eq_false', Bool.or_eq_true, Bool.or_eq_false_iff, Bool.and_eq_true, Bool.and_eq_false_iff, decide_eq_true_eq, decide_eq_false_iff_not, Classical.not_not, not_or, maxLen, con5, con20, hT, hG, hk, hK, Tryz.results5] at hwf ⊢); (try simp (disch := decide +kernel) only [drawn, true_and, and_true])
  have hwf := hwf
  have e : inV n 0 6 = true := by unfold inV; simp [h1, h2]
  simp only [e]
  refine ⟨fun q => (by cases q), fun _ => ?_⟩
  refine evk_loop ⟨{ k : Nat // (k : Int) ≤ n }, 1000, fun q => [(4, .one (.row 64)), (9, .one (.int .i64 n)), (10, .one (.int .i64 q.1))], fun q => [(64, .row 35 yHH (newsH q.1))], fun q => n.toNat - q.1⟩ ⟨0, by omega⟩ ?_ ?_
  · simp only [go_sem]
    try (first | rfl | exact ⟨rfl, rfl⟩ | (and_intros <;> first | trivial | rfl | omega))
  · rintro ⟨k, (hk1 : (k : Int) ≤ n)⟩
    (simp -implicitDefEqProofs only [go_sem, Bool.not_eq_true', Bool.not_eq_false', Bool.or_eq_true, Bool.or_eq_false_iff, Bool.and_eq_true, Bool.and_eq_false_iff, decide_eq_true_eq, decide_eq_false_iff_not, Classical.not_not, not_or, maxLen, con5, con20, hT, hG, hk, hK, Tryz.results5]); (try simp (disch := decide +kernel) only [drawn, true_and, and_true])
    have hs : newsH (k + 1) = newsH k ++ [newH k] := by unfold newsH; rw [List.range_succ, List.map_append]; rfl
    have hl : (newsH k).length = k := by unfold newsH; simp
    clear e
    (repeat' (with_reducible (first | refine And.intro ?_ ?_ | intro _))) <;> (try (first | with_reducible (first | done | assumption | omega | contradiction) | decide))
    all_goals first
     | omega
     | (refine fin_lp ⟨k + 1, by omega⟩ ?_ (by dsimp only; omega)
        simp only [go_sem]
        rw [hs]
        try (first | rfl | exact ⟨rfl, rfl⟩ | (and_intros <;> first | trivial | rfl | omega))
        done)
     | (rw [show n.toNat = k by omega]; done)
     | (congr 1; omega)
     | fail)
def con10 : Con := { ps := [.p 63 ySR], rs := [.d false .bool], pre := fun _ => True, out := fun (x : Src × Unit) => (decide (x.1.2 < x.1.1.length), ()), nw := id }
theorem c10 : CtrOk Tryz.prog 10 con10.ctr :=
 con_sound (G := ⟨[], [], [], []⟩) tab_ok EnvOk.nil rfl Tryz.func10 rfl con10 5 (by kernel_rfl) (by decide) (by decide) rfl (by decide) rfl (by
  rintro ⟨⟨(s : List Int), (a : Int)⟩, _⟩ hpre hwf X hT hG hk hK
  (simp -implicitDefEqProofs only [go_sem, Bool.not_eq_true', Bool.not_eq_false', Bool.or_eq_true, Bool.or_eq_false_iff, Bool.and_eq_true, Bool.and_eq_false_iff, decide_eq_true_eq, decide_eq_false_iff_not, Classical.not_not, not_or, maxLen, con10, hT, hG, hk, hK, Tryz.results10] at hwf ⊢); (try simp (disch := decide +kernel) only [drawn, true_and, and_true])
  (repeat' (with_reducible (first | refine And.intro ?_ ?_ | intro _))) <;> (try (first | with_reducible (first | done | assumption | omega | contradiction) | decide))
  all_goals first | done | fail)
def okGr (g : Grt) : Bool := okPc g.1 && fltOk g.2
def con25 : Con := { ps := [.d true yGR], rs := [.d false .bool], pre := fun _ => True, out := fun (x : Grt × Unit) => (okGr x.1, ()), nw := id }
theorem c25 : CtrOk Tryz.prog 25 con25.ctr :=
 con_sound (G := ⟨[(34, con34.ctr), (49, con49.ctr)], [], [], []⟩) tab_ok (EnvOk.cons c34 has34 (EnvOk.cons c49 has49 EnvOk.nil)) rfl Tryz.func25 rfl con25 7 (by kernel_rfl) (by decide) (by decide) rfl (by decide) rfl (by
  rintro ⟨⟨⟨⟨(p1 : Int), (p2 : Int), (p3 : Int)⟩, (e1 : Int), (e2 : Int)⟩, ⟨f1, (f2 : Int), f3, (f4 : Int)⟩⟩, _⟩ hpre hwf X hT hG hk hK
  (simp -implicitDefEqProofs only [go_sem, Bool.not_eq_true', Bool.not_eq_false', Bool.or_eq_true, Bool.or_eq_false_iff, Bool.and_eq_true, Bool.and_eq_false_iff, decide_eq_true_eq, decide_eq_false_iff_not, Classical.not_not, not_or, maxLen, con25, con34, con49, hT, hG, hk, hK, Tryz.results25] at hwf ⊢); (try simp (disch := decide +kernel) only [drawn, true_and, and_true])
  rfl)
/-- A device as New, Offline and Scan leave it. -/
structure HOk (h : Hnd) : Prop where
 num : 1 ≤ h.1 ∧ h.1 ≤ 6
 nxt : 1 ≤ h.2.1 ∧ h.2.1 ≤ 1048576
 lst : 0 ≤ h.2.2.1 ∧ h.2.2.1 ≤ 1048576
 bar : h.2.2.2.1 = true ∨ h.2.2.2.2.1.length = 0 ∧ h.2.2.2.2.2.1.length = 0 ∧ h.2.2.2.2.2.2.length = 0
 gl : h.2.2.2.2.1.length ≤ 60
 gok : ∀ g ∈ h.2.2.2.2.1, okGr g = true
 gs : ∀ i, 0 < i → i < h.2.2.2.2.1.length → pltC (h.2.2.2.2.1.getD (i - 1) (pc0, ct0.flt)).1.1 (h.2.2.2.2.1.getD i (pc0, ct0.flt)).1.1 < 0
 ce : ∀ o ∈ h.2.2.2.2.2.1, o.pcs = []
 cok : CtsOk h.2.2.2.2.2.1
 ll : h.2.2.2.2.2.2.length ≤ 60
 lok : ∀ o ∈ h.2.2.2.2.2.2, okOp o = true ∧ o.2.1 = h.1 ∧ o.1 ≤ h.2.2.1
 lsq : ∀ i, i < h.2.2.2.2.2.2.length → (h.2.2.2.2.2.2.getD i o0).2.2.1 = h.2.1 - h.2.2.2.2.2.2.length + i
 lt : ∀ i, 0 < i → i < h.2.2.2.2.2.2.length → (h.2.2.2.2.2.2.getD (i - 1) o0).1 ≤ (h.2.2.2.2.2.2.getD i o0).1
def con44 : Con := { ps := [.d true yHH], rs := [.d false .bool], pre := fun (x : Hnd × Unit) => HOk x.1, out := fun _ => (true, ()), nw := id }
theorem c44 : CtrOk Tryz.prog 44 con44.ctr :=
 con_sound (G := ⟨[(20, con20.ctr)], [], [], []⟩) tab_ok (EnvOk.cons c20 has20 EnvOk.nil) rfl Tryz.func44 rfl con44 7 (by kernel_rfl) (by decide) (by decide) rfl (by decide) rfl (by
  rintro ⟨⟨(n : Int), (x : Int), (t : Int), (off : Bool), (gr : List (Pce × Flt)), (cs : List Cnt), (lg : List Opn)⟩, _⟩ hpre hwf X hT hG hk hK
  have h0 : HOk (n, x, t, off, gr, cs, lg) := hpre
  have e1 : inV n 1 6 = true := by have := h0.num; unfold inV; simp only [Bool.and_eq_true, decide_eq_true_eq]; exact this
  have e2 : inV x 1 1048576 = true := by have := h0.nxt; unfold inV; simp only [Bool.and_eq_true, decide_eq_true_eq]; exact this
  have e3 : inV t 0 1048576 = true := by have := h0.lst; unfold inV; simp only [Bool.and_eq_true, decide_eq_true_eq]; exact this
  (simp -implicitDefEqProofs only [go_sem, Bool.not_eq_true', Bool.not_eq_false', Bool.or_eq_true, Bool.or_eq_false_iff, Bool.and_eq_true, Bool.and_eq_false_iff, decide_eq_true_eq, decide_eq_false_iff_not, Classical.not_not, not_or, maxLen, con44, con20, hT, hG, hk, hK, Tryz.results44] at hwf ⊢); (try simp (disch := decide +kernel) only [drawn, true_and, and_true])
  clear hwf hpre
  exact ⟨⟨e1, e2⟩, e3⟩)
def con45 : Con := { ps := [.d true yHH], rs := [.d false .bool], pre := fun (x : Hnd × Unit) => HOk x.1, out := fun _ => (true, ()), nw := id }
theorem c45 : CtrOk Tryz.prog 45 con45.ctr :=
 con_sound (G := ⟨[], [], [], []⟩) tab_ok EnvOk.nil rfl Tryz.func45 rfl con45 7 (by kernel_rfl) (by decide) (by decide) rfl (by decide) rfl (by
  rintro ⟨⟨(n : Int), (x : Int), (t : Int), (off : Bool), (gr : List (Pce × Flt)), (cs : List Cnt), (lg : List Opn)⟩, _⟩ hpre hwf X hT hG hk hK
  have h0 : HOk (n, x, t, off, gr, cs, lg) := hpre
  have hb : off = true ∨ gr.length = 0 ∧ cs.length = 0 ∧ lg.length = 0 := h0.bar
  (simp -implicitDefEqProofs only [go_sem, Bool.not_eq_true', Bool.not_eq_false', Bool.or_eq_true, Bool.or_eq_false_iff, Bool.and_eq_true, Bool.and_eq_false_iff, decide_eq_true_eq, decide_eq_false_iff_not, Classical.not_not, not_or, maxLen, con45, hT, hG, hk, hK, Tryz.results45] at hwf ⊢); (try simp (disch := decide +kernel) only [drawn, true_and, and_true])
  clear hwf hpre
  rcases hb with rfl | ⟨h1, h2, h3⟩
  · exact fun _ _ => ⟨fun h => (by cases h), fun _ => ⟨fun h => (by cases h), .inl rfl⟩⟩
  · exact fun _ _ => ⟨fun _ => (by omega), fun _ => ⟨fun _ => (by omega), .inr (by omega)⟩⟩)
def con47 : Con := { ps := [.d true yHH], rs := [.d false .bool], pre := fun (x : Hnd × Unit) => HOk x.1, out := fun _ => (true, ()), nw := id }
theorem c47 : CtrOk Tryz.prog 47 con47.ctr :=
 con_sound (G := ⟨[(27, con27.ctr)], [], [], []⟩) tab_ok (EnvOk.cons c27 has27 EnvOk.nil) rfl Tryz.func47 rfl con47 33751 (by kernel_rfl) (by decide) (by decide) rfl (by decide) rfl (by
  rintro ⟨⟨(n : Int), (x : Int), (t : Int), (off : Bool), (gr : List (Pce × Flt)), (cs : List Cnt), (lg : List Opn)⟩, _⟩ hpre hwf X hT hG hk hK
  have h0 : HOk (n, x, t, off, gr, cs, lg) := hpre
  have hce : ∀ o ∈ cs, o.pcs = [] := h0.ce
  have hcv : checkV cs = 0 := checkV_iff.2 h0.cok
  (simp -implicitDefEqProofs only [go_sem, Bool.not_eq_true', Bool.not_eq_false', Bool.or_eq_true, Bool.or_eq_false_iff, Bool.and_eq_true, Bool.and_eq_false_iff, decide_eq_true_eq, decide_eq_false_iff_not, Classical.not_not, not_or, maxLen, con47, con27, hT, hG, hk, hK, Tryz.results47] at hwf ⊢); (try simp (disch := decide +kernel) only [drawn, true_and, and_true])
  clear hwf hpre
  refine fun _ => evk_loop ⟨{ i : Nat // i ≤ cs.length }, 1000, fun q => [(1, .one (.loc 70 0)), (6, .one (.sl yCT cs false)), (7, .one (.int .i64 cs.length)), (8, .one (.int .i64 q.1))], fun q => [(70, .cells 98 [.int .i64 n, .int .i64 x, .int .i64 t, .bool off, .sl yGR gr false, .sl yCT cs false, .sl yOP lg false])], fun q => cs.length - q.1⟩ ⟨0, Nat.zero_le _⟩ ?_ ?_
  · simp only [go_sem]
    try (first | rfl | exact ⟨rfl, rfl⟩ | (and_intros <;> first | trivial | rfl | omega))
  · rintro ⟨i, (hi : i ≤ cs.length)⟩
    (simp -implicitDefEqProofs only [go_sem, Bool.not_eq_true', Bool.not_eq_false', Bool.or_eq_true, Bool.or_eq_false_iff, Bool.and_eq_true, Bool.and_eq_false_iff, decide_eq_true_eq, decide_eq_false_iff_not, Classical.not_not, not_or, maxLen, con47, con27, hT, hG, hk, hK, Tryz.results47]); (try simp (disch := decide +kernel) only [drawn, true_and, and_true])
    obtain ⟨u, hu⟩ : ∃ u, cs.getD (i : Int).toNat (0, (ByteArray.empty, 0, ByteArray.empty, 0), 0, 0, 0, 0, 0, []) = u := ⟨_, rfl⟩
    have hu2 : cs.getD i ct0 = u := hu
    have hz : i < cs.length → u.2.2.2.2.2.2.2 = [] := fun h => hce u (by rw [← hu2]; exact getD_mem h)
    try simp only [hu, hcv]
    (repeat' (with_reducible (first | refine And.intro ?_ ?_ | intro _))) <;> (try (first | with_reducible (first | done | assumption | omega | contradiction) | decide))
    all_goals first
     | omega
     | (refine fin_lp ⟨i + 1, by omega⟩ ?_ (by dsimp only; omega)
        simp only [go_sem]
        try (first | rfl | exact ⟨rfl, rfl⟩ | (and_intros <;> first | trivial | rfl | omega))
        done)
     | (have hz := hz (by omega); simp [hz] at *; done)
     | fail)
def con46 : Con := { ps := [.d true yHH], rs := [.d false .bool], pre := fun (x : Hnd × Unit) => HOk x.1, out := fun _ => (true, ()), nw := id }
theorem c46 : CtrOk Tryz.prog 46 con46.ctr :=
 con_sound (G := ⟨[(25, con25.ctr), (26, con26.ctr)], [], [], []⟩) tab_ok (EnvOk.cons c25 has25 (EnvOk.cons c26 has26 EnvOk.nil)) rfl Tryz.func46 rfl con46 274877922591 (by kernel_rfl) (by decide) (by decide) rfl (by decide) rfl (by
  rintro ⟨⟨(n : Int), (x : Int), (t : Int), (off : Bool), (gr : List (Pce × Flt)), (cs : List Cnt), (lg : List Opn)⟩, _⟩ hpre hwf X hT hG hk hK
  have h0 : HOk (n, x, t, off, gr, cs, lg) := hpre
  have hgl : gr.length ≤ 60 := h0.gl
  have hgk : ∀ g ∈ gr, okGr g = true := h0.gok
  have hgs : ∀ i, 0 < i → i < gr.length → pltC (gr.getD (i - 1) (pc0, ct0.flt)).1.1 (gr.getD i (pc0, ct0.flt)).1.1 < 0 := h0.gs
  (simp -implicitDefEqProofs only [go_sem, Bool.not_eq_true', Bool.not_eq_false', Bool.or_eq_true, Bool.or_eq_false_iff, Bool.and_eq_true, Bool.and_eq_false_iff, decide_eq_true_eq, decide_eq_false_iff_not, Classical.not_not, not_or, maxLen, con46, con25, con26, hT, hG, hk, hK, Tryz.results46] at hwf ⊢); (try simp (disch := decide +kernel) only [drawn, true_and, and_true])
  clear hwf hpre
  refine fun _ => ⟨fun _ => (by omega), fun _ _ => ?_⟩
  refine evk_loop ⟨{ i : Nat // i ≤ gr.length }, 1000, fun q => [(1, .one (.loc 70 0)), (10, .one (.sl yGR gr false)), (11, .one (.int .i64 gr.length)), (12, .one (.int .i64 q.1))], fun q => [(70, .cells 98 [.int .i64 n, .int .i64 x, .int .i64 t, .bool off, .sl yGR gr false, .sl yCT cs false, .sl yOP lg false])], fun q => gr.length - q.1⟩ ⟨0, Nat.zero_le _⟩ ?_ ?_
  · simp only [go_sem]
    try (first | rfl | exact ⟨rfl, rfl⟩ | (and_intros <;> first | trivial | rfl | omega))
  · rintro ⟨i, (hi : i ≤ gr.length)⟩
    (simp -implicitDefEqProofs only [go_sem, Bool.not_eq_true', Bool.not_eq_false', Bool.or_eq_true, Bool.or_eq_false_iff, Bool.and_eq_true, Bool.and_eq_false_iff, decide_eq_true_eq, decide_eq_false_iff_not, Classical.not_not, not_or, maxLen, con46, con25, con26, hT, hG, hk, hK, Tryz.results46]); (try simp (disch := decide +kernel) only [drawn, true_and, and_true])
    obtain ⟨u, hu⟩ : ∃ u, gr.getD (i : Int).toNat (((0, 0, 0), 0, 0), ByteArray.empty, 0, ByteArray.empty, 0) = u := ⟨_, rfl⟩
    obtain ⟨v, hv⟩ : ∃ v, gr.getD ((i : Int) - 1).toNat (((0, 0, 0), 0, 0), ByteArray.empty, 0, ByteArray.empty, 0) = v := ⟨_, rfl⟩
    have hu2 : gr.getD i (pc0, ct0.flt) = u := hu
    have hk1 : i < gr.length → okGr u = true := fun h => hgk u (by rw [← hu2]; exact getD_mem h)
    have hk2 : 0 < i → i < gr.length → pltC v.1.1 u.1.1 < 0 := fun h1 h2 => by
     have := hgs i h1 h2
     rw [hu2, show gr.getD (i - 1) (pc0, ct0.flt) = v from by rw [← hv, show ((i : Int) - 1).toNat = i - 1 by omega]; rfl] at this
     exact this
    try simp only [hu, hv]
    generalize okGr u = B at hk1 ⊢
    generalize pltC v.1.1 u.1.1 = C at hk2 ⊢
    clear hgk hgs h0 hu2 hu hv
    (repeat' (with_reducible (first | refine And.intro ?_ ?_ | intro _))) <;> (try (first | with_reducible (first | done | assumption | omega | contradiction) | decide))
    all_goals first
     | omega
     | (refine fin_lp ⟨i + 1, by omega⟩ ?_ (by dsimp only; omega)
        simp only [go_sem]
        try (first | rfl | exact ⟨rfl, rfl⟩ | (and_intros <;> first | trivial | rfl | omega))
        done)
     | (rename_i q; rcases q with q | q
        · have := hk1 (by omega); rw [q] at this; cases this
        · have := hk2 (by omega) (by omega); omega)
     | fail)
def con48 : Con := { ps := [.d true yHH], rs := [.d false .bool], pre := fun (x : Hnd × Unit) => HOk x.1, out := fun _ => (true, ()), nw := id }
theorem c48 : CtrOk Tryz.prog 48 con48.ctr :=
 con_sound (G := ⟨[(40, con40.ctr)], [], [], []⟩) tab_ok (EnvOk.cons c40 has40 EnvOk.nil) rfl Tryz.func48 rfl con48 36028797018979615 (by kernel_rfl) (by decide) (by decide) rfl (by decide) rfl (by
  rintro ⟨⟨(n : Int), (x : Int), (t : Int), (off : Bool), (gr : List (Pce × Flt)), (cs : List Cnt), (lg : List Opn)⟩, _⟩ hpre hwf X hT hG hk hK
  have h0 : HOk (n, x, t, off, gr, cs, lg) := hpre
  have hll : lg.length ≤ 60 := h0.ll
  have hlk : ∀ o ∈ lg, okOp o = true ∧ o.2.1 = n ∧ o.1 ≤ t := h0.lok
  have hlq : ∀ i, i < lg.length → (lg.getD i o0).2.2.1 = x - lg.length + i := h0.lsq
  have hlt : ∀ i, 0 < i → i < lg.length → (lg.getD (i - 1) o0).1 ≤ (lg.getD i o0).1 := h0.lt
  have hx : 1 ≤ x ∧ x ≤ 1048576 := h0.nxt
  (simp -implicitDefEqProofs only [go_sem, Bool.not_eq_true', Bool.not_eq_false', Bool.or_eq_true, Bool.or_eq_false_iff, Bool.and_eq_true, Bool.and_eq_false_iff, decide_eq_true_eq, decide_eq_false_iff_not, Classical.not_not, not_or, maxLen, con48, con40, hT, hG, hk, hK, Tryz.results48] at hwf ⊢); (try simp (disch := decide +kernel) only [drawn, true_and, and_true])
  clear hwf hpre
  refine fun _ => ⟨fun _ => (by omega), fun _ _ => ?_⟩
  refine evk_loop ⟨{ i : Nat // i ≤ lg.length }, 1000, fun q => [(1, .one (.loc 70 0)), (10, .one (.sl yOP lg false)), (11, .one (.int .i64 lg.length)), (12, .one (.int .i64 q.1))], fun q => [(70, .cells 98 [.int .i64 n, .int .i64 x, .int .i64 t, .bool off, .sl yGR gr false, .sl yCT cs false, .sl yOP lg false])], fun q => lg.length - q.1⟩ ⟨0, Nat.zero_le _⟩ ?_ ?_
  · simp only [go_sem]
    try (first | rfl | exact ⟨rfl, rfl⟩ | (and_intros <;> first | trivial | rfl | omega))
  · rintro ⟨i, (hi : i ≤ lg.length)⟩
    (simp -implicitDefEqProofs only [go_sem, Bool.not_eq_true', Bool.not_eq_false', Bool.or_eq_true, Bool.or_eq_false_iff, Bool.and_eq_true, Bool.and_eq_false_iff, decide_eq_true_eq, decide_eq_false_iff_not, Classical.not_not, not_or, maxLen, con48, con40, hT, hG, hk, hK, Tryz.results48]); (try simp (disch := decide +kernel) only [drawn, true_and, and_true])
    obtain ⟨u, hu⟩ : ∃ u, lg.getD (i : Int).toNat (0, 0, 0, 0, 0, (0, 0, 0), 0, 0) = u := ⟨_, rfl⟩
    obtain ⟨v, hv⟩ : ∃ v, lg.getD ((i : Int) - 1).toNat (0, 0, 0, 0, 0, (0, 0, 0), 0, 0) = v := ⟨_, rfl⟩
    have hu2 : lg.getD i o0 = u := hu
    have hk1 : i < lg.length → okOp u = true ∧ u.2.1 = n ∧ u.1 ≤ t := fun h => hlk u (by rw [← hu2]; exact getD_mem h)
    have hk3 : i < lg.length → u.2.2.1 = x - lg.length + i := fun h => by have := hlq i h; rw [hu2] at this; exact this
    have hk2 : 0 < i → i < lg.length → v.1 ≤ u.1 := fun h1 h2 => by
     have := hlt i h1 h2
     rw [hu2, show lg.getD (i - 1) o0 = v from by rw [← hv, show ((i : Int) - 1).toNat = i - 1 by omega]; rfl] at this
     exact this
    try simp only [hu, hv]
    generalize okOp u = B at hk1 ⊢
    clear h0 hu2 hu hv hlq hlt
    (repeat' (with_reducible (first | refine And.intro ?_ ?_ | intro _))) <;> (try (first | with_reducible (first | done | assumption | omega | contradiction) | decide))
    all_goals first
     | omega
     | (refine fin_lp ⟨i + 1, by omega⟩ ?_ (by dsimp only; omega)
        simp only [go_sem]
        try (first | rfl | exact ⟨rfl, rfl⟩ | (and_intros <;> first | trivial | rfl | omega))
        done)
     | exact (hk1 (by omega)).1
     | (have hB := hk1 (by omega)
        have h3 := hk3 (by omega)
        rename_i q; rcases q with ((q | q) | q) | q
        · rw [hB.1] at q; cases q
        · exact q hB.2.1
        · exact q h3
        · have := hk2 (by omega) (by omega); omega)
     | (by_cases e : lg.length = 0
        · exact .inl (by omega)
        · exact .inr (hlk _ (getD_mem (by omega))).2.2)
     | fail)
def bareC (l : List Cnt) : List Cnt := l.map (fun o => setPcs o [])
def con29 : Con := { ps := [.d false (.sl yCT)], rs := [.d false (.sl yCT)], pre := fun (x : List Cnt × Unit) => x.1.length ≤ 1000, out := fun (x : List Cnt × Unit) => (bareC x.1, ()), nw := id }
theorem c29 : CtrOk Tryz.prog 29 con29.ctr :=
 con_sound (G := ⟨[(53, con53.ctr)], [], [], []⟩) tab_ok (EnvOk.cons c53 has53 EnvOk.nil) rfl Tryz.func29 rfl con29 1821 (by kernel_rfl) (by decide) (by decide) rfl (by decide) rfl (by
  rintro ⟨(l : List Cnt), _⟩ hpre hwf X hT hG hk hK
  have hl : l.length ≤ 1000 := hpre
  (simp -implicitDefEqProofs only [go_sem, Bool.not_eq_true', Bool.not_eq_false', Bool.or_eq_true, Bool.or_eq_false_iff, Bool.and_eq_true, Bool.and_eq_false_iff, decide_eq_true_eq, decide_eq_false_iff_not, Classical.not_not, not_or, maxLen, con29, con53, hT, hG, hk, hK, Tryz.results29] at hwf ⊢); (try simp (disch := decide +kernel) only [drawn, true_and, and_true])
  clear hwf
  refine ⟨by omega, fun _ _ => ?_⟩
  refine evk_loop ⟨{ i : Nat // i ≤ l.length }, 1000, fun q => [(3, .one (.row 64)), (8, .one (.int .i64 l.length)), (9, .one (.int .i64 q.1))], fun q => [(64, .row 68 yCT (bareC (l.take q.1) ++ l.drop q.1))], fun q => l.length - q.1⟩ ⟨0, Nat.zero_le _⟩ ?_ ?_
  · simp only [go_sem]
    try (first | rfl | exact ⟨rfl, rfl⟩ | (and_intros <;> first | trivial | rfl | omega))
  · rintro ⟨i, (hi : i ≤ l.length)⟩
    (simp -implicitDefEqProofs only [go_sem, Bool.not_eq_true', Bool.not_eq_false', Bool.or_eq_true, Bool.or_eq_false_iff, Bool.and_eq_true, Bool.and_eq_false_iff, decide_eq_true_eq, decide_eq_false_iff_not, Classical.not_not, not_or, maxLen, con29, con53, hT, hG, hk, hK, Tryz.results29]); (try simp (disch := decide +kernel) only [drawn, true_and, and_true])
    have hbl : (bareC (l.take i) ++ l.drop i).length = l.length := by unfold bareC; rw [List.length_append, List.length_map, List.length_take, List.length_drop]; omega
    have hst : i < l.length → ∀ o : Cnt, o = setPcs ((bareC (l.take i) ++ l.drop i).getD i ct0) [] → (bareC (l.take i) ++ l.drop i).set i o = bareC (l.take (i + 1)) ++ l.drop (i + 1) := fun h o ho => by
     have hlb : (bareC (l.take i)).length = i := by unfold bareC; rw [List.length_map, List.length_take]; omega
     rw [List.getD_eq_getElem?_getD, List.getElem?_append_right (by omega), hlb, Nat.sub_self, List.drop_eq_getElem_cons h] at ho
     rw [List.set_append_right _ _ (by omega), hlb, Nat.sub_self, List.drop_eq_getElem_cons h, List.set_cons_zero, List.take_succ_eq_append_getElem h]
     unfold bareC
     rw [List.map_append, List.append_assoc, ho]
     rfl
    try simp only [hbl]
    (repeat' (with_reducible (first | refine And.intro ?_ ?_ | intro _))) <;> (try (first | with_reducible (first | done | assumption | omega | contradiction) | decide))
    all_goals first
     | omega
     | (have hs := hst (by omega) _ rfl
        refine fin_lp ⟨i + 1, by omega⟩ ?_ (by dsimp only; omega)
        simp only [go_sem]
        first | exact hs | exact ⟨hs, trivial⟩ | (and_intros <;> first | exact hs | rfl | omega | trivial)
        done)
     | (rw [show i = l.length by omega, List.take_length, List.drop_length, List.append_nil]; done)
     | fail)
def con38 : Con := { ps := [.d false (.sl yOP)], rs := [.o 50 yOP], pre := fun (x : List Opn × Unit) => x.1.length ≤ 100000, out := fun (x : List Opn × Unit) => (x.1, ()), nw := id }
theorem c38 : CtrOk Tryz.prog 38 con38.ctr :=
 con_sound (G := ⟨[], [], [], []⟩) tab_ok EnvOk.nil rfl Tryz.func38 rfl con38 21 (by kernel_rfl) (by decide) (by decide) rfl (by decide) rfl (by
  rintro ⟨(l : List Opn), _⟩ hpre hwf X hT hG hk hK
  (simp -implicitDefEqProofs only [go_sem, con38, hT, hG, hk, hK, Tryz.results38] at hwf ⊢); (try simp (disch := decide +kernel) only [drawn, true_and, and_true])
  intro a ha
  have hpre : l.length ≤ 100000 := hpre
  refine ⟨fun h => (List.eq_nil_of_length_eq_zero (ha h)).symm, fun _ => by omega⟩)
def con28 : Con := { ps := [.d false (.sl yGR)], rs := [.o 48 yGR], pre := fun (x : List Grt × Unit) => x.1.length ≤ 100000, out := fun (x : List Grt × Unit) => (x.1, ()), nw := id }
theorem c28 : CtrOk Tryz.prog 28 con28.ctr :=
 con_sound (G := ⟨[], [], [], []⟩) tab_ok EnvOk.nil rfl Tryz.func28 rfl con28 21 (by kernel_rfl) (by decide) (by decide) rfl (by decide) rfl (by
  rintro ⟨(l : List Grt), _⟩ hpre hwf X hT hG hk hK
  (simp -implicitDefEqProofs only [go_sem, con28, hT, hG, hk, hK, Tryz.results28] at hwf ⊢); (try simp (disch := decide +kernel) only [drawn, true_and, and_true])
  intro a ha
  have hpre : l.length ≤ 100000 := hpre
  refine ⟨fun h => (List.eq_nil_of_length_eq_zero (ha h)).symm, fun _ => by omega⟩)
def con36 : Con := { ps := [.d true yHH], rs := [.d true yHH], pre := fun (x : Hnd × Unit) => HOk x.1, out := fun (x : Hnd × Unit) => (x.1, ()), nw := id }
theorem c36 : CtrOk Tryz.prog 36 con36.ctr :=
 con_sound (G := ⟨[(38, con38.ctr), (28, con28.ctr), (29, con29.ctr)], [], [], []⟩) tab_ok (EnvOk.cons c38 has38 (EnvOk.cons c28 has28 (EnvOk.cons c29 has29 EnvOk.nil))) rfl Tryz.func36 rfl con36 7 (by kernel_rfl) (by decide) (by decide) rfl (by decide) rfl (by
  rintro ⟨⟨(n : Int), (x : Int), (t : Int), (off : Bool), (gr : List (Pce × Flt)), (cs : List Cnt), (lg : List Opn)⟩, _⟩ hpre hwf X hT hG hk hK
  have h0 : HOk (n, x, t, off, gr, cs, lg) := hpre
  have hgl : gr.length ≤ 60 := h0.gl
  have hll : lg.length ≤ 60 := h0.ll
  have hcl : cs.length ≤ 24 := h0.cok.len
  have hce : bareC cs = cs := by
   have hce : ∀ o ∈ cs, o.pcs = [] := h0.ce
   unfold bareC
   conv => rhs; rw [← List.map_id cs]
   exact List.map_congr_left fun o ho => by rw [← hce o ho]; rfl
  (simp -implicitDefEqProofs only [go_sem, Bool.not_eq_true', Bool.not_eq_false', Bool.or_eq_true, Bool.or_eq_false_iff, Bool.and_eq_true, Bool.and_eq_false_iff, decide_eq_true_eq, decide_eq_false_iff_not, Classical.not_not, not_or, maxLen, con36, con38, con28, con29, hT, hG, hk, hK, Tryz.results36] at hwf ⊢); (try simp (disch := decide +kernel) only [drawn, true_and, and_true])
  clear hwf hpre
  simp only [hce]
  (repeat' (with_reducible (first | refine And.intro ?_ ?_ | intro _))) <;> (try (first | with_reducible (first | done | assumption | omega | contradiction) | decide))
  all_goals first | omega | rfl | fail)
end Go.Proofs.YthlomeneidophaaGreat

/- Handhelds: Validate, Scan, Offline, Online. -/
set_option linter.unusedSimpArgs false
set_option linter.unusedVariables false
set_option maxRecDepth 100000
set_option maxHeartbeats 8000000
namespace Go.Proofs.YthlomeneidophaaGreat
open Go.Ev

def con24 : Con := { ps := [.d true yHH], rs := [.d false (.int .i64)], pre := fun (x : Hnd × Unit) => HOk x.1, out := fun _ => (0, ()), nw := id }
theorem c24 : CtrOk Tryz.prog 24 con24.ctr :=
 con_sound (G := ⟨[(44, con44.ctr), (45, con45.ctr), (46, con46.ctr), (47, con47.ctr), (48, con48.ctr)], [], [(17, 7)], []⟩) tab_ok (EnvOk.cons c44 has44 (EnvOk.cons c45 has45 (EnvOk.cons c46 has46 (EnvOk.cons c47 has47 (EnvOk.cons c48 has48 EnvOk.nil))))) rfl Tryz.func24 rfl con24 35520559 (by kernel_rfl) (by decide) (by decide) rfl (by decide) rfl (by
  rintro ⟨⟨(n : Int), (x : Int), (t : Int), (off : Bool), (gr : List (Pce × Flt)), (cs : List Cnt), (lg : List Opn)⟩, _⟩ hpre hwf X hT hG hk hK
  have h0 : HOk (n, x, t, off, gr, cs, lg) := hpre
  have h1 : HOk (n, x, t, off, gr, cs, lg) = True := eq_true h0
  (simp -implicitDefEqProofs only [go_sem, Bool.not_eq_true', Bool.not_eq_false', Bool.or_eq_true, Bool.or_eq_false_iff, Bool.and_eq_true, Bool.and_eq_false_iff, decide_eq_true_eq, decide_eq_false_iff_not, Classical.not_not, not_or, maxLen, con24, con44, con45, con46, con47, con48, hT, hG, hk, hK, Tryz.results24] at hwf ⊢); (try simp (disch := decide +kernel) only [drawn, true_and, and_true])
  clear hwf hpre
  refine fun _ => evk_loop ⟨{ q : Nat × Int // q.2 = (q.1 : Int) ∧ q.1 ≤ 5 }, 1000, fun q => [(17, .one (.cs 70 5)), (18, .one (.int .i64 5)), (19, .one (.int .i64 q.1.2))], fun q => [(70, .cells 39 [.mv 44 [.pk [.int .i64 n, .int .i64 x, .int .i64 t, .bool off, .sl yGR gr false, .sl yCT cs false, .sl yOP lg false]], .mv 45 [.pk [.int .i64 n, .int .i64 x, .int .i64 t, .bool off, .sl yGR gr false, .sl yCT cs false, .sl yOP lg false]], .mv 46 [.pk [.int .i64 n, .int .i64 x, .int .i64 t, .bool off, .sl yGR gr false, .sl yCT cs false, .sl yOP lg false]], .mv 47 [.pk [.int .i64 n, .int .i64 x, .int .i64 t, .bool off, .sl yGR gr false, .sl yCT cs false, .sl yOP lg false]], .mv 48 [.pk [.int .i64 n, .int .i64 x, .int .i64 t, .bool off, .sl yGR gr false, .sl yCT cs false, .sl yOP lg false]]])], fun q => 5 - q.1.1⟩ ⟨(0, 0), rfl, Nat.zero_le _⟩ ?_ ?_
  · simp only [go_sem]
    try (first | rfl | exact ⟨rfl, rfl⟩ | (and_intros <;> first | trivial | rfl | omega))
  · rintro ⟨⟨i, z⟩, (hz : z = (i : Int)), (hi : i ≤ 5)⟩
    rcases (by omega : (i = 0 ∧ z = 0) ∨ (i = 1 ∧ z = 1) ∨ (i = 2 ∧ z = 2) ∨ (i = 3 ∧ z = 3) ∨ (i = 4 ∧ z = 4) ∨ (i = 5 ∧ z = 5)) with ⟨rfl, rfl⟩ | ⟨rfl, rfl⟩ | ⟨rfl, rfl⟩ | ⟨rfl, rfl⟩ | ⟨rfl, rfl⟩ | ⟨rfl, rfl⟩
    all_goals
     (simp -implicitDefEqProofs only [go_sem, Bool.not_eq_true', Bool.not_eq_false', Bool.or_eq_true, Bool.or_eq_false_iff, Bool.and_eq_true, Bool.and_eq_false_iff, decide_eq_true_eq, decide_eq_false_iff_not, Classical.not_not, not_or, maxLen, con24, con44, con45, con46, con47, con48, hT, hG, hk, hK, Tryz.results24, Int.reduceToNat, Int.reduceLT, Int.reduceLE]); (try simp (disch := decide +kernel) only [drawn, true_and, and_true])
     try simp only [h1]
     (repeat' (with_reducible (first | refine And.intro ?_ ?_ | intro _))) <;> (try (first | with_reducible (first | done | assumption | omega | contradiction) | decide))
     all_goals first
      | omega
      | rfl
      | trivial
      | (refine fin_lp ⟨(1, 1), rfl, by omega⟩ ?_ (by dsimp only; omega)
         simp only [go_sem]
         try (first | rfl | exact ⟨rfl, rfl⟩ | (and_intros <;> first | trivial | rfl | omega))
         done)
      | (refine fin_lp ⟨(2, 2), rfl, by omega⟩ ?_ (by dsimp only; omega)
         simp only [go_sem]
         try (first | rfl | exact ⟨rfl, rfl⟩ | (and_intros <;> first | trivial | rfl | omega))
         done)
      | (refine fin_lp ⟨(3, 3), rfl, by omega⟩ ?_ (by dsimp only; omega)
         simp only [go_sem]
         try (first | rfl | exact ⟨rfl, rfl⟩ | (and_intros <;> first | trivial | rfl | omega))
         done)
      | (refine fin_lp ⟨(4, 4), rfl, by omega⟩ ?_ (by dsimp only; omega)
         simp only [go_sem]
         try (first | rfl | exact ⟨rfl, rfl⟩ | (and_intros <;> first | trivial | rfl | omega))
         done)
      | (refine fin_lp ⟨(5, 5), rfl, by omega⟩ ?_ (by dsimp only; omega)
         simp only [go_sem]
         try (first | rfl | exact ⟨rfl, rfl⟩ | (and_intros <;> first | trivial | rfl | omega))
         done)
      | fail)
def con33 : Con := { ps := [.d false (.int .i64)], rs := [.d true yHH, .d true yOP, .d false (.int .i64)], pre := fun _ => True, out := fun (x : Int × Unit) => ((0, 0, 0, false, [], [], []), o0, x.1, ()), nw := id }
theorem c33 : CtrOk Tryz.prog 33 con33.ctr :=
 con_sound (G := ⟨[], [], [], []⟩) tab_ok EnvOk.nil rfl Tryz.func33 rfl con33 29 (by kernel_rfl) (by decide) (by decide) rfl (by decide) rfl (by
  rintro ⟨(n : Int), _⟩ hpre hwf X hT hG hk hK
  (simp -implicitDefEqProofs only [go_sem, Bool.not_eq_true', Bool.not_eq_false', Bool.or_eq_true, Bool.or_eq_false_iff, Bool.and_eq_true, Bool.and_eq_false_iff, decide_eq_true_eq, decide_eq_false_iff_not, Classical.not_not, not_or, maxLen, con33, hT, hG, hk, hK, Tryz.results33] at hwf ⊢); (try simp (disch := decide +kernel) only [drawn, true_and, and_true])
  try (first | rfl | exact ⟨rfl, rfl⟩ | (and_intros <;> first | trivial | rfl | omega)))
def con56 : Con := { ps := [.d true yCT, .p 3 (.int .i64)], rs := [.d false .bool], pre := fun _ => True, out := fun (x : Cnt × Int × Unit) => (decide (x.1.num = x.2.1), ()), nw := id }
theorem c56 : CtrOk Tryz.prog 56 con56.ctr :=
 con_sound (G := ⟨[], [], [], []⟩) tab_ok EnvOk.nil rfl Tryz.func56 rfl con56 15 (by kernel_rfl) (by decide) (by decide) rfl (by decide) rfl (by
  rintro ⟨⟨(n : Int), ⟨a1, (a2 : Int), a3, (a4 : Int)⟩, (c : Int), (lm : Int), (t : Int), (p : Int), (r : Int), (l : List Pce)⟩, (k : Int), _⟩ hpre hwf X hT hG hk hK
  (simp -implicitDefEqProofs only [go_sem, Bool.not_eq_true', Bool.not_eq_false', Bool.or_eq_true, Bool.or_eq_false_iff, Bool.and_eq_true, Bool.and_eq_false_iff, decide_eq_true_eq, decide_eq_false_iff_not, Classical.not_not, not_or, maxLen, con56, hT, hG, hk, hK, Tryz.results56] at hwf ⊢); (try simp (disch := decide +kernel) only [drawn, true_and, and_true]))
def conIdxH : Con := { ps := [.d false (.sl yCT), .cl 56 [.p 3 (.int .i64)]], rs := [.d false (.int .i64)], pre := fun _ => True, out := fun (x : List Cnt × (Int × Unit) × Unit) => (numIdx x.1 x.2.1.1, ()), nw := id }
theorem cIdxH : CtrOk Tryz.prog 55 conIdxH.ctr :=
 con_sound (G := ⟨[(56, con56.ctr)], [], [], []⟩) tab_ok (EnvOk.cons c56 has56 EnvOk.nil) rfl Tryz.func55 rfl conIdxH 66483 (by kernel_rfl) (by decide) (by decide) rfl (by decide) rfl (by
  rintro ⟨(l : List Cnt), ⟨(n : Int), _⟩, _⟩ hpre hwf X hT hG hk hK
  skip
  (simp -implicitDefEqProofs only [go_sem, Bool.not_eq_true', Bool.not_eq_false', Bool.or_eq_true, Bool.or_eq_false_iff, Bool.and_eq_true, Bool.and_eq_false_iff, decide_eq_true_eq, decide_eq_false_iff_not, Classical.not_not, not_or, maxLen, conIdxH, con56, hT, hG, hk, hK, Tryz.results55] at hwf ⊢); (try simp (disch := decide +kernel) only [drawn, true_and, and_true])
  clear hwf
  refine fun _ => evk_loop ⟨{ i : Nat // i ≤ l.length ∧ ∀ k, k < i → (fun c : Cnt => decide (c.num = n)) (l.getD k ct0) = false }, 1000, fun q => [(0, .one (.sl yCT l false)), (1, .one (.fn 56 [.loc 12 0])), (4, .one (.int .i64 0)), (7, .one (.int .i64 l.length)), (8, .one (.int .i64 q.1))], fun q => [(12, .cells 3 [.int .i64 n])], fun q => l.length - q.1⟩ ⟨0, by omega, fun k hk => by omega⟩ ?_ ?_
  · simp only [go_sem]
    try (first | rfl | exact ⟨rfl, rfl⟩ | (and_intros <;> first | trivial | rfl | omega))
  · rintro ⟨i, (hi : i ≤ l.length), hz⟩
    (simp -implicitDefEqProofs only [go_sem, Bool.not_eq_true', Bool.not_eq_false', Bool.or_eq_true, Bool.or_eq_false_iff, Bool.and_eq_true, Bool.and_eq_false_iff, decide_eq_true_eq, decide_eq_false_iff_not, Classical.not_not, not_or, maxLen, conIdxH, con56, hT, hG, hk, hK, Tryz.results55]); (try simp (disch := decide +kernel) only [drawn, true_and, and_true])
    obtain ⟨o, ho⟩ : ∃ o, l.getD i ct0 = o := ⟨_, rfl⟩
    have eo : l.getD (i : Int).toNat (0, (ByteArray.empty, 0, ByteArray.empty, 0), 0, 0, 0, 0, 0, []) = o := ho
    try simp only [eo]
    (repeat' (with_reducible (first | refine And.intro ?_ ?_ | intro _))) <;> (try (first | with_reducible (first | done | assumption | omega | contradiction) | decide))
    all_goals first
     | (have h : o.1 = n := by assumption
        exact (idxV_at (d := ct0) hz (by omega) (by show decide ((l.getD i ct0).num = n) = true; rw [ho]; exact decide_eq_true h)).symm)
     | (have h : ¬ o.1 = n := by assumption
        refine fin_lp ⟨i + 1, by omega, lt_succ hz (by show decide ((l.getD i ct0).num = n) = false; rw [ho]; exact decide_eq_false h)⟩ (by simp only [go_sem]; first | rfl | ((repeat' apply And.intro) <;> first | rfl | assumption | omega)) (by dsimp only; omega)
        done)
     | exact (idxV_none (d := ct0) fun k hk => hz k (by omega)).symm
     | fail)
def con68 : Con := { ps := [.d false (.sl yGR), .d true yGR], rs := [.d false (.int .i64)], pre := fun _ => True, out := fun (x : List Grt × Grt × Unit) => (idxV (fun g => decide (g = x.2.1)) x.1, ()), nw := id }
theorem c68 : CtrOk Tryz.prog 68 con68.ctr :=
 con_sound (G := ⟨[], [], [], []⟩) tab_ok EnvOk.nil rfl Tryz.func68 rfl con68 66491 (by kernel_rfl) (by decide) (by decide) rfl (by decide) rfl (by
  rintro ⟨(l : List Grt), ⟨⟨⟨(p1 : Int), (p2 : Int), (p3 : Int)⟩, (e1 : Int), (e2 : Int)⟩, ⟨f1, (f2 : Int), f3, (f4 : Int)⟩⟩, _⟩ hpre hwf X hT hG hk hK
  (simp -implicitDefEqProofs only [go_sem, Bool.not_eq_true', Bool.not_eq_false', Bool.or_eq_true, Bool.or_eq_false_iff, Bool.and_eq_true, Bool.and_eq_false_iff, decide_eq_true_eq, decide_eq_false_iff_not, Classical.not_not, not_or, maxLen, con68, hT, hG, hk, hK, Tryz.results68] at hwf ⊢); (try simp (disch := decide +kernel) only [drawn, true_and, and_true])
  clear hwf
  refine fun _ => evk_loop ⟨{ i : Nat // i ≤ l.length ∧ ∀ k, k < i → (fun g : Grt => decide (g = (((p1, p2, p3), e1, e2), f1, f2, f3, f4))) (l.getD k (pc0, ct0.flt)) = false }, 1000, fun q => [(0, .one (.sl yGR l false)), (3, .one (.loc 70 0)), (4, .one (.int .i64 0)), (7, .one (.int .i64 l.length)), (8, .one (.int .i64 q.1))], fun q => [(70, .cells 48 [.int .i64 p1, .int .i64 p2, .int .i64 p3, .int .i64 e1, .int .i64 e2, .str f1, .int .i64 f2, .str f3, .int .i64 f4])], fun q => l.length - q.1⟩ ⟨0, by omega, fun k hk => by omega⟩ ?_ ?_
  · simp only [go_sem]
    try (first | rfl | exact ⟨rfl, rfl⟩ | (and_intros <;> first | trivial | rfl | omega))
  · rintro ⟨i, (hi : i ≤ l.length), hz⟩
    (simp -implicitDefEqProofs only [go_sem, Bool.not_eq_true', Bool.not_eq_false', Bool.or_eq_true, Bool.or_eq_false_iff, Bool.and_eq_true, Bool.and_eq_false_iff, decide_eq_true_eq, decide_eq_false_iff_not, Classical.not_not, not_or, maxLen, con68, hT, hG, hk, hK, Tryz.results68]); (try simp (disch := decide +kernel) only [drawn, true_and, and_true])
    obtain ⟨o, ho⟩ : ∃ o, l.getD i (pc0, ct0.flt) = o := ⟨_, rfl⟩
    have eo : l.getD (i : Int).toNat (((0, 0, 0), 0, 0), ByteArray.empty, 0, ByteArray.empty, 0) = o := ho
    try simp only [eo]
    obtain ⟨⟨⟨(q1 : Int), (q2 : Int), (q3 : Int)⟩, (q4 : Int), (q5 : Int)⟩, ⟨q6, (q7 : Int), q8, (q9 : Int)⟩⟩ := o
    clear eo
    (repeat' (with_reducible (first | refine And.intro ?_ ?_ | intro _))) <;> (try (first | with_reducible (first | done | assumption | omega | contradiction) | decide))
    all_goals first
     | omega
     | (refine (idxV_at (d := (pc0, ct0.flt)) hz (by omega) ?_).symm
        rw [ho]
        refine decide_eq_true ?_
        simp_all
        done)
     | (refine fin_lp ⟨i + 1, by omega, lt_succ hz ?_⟩ ?_ (by dsimp only; omega)
        · rw [ho]
          refine decide_eq_false fun e => ?_
          simp only [Prod.mk.injEq] at e
          simp_all
        · simp only [go_sem]
          try (first | rfl | exact ⟨rfl, rfl⟩ | (and_intros <;> first | trivial | rfl | omega))
        done)
     | exact (idxV_none (d := (pc0, ct0.flt)) fun k hk => hz k (by omega)).symm
     | fail)
def con57 : Con := { ps := [.d false (.sl yGR), .d true yGR], rs := [.d false .bool], pre := fun _ => True, out := fun (x : List Grt × Grt × Unit) => (decide (idxV (fun g => decide (g = x.2.1)) x.1 ≥ 0), ()), nw := id }
theorem c57 : CtrOk Tryz.prog 57 con57.ctr :=
 con_sound (G := ⟨[(68, con68.ctr)], [], [], []⟩) tab_ok (EnvOk.cons c68 has68 EnvOk.nil) rfl Tryz.func57 rfl con57 27 (by kernel_rfl) (by decide) (by decide) rfl (by decide) rfl (by
  rintro ⟨(l : List Grt), ⟨⟨⟨(p1 : Int), (p2 : Int), (p3 : Int)⟩, (e1 : Int), (e2 : Int)⟩, ⟨f1, (f2 : Int), f3, (f4 : Int)⟩⟩, _⟩ hpre hwf X hT hG hk hK
  (simp -implicitDefEqProofs only [go_sem, Bool.not_eq_true', Bool.not_eq_false', Bool.or_eq_true, Bool.or_eq_false_iff, Bool.and_eq_true, Bool.and_eq_false_iff, decide_eq_true_eq, decide_eq_false_iff_not, Classical.not_not, not_or, maxLen, con57, con68, hT, hG, hk, hK, Tryz.results57] at hwf ⊢); (try simp (disch := decide +kernel) only [drawn, true_and, and_true]))
/-- The last operation about a plate, if any. -/
def lastO (l : List Opn) (p : Plt) : Option Opn := l.reverse.find? (fun o => decide (o.plate = p))
def loadV (cs : List Cnt) (gr : List Grt) (lg : List Opn) (p : Pce) (n : Int) : Int :=
 if numIdx cs n < 0 then 6 else if idxV (fun g => decide (g = (p, (cs.getD (numIdx cs n).toNat ct0).flt))) gr < 0 then 10 else match lastO lg p.1 with
  | some o => if o.kind = 1 then 5 else 0
  | none => 0
theorem idxV_bd {α : Type} (p : α → Bool) (l : List α) : -1 ≤ idxV p l ∧ idxV p l < l.length := by
 unfold idxV
 split
 · rename_i i h
   have := (List.findIdx?_eq_some_iff_getElem.1 h).1
   omega
 · omega
/-- None of the last n is about the plate. -/
def TailN (l : List Opn) (p : Plt) (n : Nat) : Prop := n ≤ l.length ∧ ∀ i, i < n → ¬ (l.reverse.getD i o0).plate = p
theorem TailN.all {l : List Opn} {p : Plt} (h : TailN l p l.length) : lastO l p = none := by
 unfold lastO
 rw [List.find?_eq_none]
 intro o ho
 obtain ⟨i, hi, rfl⟩ := List.getElem_of_mem ho
 have := h.2 i (by simpa using hi)
 rw [List.getD_eq_getElem?_getD, List.getElem?_eq_getElem hi] at this
 simpa using this
theorem TailN.at_ {l : List Opn} {p : Plt} {n : Nat} (h : TailN l p n) (hn : n < l.length) (e : (l.reverse.getD n o0).plate = p) : lastO l p = some (l.reverse.getD n o0) := by
 unfold lastO
 have hn' : n < l.reverse.length := by simpa using hn
 have e0 : l.reverse.getD n o0 = l.reverse[n] := by rw [List.getD_eq_getElem?_getD, List.getElem?_eq_getElem hn']; rfl
 rw [e0] at e ⊢
 rw [List.find?_eq_some_iff_getElem]
 refine ⟨by simpa using e, n, hn', rfl, fun j hj => ?_⟩
 have := h.2 j hj
 rw [List.getD_eq_getElem?_getD, List.getElem?_eq_getElem (by omega : j < l.reverse.length)] at this
 simpa using this
def con35 : Con := { ps := [.d true yHH, .d true yPC, .d false (.int .i64)], rs := [.d false (.int .i64)], pre := fun (x : Hnd × Pce × Int × Unit) => True, out := fun (x : Hnd × Pce × Int × Unit) => (loadV x.1.2.2.2.2.2.1 x.1.2.2.2.2.1 x.1.2.2.2.2.2.2 x.2.1 x.2.2.1, ()), nw := id }
theorem c35 : CtrOk Tryz.prog 35 con35.ctr :=
 con_sound (G := ⟨[(55, conIdxH.ctr), (57, con57.ctr), (58, con58.ctr)], [], [], [(69, it69)]⟩) tab_ok (EnvOk.cons cIdxH has55 (EnvOk.cons c57 has57 (EnvOk.cons c58 has58 (EnvOk.icons i69 has69 EnvOk.nil)))) rfl Tryz.func35 rfl con35 2481551606527 (by kernel_rfl) (by decide) (by decide) rfl (by decide) rfl (by
  rintro ⟨⟨(n : Int), (x : Int), (t : Int), (off : Bool), (gr : List (Pce × Flt)), (cs : List Cnt), (lg : List Opn)⟩, ⟨⟨(p1 : Int), (p2 : Int), (p3 : Int)⟩, (e1 : Int), (e2 : Int)⟩, (k : Int), _⟩ hpre hwf X hT hG hk hK
  (simp -implicitDefEqProofs only [go_sem, Bool.not_eq_true', Bool.not_eq_false', Bool.or_eq_true, Bool.or_eq_false_iff, Bool.and_eq_true, Bool.and_eq_false_iff, decide_eq_true_eq, decide_eq_false_iff_not, Classical.not_not, not_or, maxLen, con35, conIdxH, con57, con58, hT, hG, hk, hK, Tryz.results35] at hwf ⊢); (try simp (disch := decide +kernel) only [drawn, true_and, and_true])
  clear hwf
  have hib := idxV_bd (fun c : Cnt => decide (c.num = k)) cs
  have hib : -1 ≤ numIdx cs k ∧ numIdx cs k < cs.length := hib
  obtain ⟨u, hu⟩ : ∃ u, cs.getD (numIdx cs k).toNat (0, (ByteArray.empty, 0, ByteArray.empty, 0), 0, 0, 0, 0, 0, []) = u := ⟨_, rfl⟩
  have hu2 : cs.getD (numIdx cs k).toNat ct0 = u := hu
  have hL : loadV cs gr lg ((p1, p2, p3), e1, e2) k = if numIdx cs k < 0 then 6 else if idxV (fun g => decide (g = (((p1, p2, p3), e1, e2), u.2.1))) gr < 0 then 10 else match lastO lg (p1, p2, p3) with
   | some o => if o.kind = 1 then 5 else 0
   | none => 0 := by unfold loadV; rw [hu2]
  simp only [hu]
  clear hu hu2
  obtain ⟨u1, ⟨u2, (u3 : Int), u4, (u5 : Int)⟩, u6⟩ := u
  dsimp only at hL ⊢
  generalize hB : idxV (fun g => decide (g = (((p1, p2, p3), e1, e2), u2, u3, u4, u5))) gr = B at hL ⊢
  clear hB
  generalize numIdx cs k = NI at hib hL ⊢
  (repeat' (with_reducible (first | refine And.intro ?_ ?_ | intro _))) <;> (try (first | with_reducible (first | done | assumption | omega | contradiction) | decide))
  all_goals try (first | omega | rfl)
  all_goals try (rw [hL, if_pos (by omega)]; done)
  all_goals try (rw [hL, if_neg (by omega), if_pos (by omega)]; done)
  rw [if_neg (by omega), if_neg (by omega)] at hL
  refine evk_range (I := it69) (E := slG .back yOP true _ lg) ⟨fun p => { u : Unit // TailN lg (p1, p2, p3) p.length }, 1000, [(4, .one (.loc 70 0)), (6, .one (.loc 71 0))], fun p _ => [(70, .cells 43 [.int .i64 p1, .int .i64 p2, .int .i64 p3, .int .i64 e1, .int .i64 e2]), (71, .cells 26 [.int .i64 0])]⟩ ⟨(), Nat.zero_le _, fun i hi => absurd hi (Nat.not_lt_zero _)⟩ rfl ?_ rfl trivial rfl ?_ (by kernel_rfl) (by kernel_rfl) rfl ?_ ?_
  · rw [hG]; rfl
  · simp only [go_sem]
  · rintro p j ⟨_, (htr : TailN lg (p1, p2, p3) p.length)⟩ hpf hasm
    obtain ⟨rfl, hj⟩ := pfx_at hpf
    have hev := rev_at hj (0, 0, 0, 0, 0, (0, 0, 0), 0, 0)
    obtain ⟨y, hy⟩ : ∃ y, lg.getD (lg.length - 1 - j) (0, 0, 0, 0, 0, (0, 0, 0), 0, 0) = y := ⟨_, rfl⟩
    (simp -implicitDefEqProofs only [go_sem, Bool.not_eq_true', Bool.not_eq_false', Bool.or_eq_true, Bool.or_eq_false_iff, Bool.and_eq_true, Bool.and_eq_false_iff, decide_eq_true_eq, decide_eq_false_iff_not, Classical.not_not, not_or, maxLen, con35, conIdxH, con57, con58, hT, hG, hk, hK, Tryz.results35]); (try simp (disch := decide +kernel) only [drawn, true_and, and_true])
    rw [hy] at hev
    simp only [hy]
    rw [List.length_range] at htr
    have hat : y.plate = (p1, p2, p3) → lastO lg (p1, p2, p3) = some y := fun e => by rw [hev] at e ⊢; exact htr.at_ hj e
    have hne : ¬ y.plate = (p1, p2, p3) → TailN lg (p1, p2, p3) (List.range j ++ [j]).length := fun e => by
     rw [List.length_append, List.length_range, List.length_singleton]
     refine ⟨by omega, fun i hi => ?_⟩
     by_cases q : i = j
     · subst q; rw [← hev]; exact e
     · exact htr.2 i (by omega)
    clear htr hev hy hib
    obtain ⟨y1, y2, y3, (y4 : Int), y5, ⟨(q1 : Int), (q2 : Int), (q3 : Int)⟩, y6⟩ := y
    have hat : (q1, q2, q3) = (p1, p2, p3) → lastO lg (p1, p2, p3) = some (y1, y2, y3, y4, y5, (q1, q2, q3), y6) := hat
    have hne : ¬ (q1, q2, q3) = (p1, p2, p3) → TailN lg (p1, p2, p3) (List.range j ++ [j]).length := hne
    clear hasm hpf
    dsimp only
    (repeat' (with_reducible (first | refine And.intro ?_ ?_ | intro _))) <;> (try (first | with_reducible (first | done | assumption | omega | contradiction) | decide))
    all_goals first
     | omega
     | (refine fin_rf ⟨(), hne ?_⟩ ?_
        · simp only [Prod.mk.injEq]; omega
        · simp only [go_sem]
        done)
     | (rw [hL, hat (by simp only [Prod.mk.injEq]; assumption)]
        first | exact (if_pos (show y4 = 1 by assumption)).symm | exact (if_neg (show ¬ y4 = 1 by assumption)).symm)
     | fail
  · rintro p ⟨_, (htr : TailN lg (p1, p2, p3) p.length)⟩ hp
    have hpl : p.length = lg.length := by rw [show p = List.range lg.length from hp, List.length_range]
    rw [hpl] at htr
    have hno := htr.all
    (simp -implicitDefEqProofs only [go_sem, Bool.not_eq_true', Bool.not_eq_false', Bool.or_eq_true, Bool.or_eq_false_iff, Bool.and_eq_true, Bool.and_eq_false_iff, decide_eq_true_eq, decide_eq_false_iff_not, Classical.not_not, not_or, maxLen, con35, conIdxH, con57, con58, hT, hG, hk, hK, Tryz.results35]); (try simp (disch := decide +kernel) only [drawn, true_and, and_true])
    rw [hL, hno])
/-- Grants as a device takes them. -/
structure GOk (g : List Grt) : Prop where
 len : g.length ≤ 60
 ok : ∀ x ∈ g, okGr x = true
 srt : ∀ i, 0 < i → i < g.length → pltC (g.getD (i - 1) (pc0, ct0.flt)).1.1 (g.getD i (pc0, ct0.flt)).1.1 < 0
def offH (h : Hnd) (g : List Grt) (c : List Cnt) : Hnd := (h.1, h.2.1, h.2.2.1, true, g, bareC c, h.2.2.2.2.2.2)
def scanV (h : Hnd) (k : Int) (p : Pce) (n t : Int) : Hnd × Opn × Int :=
 if h.2.2.2.1 = true ∧ k = 1 ∧ loadV h.2.2.2.2.2.1 h.2.2.2.2.1 h.2.2.2.2.2.2 p n ≠ 0 then ((0, 0, 0, false, [], [], []), o0, loadV h.2.2.2.2.2.1 h.2.2.2.2.1 h.2.2.2.2.2.2 p n)
 else ((h.1, h.2.1 + 1, t, h.2.2.2.1, h.2.2.2.2.1, h.2.2.2.2.2.1, if h.2.2.2.1 = true then h.2.2.2.2.2.2 ++ [(t, h.1, h.2.1, k, n, p)] else h.2.2.2.2.2.2), (t, h.1, h.2.1, k, n, p), 0)
end Go.Proofs.YthlomeneidophaaGreat

/- Handhelds: Online, Offline, Scan. -/
set_option linter.unusedSimpArgs false
set_option linter.unusedVariables false
set_option maxRecDepth 100000
set_option maxHeartbeats 8000000
namespace Go.Proofs.YthlomeneidophaaGreat
open Go.Ev

def con14 : Con := { ps := [.d true yHH], rs := [.d true yHH, .d false (.sl yOP), .d false (.int .i64)], pre := fun (x : Hnd × Unit) => HOk x.1 ∧ x.1.2.2.2.1 = true, out := fun (x : Hnd × Unit) => ((x.1.1, x.1.2.1, x.1.2.2.1, false, [], [], []), x.1.2.2.2.2.2.2, 0, ()), nw := id }
theorem c14 : CtrOk Tryz.prog 14 con14.ctr :=
 con_sound (G := ⟨[(24, con24.ctr), (38, con38.ctr)], [], [], []⟩) tab_ok (EnvOk.cons c24 has24 (EnvOk.cons c38 has38 EnvOk.nil)) rfl Tryz.func14 rfl con14 16959 (by kernel_rfl) (by decide) (by decide) rfl (by decide) rfl (by
  rintro ⟨⟨(n : Int), (x : Int), (t : Int), (off : Bool), (gr : List (Pce × Flt)), (cs : List Cnt), (lg : List Opn)⟩, _⟩ hpre hwf X hT hG hk hK
  obtain ⟨h0, h1⟩ : HOk (n, x, t, off, gr, cs, lg) ∧ off = true := hpre
  have hll : lg.length ≤ 60 := h0.ll
  subst h1
  have h2 : HOk (n, x, t, true, gr, cs, lg) = True := eq_true h0
  (simp -implicitDefEqProofs only [go_sem, Bool.not_eq_true', Bool.not_eq_false', Bool.or_eq_true, Bool.or_eq_false_iff, Bool.and_eq_true, Bool.and_eq_false_iff, decide_eq_true_eq, decide_eq_false_iff_not, Classical.not_not, not_or, maxLen, con14, con24, con38, hT, hG, hk, hK, Tryz.results14] at hwf ⊢); (try simp (disch := decide +kernel) only [drawn, true_and, and_true])
  clear hwf
  (repeat' (with_reducible (first | refine And.intro ?_ ?_ | intro _))) <;> (try (first | with_reducible (first | done | assumption | omega | contradiction) | decide))
  all_goals first | omega | rfl | fail)
def con8 : Con := { ps := [.d true yHH, .d false (.sl yGR), .d false (.sl yCT)], rs := [.d true yHH, .d false (.int .i64)], pre := fun (x : Hnd × List Grt × List Cnt × Unit) => HOk x.1 ∧ x.1.2.2.2.1 = false ∧ GOk x.2.1 ∧ CtsOk x.2.2.1, out := fun (x : Hnd × List Grt × List Cnt × Unit) => (offH x.1 x.2.1 x.2.2.1, 0, ()), nw := id }
theorem c8 : CtrOk Tryz.prog 8 con8.ctr :=
 con_sound (G := ⟨[(24, con24.ctr), (25, con25.ctr), (26, con26.ctr), (27, con27.ctr), (28, con28.ctr), (29, con29.ctr)], [], [], []⟩) tab_ok (EnvOk.cons c24 has24 (EnvOk.cons c25 has25 (EnvOk.cons c26 has26 (EnvOk.cons c27 has27 (EnvOk.cons c28 has28 (EnvOk.cons c29 has29 EnvOk.nil)))))) rfl Tryz.func8 rfl con8 146367005581676495 (by kernel_rfl) (by decide) (by decide) rfl (by decide) rfl (by
  rintro ⟨⟨(n : Int), (x : Int), (t : Int), (off : Bool), (gr : List (Pce × Flt)), (cs : List Cnt), (lg : List Opn)⟩, (g : List (Pce × Flt)), (c : List Cnt), _⟩ hpre hwf X hT hG hk hK
  obtain ⟨h0, h1, h2, h3⟩ : HOk (n, x, t, off, gr, cs, lg) ∧ off = false ∧ GOk g ∧ CtsOk c := hpre
  subst h1
  have h4 : HOk (n, x, t, false, gr, cs, lg) = True := eq_true h0
  have hcv : checkV c = 0 := checkV_iff.2 h3
  have hcl : c.length ≤ 24 := h3.len
  have hgl : g.length ≤ 60 := h2.len
  have hgk : ∀ x ∈ g, okGr x = true := h2.ok
  have hgs : ∀ i, 0 < i → i < g.length → pltC (g.getD (i - 1) (pc0, ct0.flt)).1.1 (g.getD i (pc0, ct0.flt)).1.1 < 0 := h2.srt
  (simp -implicitDefEqProofs only [go_sem, Bool.not_eq_true', Bool.not_eq_false', Bool.or_eq_true, Bool.or_eq_false_iff, Bool.and_eq_true, Bool.and_eq_false_iff, decide_eq_true_eq, decide_eq_false_iff_not, Classical.not_not, not_or, maxLen, con8, con24, con25, con26, con27, con28, con29, hT, hG, hk, hK, Tryz.results8] at hwf ⊢); (try simp (disch := decide +kernel) only [drawn, true_and, and_true])
  clear hwf
  refine ⟨h0, fun _ => ⟨fun q => q.elim, fun q => q.elim, fun _ => ⟨fun _ => by omega, fun _ _ => ?_⟩⟩⟩
  refine evk_loop ⟨{ i : Nat // i ≤ g.length }, 1000, fun q => [(1, .one (.sl yGR g false)), (2, .one (.sl yCT c false)), (3, .one (.loc 70 0)), (6, .one (.loc 71 0)), (25, .one (.sl yGR g false)), (26, .one (.int .i64 g.length)), (27, .one (.int .i64 q.1))], fun q => [(70, .cells 35 [.int .i64 n, .int .i64 x, .int .i64 t, .bool false, .sl yGR gr false, .sl yCT cs false, .sl yOP lg false]), (71, .cells 35 [.int .i64 0, .int .i64 0, .int .i64 0, .bool false, .sl yGR [] false, .sl yCT [] false, .sl yOP [] false])], fun q => g.length - q.1⟩ ⟨0, Nat.zero_le _⟩ ?_ ?_
  · simp only [go_sem]
    try (first | rfl | exact ⟨rfl, rfl⟩ | (and_intros <;> first | trivial | rfl | omega))
  · rintro ⟨i, (hi : i ≤ g.length)⟩
    (simp -implicitDefEqProofs only [go_sem, Bool.not_eq_true', Bool.not_eq_false', Bool.or_eq_true, Bool.or_eq_false_iff, Bool.and_eq_true, Bool.and_eq_false_iff, decide_eq_true_eq, decide_eq_false_iff_not, Classical.not_not, not_or, maxLen, con8, con24, con25, con26, con27, con28, con29, hT, hG, hk, hK, Tryz.results8]); (try simp (disch := decide +kernel) only [drawn, true_and, and_true])
    obtain ⟨u, hu⟩ : ∃ u, g.getD (i : Int).toNat (((0, 0, 0), 0, 0), ByteArray.empty, 0, ByteArray.empty, 0) = u := ⟨_, rfl⟩
    obtain ⟨v, hv⟩ : ∃ v, g.getD ((i : Int) - 1).toNat (((0, 0, 0), 0, 0), ByteArray.empty, 0, ByteArray.empty, 0) = v := ⟨_, rfl⟩
    have hu2 : g.getD i (pc0, ct0.flt) = u := hu
    have hk1 : i < g.length → okGr u = true := fun h => hgk u (by rw [← hu2]; exact getD_mem h)
    have hk2 : 0 < i → i < g.length → pltC v.1.1 u.1.1 < 0 := fun h1 h2 => by
     have := hgs i h1 h2
     rw [hu2, show g.getD (i - 1) (pc0, ct0.flt) = v from by rw [← hv, show ((i : Int) - 1).toNat = i - 1 by omega]; rfl] at this
     exact this
    try simp only [hu, hv, hcv]
    generalize okGr u = B at hk1 ⊢
    generalize pltC v.1.1 u.1.1 = C at hk2 ⊢
    clear hgk hgs h0 h4 h2 h3 hu2 hu hv
    (repeat' (with_reducible (first | refine And.intro ?_ ?_ | intro _))) <;> (try (first | with_reducible (first | done | assumption | omega | contradiction) | decide))
    all_goals first
     | omega
     | (refine fin_lp ⟨i + 1, by omega⟩ ?_ (by dsimp only; omega)
        simp only [go_sem]
        try (first | rfl | exact ⟨rfl, rfl⟩ | (and_intros <;> first | trivial | rfl | omega))
        done)
     | rfl
     | (have := hk1 (by omega); simp_all; done)
     | (rename_i q; rcases q with q | q
        · have := hk1 (by omega); rw [q] at this; cases this
        · have := hk2 (by omega) (by omega); omega)
     | fail)
def con12 : Con := { ps := [.d true yHH, .d false (.int .i64), .d true yPC, .d false (.int .i64), .d false (.int .i64)], rs := [.d true yHH, .d true yOP, .d false (.int .i64)], pre := fun (x : Hnd × Int × Pce × Int × Int × Unit) => HOk x.1 ∧ (x.2.1 = 1 ∨ x.2.1 = 2) ∧ okPc x.2.2.1 = true ∧ (1 ≤ x.2.2.2.1 ∧ x.2.2.2.1 ≤ 999) ∧ (x.1.2.2.1 ≤ x.2.2.2.2.1 ∧ x.2.2.2.2.1 ≤ 1000) ∧ x.1.2.1 ≤ 1000 ∧ x.1.2.2.2.2.2.2.length < 60, out := fun (x : Hnd × Int × Pce × Int × Int × Unit) => ((scanV x.1 x.2.1 x.2.2.1 x.2.2.2.1 x.2.2.2.2.1).1, (scanV x.1 x.2.1 x.2.2.1 x.2.2.2.1 x.2.2.2.2.1).2.1, (scanV x.1 x.2.1 x.2.2.1 x.2.2.2.1 x.2.2.2.2.1).2.2, ()), nw := id }
theorem c12 : CtrOk Tryz.prog 12 con12.ctr :=
 con_sound (G := ⟨[(20, con20.ctr), (24, con24.ctr), (33, con33.ctr), (34, con34.ctr), (35, con35.ctr), (36, con36.ctr)], [], [], []⟩) tab_ok (EnvOk.cons c20 has20 (EnvOk.cons c24 has24 (EnvOk.cons c33 has33 (EnvOk.cons c34 has34 (EnvOk.cons c35 has35 (EnvOk.cons c36 has36 EnvOk.nil)))))) rfl Tryz.func12 rfl con12 2658456072036538764577485929616768191 (by kernel_rfl) (by decide) (by decide) rfl (by decide) rfl (by
  rintro ⟨⟨(n : Int), (x : Int), (t : Int), (off : Bool), (gr : List (Pce × Flt)), (cs : List Cnt), (lg : List Opn)⟩, (k : Int), ⟨⟨(p1 : Int), (p2 : Int), (p3 : Int)⟩, (e1 : Int), (e2 : Int)⟩, (b : Int), (now : Int), _⟩ hpre hwf X hT hG hk hK
  obtain ⟨h0, h1, h2, h3, h4, h5, h6⟩ : HOk (n, x, t, off, gr, cs, lg) ∧ (k = 1 ∨ k = 2) ∧ okPc ((p1, p2, p3), e1, e2) = true ∧ (1 ≤ b ∧ b ≤ 999) ∧ (t ≤ now ∧ now ≤ 1000) ∧ x ≤ 1000 ∧ lg.length < 60 := hpre
  have hl0 : 0 ≤ t := h0.lst.1
  have hx0 : 1 ≤ x := h0.nxt.1
  have hT1 : HOk (n, x, t, off, gr, cs, lg) = True := eq_true h0
  have i1 : inV b 1 999 = true := by unfold inV; simp only [Bool.and_eq_true, decide_eq_true_eq]; exact h3
  have i2 : inV now 0 1048576 = true := by unfold inV; simp only [Bool.and_eq_true, decide_eq_true_eq]; omega
  (simp -implicitDefEqProofs only [go_sem, Bool.not_eq_true', Bool.not_eq_false', Bool.or_eq_true, Bool.or_eq_false_iff, Bool.and_eq_true, Bool.and_eq_false_iff, decide_eq_true_eq, decide_eq_false_iff_not, Classical.not_not, not_or, maxLen, con12, con20, con24, con33, con34, con35, con36, hT, hG, hk, hK, Tryz.results12] at hwf ⊢); (try simp (disch := decide +kernel) only [drawn, true_and, and_true])
  clear hwf
  simp only [h2, i1, i2, hT1]
  have hSa : off = true ∧ k = 1 → ¬ loadV cs gr lg ((p1, p2, p3), e1, e2) b = 0 → scanV (n, x, t, off, gr, cs, lg) k ((p1, p2, p3), e1, e2) b now = ((0, 0, 0, false, [], [], []), o0, loadV cs gr lg ((p1, p2, p3), e1, e2) b) := fun q1 q2 => by
   unfold scanV
   exact if_pos ⟨q1.1, q1.2, q2⟩
  have hSb : ¬ (off = true ∧ k = 1 ∧ ¬ loadV cs gr lg ((p1, p2, p3), e1, e2) b = 0) → scanV (n, x, t, off, gr, cs, lg) k ((p1, p2, p3), e1, e2) b now = ((n, x + 1, now, off, gr, cs, if off = true then lg ++ [(now, n, x, k, b, ((p1, p2, p3), e1, e2))] else lg), (now, n, x, k, b, ((p1, p2, p3), e1, e2)), 0) := fun q => by
   unfold scanV
   exact if_neg q
  generalize scanV (n, x, t, off, gr, cs, lg) k ((p1, p2, p3), e1, e2) b now = SV at hSa hSb ⊢
  generalize loadV cs gr lg ((p1, p2, p3), e1, e2) b = LV at hSa hSb ⊢
  clear h0 hT1 h2 i1 i2
  try simp only [Int.toNat_natCast, List.take_length]
  (repeat' (with_reducible (first | refine And.intro ?_ ?_ | intro _))) <;> (try (first | with_reducible (first | done | assumption | omega | contradiction) | decide))
  all_goals first
   | omega
   | rfl
   | (rw [hSa (by assumption) (by assumption)]; done)
   | (rw [hSa (by assumption) (by assumption)]; rfl)
   | (rw [hSb (fun q => by rcases q with ⟨q1, q2, q3⟩; first | contradiction | (simp_all; done))]; first | done | rfl | (rw [if_pos (by assumption)]; done) | (rw [if_neg (by assumption)]; done) | (simp_all; done))
   | fail)
end Go.Proofs.YthlomeneidophaaGreat
