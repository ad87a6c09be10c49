/- Part. -/
import Derived.Test.YtabadacjbkhmkaaGreatDoorCnDToF
set_option linter.all false
set_option maxRecDepth 100000
set_option maxHeartbeats 8000000
namespace Go.Proofs.YtabadacjbkhmkaaGreatDoor
open Go.Ev
def con119 : Con := { ps := [.d false (.int .u8)], rs := [.d false .bool], pre := fun _ => True, out := fun (x : Int × Unit) => (decide (65 ≤ x.1) && decide (x.1 ≤ 90), ()), nw := id }
theorem c119 : CtrOk Tryz.prog 119 con119.ctr :=
 aA0 eA0 eN rfl Tryz.func119 rfl con119 5 (by kernel_rfl) (by decide) (by decide) rfl (by decide) rfl (by
  rintro ⟨(c : Int), _⟩ hpre hwf X hT hG hk hK
  (simp -implicitDefEqProofs (maxSteps := 4000000) only [go_sem, con119, hT, hG, hk, hK, Tryz.results119] at hwf ⊢))
def con122 : Con := { ps := [.d false (.int .u8)], rs := [.d false .bool], pre := fun _ => True, out := fun (x : Int × Unit) => (decide (48 ≤ x.1) && decide (x.1 ≤ 57), ()), nw := id }
theorem c122 : CtrOk Tryz.prog 122 con122.ctr :=
 aA0 eA0 eN rfl Tryz.func122 rfl con122 5 (by kernel_rfl) (by decide) (by decide) rfl (by decide) rfl (by
  rintro ⟨(c : Int), _⟩ hpre hwf X hT hG hk hK
  (simp -implicitDefEqProofs (maxSteps := 4000000) only [go_sem, con122, hT, hG, hk, hK, Tryz.results122] at hwf ⊢))
def con121 : Con := { ps := [.d false (.int .u8)], rs := [.d false .bool], pre := fun (x : Int × Unit) => 65 ≤ x.1 ∧ x.1 ≤ 90, out := fun _ => (true, ()), nw := id }
theorem c121 : CtrOk Tryz.prog 121 con121.ctr :=
 aA0 eA0 (eC c119 has119 (eC c122 has122 eN)) rfl Tryz.func121 rfl con121 5 (by kernel_rfl) (by decide) (by decide) rfl (by decide) rfl (by
  rintro ⟨(c : Int), _⟩ hpre hwf X hT hG hk hK; obtain ⟨h1, h2⟩ : 65 ≤ c ∧ c ≤ 90 := hpre
  (simp -implicitDefEqProofs (maxSteps := 4000000) only [go_sem, bP, con121, con119, con122, hT, hG, hk, hK, Tryz.results121] at hwf ⊢)
  (repeat' with_reducible first | refine And.intro ?_ ?_ | intro _) <;> try first | with_reducible (first | assumption | omega | contradiction) | decide
  all_goals first
   | omega)
def con120 : Con := { ps := [.d false .str, .cl 121 []], rs := [.d false .bool], pre := fun (x : ByteArray × Unit × Unit) => Nm1 x.1, out := fun _ => (true, ()), nw := id }
theorem c120 : CtrOk Tryz.prog 120 con120.ctr :=
 aA0 eA0 (eC c121 has121 eN) rfl Tryz.func120 rfl con120 66483 (by kernel_rfl) (by decide) (by decide) rfl (by decide) rfl (by
  rintro ⟨(s : ByteArray), _⟩ hpre hwf X hT hG hk hK; obtain ⟨c, h1, h2, rfl⟩ : Nm1 s := hpre
  (simp -implicitDefEqProofs (maxSteps := 4000000) only [go_sem, bP, con120, con121, hT, hG, hk, hK, Tryz.results120] at hwf ⊢)
  clear hwf; have e0 := hA9 (c := c) ⟨h1, h2⟩; refine fun _ => cA0 ⟨{ i : Nat // i ≤ 1 }, 1000, fun i => [(0, .one (.str (strOf [c]))), (1, .one (.fn 121 [])), (7, .one (.int .i64 1)), (8, .one (.int .i64 i.1))], fun _ => [], fun i => 1 - i.1⟩ ⟨0, Nat.zero_le _⟩ ?_ ?_
  · simp only [go_sem]
    try first | rfl | (and_intros <;> first | trivial | rfl | omega)
  · rintro ⟨i, (hi : i ≤ 1)⟩
    (simp -implicitDefEqProofs (maxSteps := 4000000) only [go_sem, bP, con120, con121, hT, hG, hk, hK, Tryz.results120])
    simp only [dA3]; intro hlt; have : i = 0 := by omega
    subst this; have e1 : byteAt (strOf [c]) ((0 : Nat) : Int) = c := e0; simp only [e1]
    (repeat' with_reducible first | refine And.intro ?_ ?_ | intro _) <;> try first | with_reducible (first | assumption | omega | contradiction) | decide
    refine dA0 ⟨1, by omega⟩ ?_ (by dsimp only; omega); simp only [go_sem]; rfl)
def con98 : Con := { ps := [.d false .str, .d false yI], rs := [.d false .bool], pre := fun (x : ByteArray × Int × Unit) => Nm1 x.1 ∧ x.2.1 = 12, out := fun _ => (true, ()), nw := id }
theorem c98 : CtrOk Tryz.prog 98 con98.ctr :=
 aA0 eA0 (eC c119 has119 (eC c120 has120 (eC c121 has121 eN))) rfl Tryz.func98 rfl con98 19 (by kernel_rfl) (by decide) (by decide) rfl (by decide) rfl (by
  rintro ⟨(s : ByteArray), (m : Int), _⟩ hpre hwf X hT hG hk hK; obtain ⟨h, rfl⟩ : Nm1 s ∧ m = 12 := hpre; have hnm := h; obtain ⟨c, h1, h2, rfl⟩ := h
  (simp -implicitDefEqProofs (maxSteps := 4000000) only [go_sem, bP, con98, con119, con120, con121, hT, hG, hk, hK, Tryz.results98] at hwf ⊢)
  clear hwf; have e0 := hA9 (c := c) ⟨h1, h2⟩; simp only [dA3]; simp only [e0]
  (repeat' with_reducible first | refine And.intro ?_ ?_ | intro _) <;> try first | with_reducible (first | assumption | omega | contradiction) | decide
  all_goals first
   | omega
   | exact hnm
   | (intro h; have h := congrArg ByteArray.size h; rw [dA3] at h; cases h))
def con123 : Con := { ps := [.d false yI], rs := [.d false .bool], pre := fun _ => True, out := fun (x : Int × Unit) => (strN x.1, ()), nw := id }
theorem c123 : CtrOk Tryz.prog 123 con123.ctr :=
 aA0 eA0 eN rfl Tryz.func123 rfl con123 5 (by kernel_rfl) (by decide) (by decide) rfl (by decide) rfl (by
  rintro ⟨(c : Int), _⟩ hpre hwf X hT hG hk hK
  (simp -implicitDefEqProofs (maxSteps := 4000000) only [go_sem, con123, hT, hG, hk, hK, Tryz.results123] at hwf ⊢)
  simp [strN])
def con124 : Con := { ps := [.d false yI], rs := [.d false yI], pre := fun _ => True, out := fun (x : Int × Unit) => ((exN x.1 : Int), ()), nw := id }
theorem c124 : CtrOk Tryz.prog 124 con124.ctr :=
 aA0 eA0 eN rfl Tryz.func124 rfl con124 157 (by kernel_rfl) (by decide) (by decide) rfl (by decide) rfl (by
  rintro ⟨(c : Int), _⟩ hpre hwf X hT hG hk hK
  (simp -implicitDefEqProofs (maxSteps := 4000000) only [go_sem, bP, con124, hT, hG, hk, hK, Tryz.results124] at hwf ⊢)
  unfold exN
  (repeat' with_reducible first | refine And.intro ?_ ?_ | intro _) <;> try first | with_reducible (first | assumption | omega | contradiction) | decide
  all_goals first
   | (rw [if_pos (by omega)]; rfl)
   | (rw [if_neg (by omega), if_pos (by omega)]; rfl)
   | (rw [if_neg (by omega), if_neg (by omega)]; rfl)
   | (exfalso; omega))
def con99 : Con := { ps := [.d true yNO], rs := [.d false .bool], pre := fun (x : Nd × Unit) => (strN x.1.2.1 = true → 1 ≤ x.1.2.2.1 ∧ x.1.2.2.1 ≤ 8 ∧ (x.1.2.1 = 5 → 2 ≤ x.1.2.2.1)) ∧ (strN x.1.2.1 = false → x.1.2.2.1 = 0), out := fun _ => (true, ()), nw := id }
theorem c99 : CtrOk Tryz.prog 99 con99.ctr :=
 aA0 eA0 (eC c123 has123 eN) rfl Tryz.func99 rfl con99 2063 (by kernel_rfl) (by decide) (by decide) rfl (by decide) rfl (by
  rintro ⟨⟨x1, (x2 : Int), (x3 : Int), (x4 : Int), (x5 : List Int)⟩, _⟩ hpre hwf X hT hG hk hK; obtain ⟨h1, h2⟩ : (strN x2 = true → 1 ≤ x3 ∧ x3 ≤ 8 ∧ (x2 = 5 → 2 ≤ x3)) ∧ (strN x2 = false → x3 = 0) := hpre
  (simp -implicitDefEqProofs (maxSteps := 4000000) only [go_sem, bP, con99, con123, hT, hG, hk, hK, Tryz.results99] at hwf ⊢)
  clear hwf
  (repeat' with_reducible first | refine And.intro ?_ ?_ | intro _) <;> try first | with_reducible (first | assumption | omega | contradiction) | decide
  all_goals first
   | (have h := h1 (by assumption); omega)
   | (have h := h2 (by assumption); omega)
   | (cases hs : strN x2 with
      | true => have h := h1 hs; omega
      | false => have h := h2 hs; first | omega | (simp [hs] at *; done)))
theorem cA8 {α : Type} (p : α → Bool) (l : List α) : decide (0 ≤ idxV p l) = l.any p := by
 unfold idxV; by_cases h : l.findIdx p < l.length
 · rw [if_pos h, List.any_eq_true.2 (List.findIdx_lt_length.1 h)]; simp
 · rw [if_neg h]
   cases hb : l.any p with
   | false => rfl
   | true => exact absurd (List.findIdx_lt_length.2 (List.any_eq_true.1 hb)) h
def con137 : Con := { ps := [.d false (.sl yI), .d false yI], rs := [.d false yI], pre := fun _ => True, out := fun (x : List Int × Int × Unit) => (idxV (fun y : Int => decide (x.2.1 = y)) x.1, ()), nw := id }
theorem c137 : CtrOk Tryz.prog 137 con137.ctr :=
 aA0 eA0 eN rfl Tryz.func137 rfl con137 66483 (by kernel_rfl) (by decide) (by decide) rfl (by decide) rfl (by
  rintro ⟨(l : List Int), (v : Int), _⟩ hpre hwf X hT hG hk hK
  (simp -implicitDefEqProofs (maxSteps := 4000000) only [go_sem, bP, con137, hT, hG, hk, hK, Tryz.results137] at hwf ⊢)
  clear hwf; refine fun _ => cA0 ⟨{ i : Nat // i ≤ l.length ∧ ∀ k (h : k < l.length), k < i → decide (v = l[k]) = false }, 1000, fun q => [(0, .one (.sl yI l false)), (1, .one (.int .i64 v)), (7, .one (.int .i64 l.length)), (8, .one (.int .i64 q.1))], fun _ => [], fun q => l.length - q.1⟩ ⟨0, Nat.zero_le _, fun k h hk => by omega⟩ ?_ ?_
  · simp only [go_sem]; rfl
  · rintro ⟨i, (hi : i ≤ l.length), hz⟩
    (simp -implicitDefEqProofs (maxSteps := 4000000) only [go_sem, bP, con137, hT, hG, hk, hK, Tryz.results137])
    refine ⟨fun hlt => ?_, fun hge => ?_⟩
    · have hi' : i < l.length := by omega
      have ek : ∀ z, l.getD (i : Int).toNat z = l[i] := fun z => by simp [hi']
      simp only [ek]
      (repeat' with_reducible first | refine And.intro ?_ ?_ | intro _) <;> try first | with_reducible (first | assumption | omega | contradiction) | decide
      all_goals first
       | (have h : v = l[i] := by assumption
          exact (pA1 (p := fun y : Int => decide (v = y)) hi' (decide_eq_true h) (fun k hk => hz k (by omega) hk)).symm)
       | (have h : ¬ v = l[i] := by assumption
          refine dA0 ⟨i + 1, by omega, fun k hk1 hk => ?_⟩ ?_ (by dsimp only; omega)
          · by_cases e : k = i
            · subst e; exact decide_eq_false h
            · exact hz k hk1 (by omega)
          · simp only [go_sem]
            try rfl
          done)
    · exact (hA1 (p := fun y : Int => decide (v = y)) (fun k hk => hz k hk (by omega))).symm)
def con125 : Con := { ps := [.d false (.sl yI), .d false yI], rs := [.d false .bool], pre := fun _ => True, out := fun (x : List Int × Int × Unit) => (x.1.any (fun y : Int => decide (x.2.1 = y)), ()), nw := id }
theorem c125 : CtrOk Tryz.prog 125 con125.ctr :=
 aA0 eA0 (eC c137 has137 eN) rfl Tryz.func125 rfl con125 19 (by kernel_rfl) (by decide) (by decide) rfl (by decide) rfl (by
  rintro ⟨(l : List Int), (v : Int), _⟩ hpre hwf X hT hG hk hK
  (simp -implicitDefEqProofs (maxSteps := 4000000) only [go_sem, bP, con125, con137, hT, hG, hk, hK, Tryz.results125] at hwf ⊢)
  exact fun _ => cA8 _ l)
def con64 : Con := { ps := [.d true yLY], rs := [.d false yI], pre := fun (x : Ly × Unit) => GoodL x.1, out := fun (x : Ly × Unit) => (totV x.1.1, ()), nw := id }
theorem c64 : CtrOk Tryz.prog 64 con64.ctr :=
 aA0 eA0 eN rfl Tryz.func64 rfl con64 1967 (by kernel_rfl) (by decide) (by decide) rfl (by decide) rfl (by
  rintro ⟨⟨(ns : List Nd), (ds : List Dv)⟩, _⟩ hpre hwf X hT hG hk hK; have hg : GoodL (ns, ds) := hpre
  (simp -implicitDefEqProofs (maxSteps := 4000000) only [go_sem, bP, con64, hT, hG, hk, hK, Tryz.results64] at hwf ⊢)
  clear hwf; have h8 := hg.le8; have hn24 : ns.length ≤ 24 := hg.n24; refine fun _ => cA0 ⟨{ i : Nat // i ≤ ns.length }, 1000, fun i => [(1, .one (.loc 64 0)), (3, .one (.int .i64 (totV (ns.take i.1)))), (7, .one (.sl yNO ns false)), (8, .one (.int .i64 ns.length)), (9, .one (.int .i64 i.1))], fun i => [(64, .cells 30 [.sl yNO ns false, .sl yPL ds false])], fun i => ns.length - i.1⟩ ⟨0, Nat.zero_le _⟩ ?_ ?_
  · simp only [go_sem]
    try first | rfl | (and_intros <;> first | trivial | rfl | omega)
  · rintro ⟨i, (hi : i ≤ ns.length)⟩
    (simp -implicitDefEqProofs (maxSteps := 4000000) only [go_sem, bP, con64, hT, hG, hk, hK, Tryz.results64])
    have hb := zB5 (ns := ns.take i) (fun y hy => h8 y (List.mem_of_mem_take hy)); rw [List.length_take] at hb; refine ⟨fun hlt => ?_, fun hge => ?_⟩
    · have hi' : i < ns.length := by omega
      have ek : ∀ z, ns.getD (i : Int).toNat z = ns[i] := fun z => by simp [hi']
      have hk8 := h8 ns[i] (List.getElem_mem hi'); simp only [ek]; have ht := gB4 hi'
      (repeat' with_reducible first | refine And.intro ?_ ?_ | intro _) <;> try first | with_reducible (first | assumption | omega | contradiction) | decide
      all_goals first
       | omega
       | (refine dA0 ⟨i + 1, by omega⟩ ?_ (by dsimp only; omega)
          simp only [go_sem]; rw [ht]
          try first | rfl | (and_intros <;> first | trivial | rfl | omega)
          done)
    · rw [show i = ns.length by omega, List.take_length])
def con100 : Con := { ps := [.d true yLY, .d false yI], rs := [.d false .bool], pre := fun (x : Ly × Int × Unit) => GoodL x.1 ∧ 0 ≤ x.2.1 ∧ x.2.1 < x.1.1.length, out := fun _ => (true, ()), nw := id }
theorem c100 : CtrOk Tryz.prog 100 con100.ctr :=
 aA0 eA0 (eC c124 has124 (eC c125 has125 eN)) rfl Tryz.func100 rfl con100 576460752367387127 (by kernel_rfl) (by decide) (by decide) rfl (by decide) rfl (by
  rintro ⟨⟨(ns : List Nd), (ds : List Dv)⟩, (i0 : Int), _⟩ hpre hwf X hT hG hk hK; obtain ⟨hg, h1, h2⟩ : GoodL (ns, ds) ∧ 0 ≤ i0 ∧ i0 < ns.length := hpre; obtain ⟨i, rfl⟩ : ∃ i : Nat, i0 = i := ⟨i0.toNat, by omega⟩; have hi : i < ns.length := by omega
  (simp -implicitDefEqProofs (maxSteps := 4000000) only [go_sem, bP, con100, con124, con125, hT, hG, hk, hK, Tryz.results100] at hwf ⊢); (try simp (disch := decide +kernel) only [drawn, true_and, and_true])
  clear hwf; have ek : ∀ z, ns.getD (i : Int).toNat z = ns[i] := fun z => by simp [hi]
  have ha : NdAt ns i ns[i] := hg.at hi; have hn24 := hg.n24; simp only [ek]; generalize ns[i] = x at *; obtain ⟨x1, (x2 : Int), (x3 : Int), (x4 : Int), (x5 : List Int)⟩ := x; obtain ⟨g1, g2, g3, g4, g5, g6, g7, g8, g9, g10, g11, g12⟩ := ha; dsimp only at g1 g2 g3 g4 g5 g6 g7 g8 g9 g10 g12; dsimp only; have hexn : x5.length = exN x2 := g6; have hx2 : x5.length ≤ 2 := by 
   rw [hexn]; unfold exN; split
   · omega
   · split <;> omega
  (repeat' with_reducible first | refine And.intro ?_ ?_ | intro _) <;> try first | with_reducible (first | assumption | omega | contradiction) | decide
  all_goals first
   | (exfalso; omega)
   | skip
  all_goals refine cA0 ⟨{ k : Nat // k ≤ x5.length }, 1000, fun k => [(1, .one (.int .i64 i)), (2, .one (.loc 64 0)), (5, .one (.loc 65 0)), (22, .one (.sl yI x5 false)), (23, .one (.int .i64 x5.length)), (24, .one (.int .i64 k.1))], fun k => [(64, .cells 30 [.sl yNO ns false, .sl yPL ds false]), (65, .cells 56 [.str x1, .int .i64 x2, .int .i64 x3, .int .i64 x4, .sl yI x5 false])], fun k => x5.length - k.1⟩ ⟨0, Nat.zero_le _⟩ ?_ ?_
  all_goals first
   | (simp only [go_sem]
      try first | rfl | (and_intros <;> first | trivial | rfl | omega)
      done)
   | skip
  all_goals
   rintro ⟨k, (hkl : k ≤ x5.length)⟩
   (simp -implicitDefEqProofs (maxSteps := 4000000) only [go_sem, bP, con100, con124, con125, hT, hG, hk, hK, Tryz.results100]); (try simp (disch := decide +kernel) only [drawn, true_and, and_true])
   intro hlt; have hk' : k < x5.length := by omega
   have e5 : ∀ z, x5.getD (k : Int).toNat z = x5[k] := fun z => by simp [hk']
   simp only [e5]; have h7 := g7 k hk'; have hany : (x5.take k).any (fun y : Int => decide (x5[k] = y)) = false := by
    rw [List.any_eq_false]; intro y hy; rw [decide_eq_true_eq]; intro h; subst h; obtain ⟨q, hq, e⟩ := List.getElem_of_mem hy; rw [List.length_take] at hq; rw [List.getElem_take] at e; exact g8 (by omega) (by
     have hq0 : q = 0 := by omega
     have hk1 : k = 1 := by omega
     subst hq0; subst hk1; rw [gdE, gdE, List.getElem?_eq_getElem (by omega), List.getElem?_eq_getElem (by omega)]; exact e)
   have ekk : (k : Int).toNat = k := Int.toNat_natCast k; simp only [ekk, hany]; generalize x5[k] = e at *; have hq : decide (e = (i : Int)) = (decide (x2 = 5) && decide ((k : Int) = 0)) := by
    rw [Bool.eq_iff_iff, Bool.and_eq_true, decide_eq_true_eq, decide_eq_true_eq, decide_eq_true_eq]; omega
   (repeat' with_reducible first | refine And.intro ?_ ?_ | intro _) <;> try first | with_reducible (first | assumption | omega | contradiction) | decide
   all_goals first
    | omega
    | (have h : ((e < 0 ∨ e ≥ (ns.length : Int)) ∨ ¬decide (e = (i : Int)) = (decide (x2 = 5) && decide ((k : Int) = 0))) ∨ false = true := by assumption
       rcases h with (h | h) | h
       · omega
       · exact h hq
       · cases h)
    | (refine dA0 ⟨k + 1, by omega⟩ ?_ (by dsimp only; omega)
       simp only [go_sem]
       try rfl
       done))
def con63 : Con := { ps := [.d true yLY, .d false yI], rs := [.d false yI], pre := fun (x : Ly × Int × Unit) => GoodL x.1 ∧ 0 ≤ x.2.1 ∧ x.2.1 < x.1.1.length, out := fun _ => (0, ()), nw := id }
theorem c63 : CtrOk Tryz.prog 63 con63.ctr :=
 aA0 eA0 (eC c98 has98 (eC c99 has99 (eC c100 has100 eN))) rfl Tryz.func63 rfl con63 33622071 (by kernel_rfl) (by decide) (by decide) rfl (by decide) rfl (by
  rintro ⟨⟨(ns : List Nd), (ds : List Dv)⟩, (i0 : Int), _⟩ hpre hwf X hT hG hk hK; obtain ⟨hg, h1, h2⟩ : GoodL (ns, ds) ∧ 0 ≤ i0 ∧ i0 < ns.length := hpre; obtain ⟨i, rfl⟩ : ∃ i : Nat, i0 = i := ⟨i0.toNat, by omega⟩; have hi : i < ns.length := by omega
  (simp -implicitDefEqProofs (maxSteps := 4000000) only [go_sem, bP, con63, con98, con99, con100, hT, hG, hk, hK, Tryz.results63] at hwf ⊢)
  clear hwf; have ek : ∀ z, ns.getD (i : Int).toNat z = ns[i] := fun z => by simp [hi]
  have ha : NdAt ns i ns[i] := hg.at hi; have hn24 := hg.n24; simp only [ek]; generalize ns[i] = x at *; obtain ⟨x1, (x2 : Int), (x3 : Int), (x4 : Int), (x5 : List Int)⟩ := x; obtain ⟨g1, g2, g3, g4, g5, g6, g7, g8, g9, g10, g11, g12⟩ := ha; dsimp only at g1 g2 g3 g4 g5 g6 g7 g8 g9 g10 g12; dsimp only
  (repeat' with_reducible first | refine And.intro ?_ ?_ | intro _) <;> try first | with_reducible (first | assumption | omega | contradiction) | decide
  all_goals first
   | omega
   | exact g12
   | exact hg
   | (have h := g2 (by assumption); omega)
   | exact g4 (by assumption))
def con66 : Con := { ps := [.d true yLY, .d false yI], rs := [.d false .bool], pre := fun (x : Ly × Int × Unit) => GoodL x.1 ∧ 0 ≤ x.2.1 ∧ x.2.1 < x.1.1.length, out := fun _ => (true, ()), nw := id }
theorem c66 : CtrOk Tryz.prog 66 con66.ctr :=
 aA0 eA0 eN rfl Tryz.func66 rfl con66 4611721219186721271 (by kernel_rfl) (by decide) (by decide) rfl (by decide) rfl (by
  rintro ⟨⟨(ns : List Nd), (ds : List Dv)⟩, (i0 : Int), _⟩ hpre hwf X hT hG hk hK; obtain ⟨hg, h1, h2⟩ : GoodL (ns, ds) ∧ 0 ≤ i0 ∧ i0 < ns.length := hpre; obtain ⟨i, rfl⟩ : ∃ i : Nat, i0 = i := ⟨i0.toNat, by omega⟩; have hi : i < ns.length := by omega
  (simp -implicitDefEqProofs (maxSteps := 4000000) only [go_sem, bP, con66, hT, hG, hk, hK, Tryz.results66] at hwf ⊢)
  clear hwf; have ek : ∀ z, ns.getD (i : Int).toNat z = ns[i] := fun z => by simp [hi]
  have ha : NdAt ns i ns[i] := hg.at hi; have hn24 := hg.n24; simp only [ek]; generalize ns[i] = x at *; obtain ⟨x1, (x2 : Int), (x3 : Int), (x4 : Int), (x5 : List Int)⟩ := x; obtain ⟨g1, g2, g3, g4, g5, g6, g7, g8, g9, g10, g11, g12⟩ := ha; dsimp only at g1 g2 g3 g4 g5 g6 g7 g8 g9 g10 g11 g12; dsimp only; have gx : ∀ (k : Nat) (h : k < x5.length), 0 ≤ x5[k] ∧ x5[k] < ns.length := fun k h => by have := g7 k h; omega
  (repeat' with_reducible first | refine And.intro ?_ ?_ | intro _) <;> try first | with_reducible (first | assumption | omega | contradiction) | decide
  all_goals first
   | (exfalso; omega)
   | skip
  all_goals refine cA0 ⟨{ k : Nat // k ≤ x5.length }, 2000, fun k => [(1, .one (.int .i64 i)), (2, .one (.loc 64 0)), (5, .one (.loc 65 0)), (30, .one (.sl yI x5 false)), (31, .one (.int .i64 x5.length)), (32, .one (.int .i64 k.1))], fun k => [(64, .cells 30 [.sl yNO ns false, .sl yPL ds false]), (65, .cells 56 [.str x1, .int .i64 x2, .int .i64 x3, .int .i64 x4, .sl yI x5 false])], fun k => x5.length - k.1⟩ ⟨0, Nat.zero_le _⟩ ?_ ?_
  all_goals first
   | (simp only [go_sem]
      try first | rfl | (and_intros <;> first | trivial | rfl | omega)
      done)
   | skip
  all_goals
   rintro ⟨k, (hkl : k ≤ x5.length)⟩
   (simp -implicitDefEqProofs (maxSteps := 4000000) only [go_sem, bP, con66, hT, hG, hk, hK, Tryz.results66])
   intro hlt; have hk' : k < x5.length := by omega
   have e5 : ∀ z, x5.getD (k : Int).toNat z = x5[k] := fun z => by simp [hk']
   simp only [e5]; have h7 := gx k hk'; have h11 := g11 k hk'; obtain ⟨y, ey⟩ : ∃ y, ns.getD (x5[k]).toNat nd0 = y := ⟨_, rfl⟩; have ey' : ns.getD (x5[k]).toNat (ByteArray.empty, 0, 0, 0, []) = y := ey; rw [ey] at h11; simp only [ey']; generalize x5[k] = e at *
   (repeat' with_reducible first | refine And.intro ?_ ?_ | intro _) <;> try first | with_reducible (first | assumption | omega | contradiction) | decide
   all_goals first
    | omega
    | (have h12 := h11.2
       rw [if_neg (by omega)] at h12
       omega)
    | (have h12 := h11.2
       rw [if_pos (by omega)] at h12
       omega)
    | (refine dA0 ⟨k + 1, by omega⟩ ?_ (by dsimp only; omega)
       simp only [go_sem]
       try rfl
       done))
structure RawT where
 ctr : Ctr
def isFnA (g : FuncId) : List AV → Bool
 | [_, .one (.fn g' _)] => decide (g' = g)
 | _ => false
def orFn (g : FuncId) (A B : Ctr) : Ctr := fun avs m fr => if isFnA g avs = true then A avs m fr else B avs m fr
theorem qD1 {P : Program} {f : FuncId} {g : FuncId} {A B : Ctr} (hA : CtrOk P f A) (hB : CtrOk P f B) : CtrOk P f (orFn g A B) := by
 intro D gv hD cx hcx σ N m w fr avs vs h1 h2 h3 h4; unfold orFn at h4 ⊢; by_cases h : isFnA g avs = true
 · simp only [if_pos h] at h4 ⊢; exact hA D gv hD cx hcx σ N m w fr avs vs h1 h2 h3 h4
 · simp only [if_neg h] at h4 ⊢; exact hB D gv hD cx hcx σ N m w fr avs vs h1 h2 h3 h4
attribute [go_sem] isFnA orFn
def con126 : Con := { ps := [.d true yNO, .p 9 .str], rs := [.d false .bool], pre := fun _ => True, out := fun (x : Nd × ByteArray × Unit) => (decide (x.1.1 = x.2.1), ()), nw := id }
theorem c126 : CtrOk Tryz.prog 126 con126.ctr :=
 aA0 eA0 eN rfl Tryz.func126 rfl con126 15 (by kernel_rfl) (by decide) (by decide) rfl (by decide) rfl (by
  rintro ⟨⟨x1, (x2 : Int), (x3 : Int), (x4 : Int), (x5 : List Int)⟩, (s : ByteArray), _⟩ hpre hwf X hT hG hk hK
  (simp -implicitDefEqProofs (maxSteps := 4000000) only [go_sem, bP, con126, hT, hG, hk, hK, Tryz.results126] at hwf ⊢))
def con70 : Con := { ps := [.d true yNO], rs := [.d false .bool], pre := fun _ => True, out := fun (x : Nd × Unit) => (decide (x.1.2.1 = 1), ()), nw := id }
theorem c70 : CtrOk Tryz.prog 70 con70.ctr :=
 aA0 eA0 eN rfl Tryz.func70 rfl con70 7 (by kernel_rfl) (by decide) (by decide) rfl (by decide) rfl (by
  rintro ⟨⟨x1, (x2 : Int), (x3 : Int), (x4 : Int), (x5 : List Int)⟩, _⟩ hpre hwf X hT hG hk hK
  (simp -implicitDefEqProofs (maxSteps := 4000000) only [go_sem, bP, con70, hT, hG, hk, hK, Tryz.results70] at hwf ⊢))
def conIxA : Con := { ps := [.d false (.sl yNO), .cl 126 [.p 9 .str]], rs := [.d false yI], pre := fun _ => True, out := fun (x : List Nd × (ByteArray × Unit) × Unit) => (idxV (fun y : Nd => decide (y.1 = x.2.1.1)) x.1, ()), nw := id }
theorem cIxA : CtrOk Tryz.prog 103 conIxA.ctr :=
 aA0 eA0 (eC c126 has126 eN) rfl Tryz.func103 rfl conIxA 66483 (by kernel_rfl) (by decide) (by decide) rfl (by decide) rfl (by
  rintro ⟨(l : List Nd), ⟨(s : ByteArray), _⟩, _⟩ hpre hwf X hT hG hk hK
  (simp -implicitDefEqProofs (maxSteps := 4000000) only [go_sem, bP, conIxA, con126, hT, hG, hk, hK, Tryz.results103] at hwf ⊢)
  clear hwf; refine fun _ => cA0 ⟨{ i : Nat // i ≤ l.length ∧ ∀ k (h : k < l.length), k < i → decide ((l[k]).1 = s) = false }, 1000, fun q => [(0, .one (.sl yNO l false)), (1, .one (.fn 126 [.loc 12 0])), (7, .one (.int .i64 l.length)), (8, .one (.int .i64 q.1))], fun _ => [(12, .cells 9 [.str s])], fun q => l.length - q.1⟩ ⟨0, Nat.zero_le _, fun k h hk => by omega⟩ ?_ ?_
  · simp only [go_sem]; rfl
  · rintro ⟨i, (hi : i ≤ l.length), hz⟩
    (simp -implicitDefEqProofs (maxSteps := 4000000) only [go_sem, bP, conIxA, con126, hT, hG, hk, hK, Tryz.results103])
    refine ⟨fun hlt => ?_, fun hge => ?_⟩
    · have hi' : i < l.length := by omega
      have ek : ∀ z, l.getD (i : Int).toNat z = l[i] := fun z => by simp [hi']
      simp only [ek]
      (repeat' with_reducible first | refine And.intro ?_ ?_ | intro _) <;> try first | with_reducible (first | assumption | omega | contradiction) | decide
      all_goals first
       | (have h : (l[i]).1 = s := by assumption
          exact (pA1 (p := fun y : Nd => decide (y.1 = s)) hi' (decide_eq_true h) (fun k hk => hz k (by omega) hk)).symm)
       | (have h : ¬ (l[i]).1 = s := by assumption
          refine dA0 ⟨i + 1, by omega, fun k hk1 hk => ?_⟩ ?_ (by dsimp only; omega)
          · by_cases e : k = i
            · subst e; exact decide_eq_false h
            · exact hz k hk1 (by omega)
          · simp only [go_sem]
            try rfl
          done)
    · exact (hA1 (p := fun y : Nd => decide (y.1 = s)) (fun k hk => hz k hk (by omega))).symm)
def conIxB : Con := { ps := [.d false (.sl yNO), .cl 70 []], rs := [.d false yI], pre := fun _ => True, out := fun (x : List Nd × Unit × Unit) => (idxV (fun y : Nd => decide (y.2.1 = 1)) x.1, ()), nw := id }
theorem cIxB : CtrOk Tryz.prog 103 conIxB.ctr :=
 aA0 eA0 (eC c70 has70 eN) rfl Tryz.func103 rfl conIxB 66483 (by kernel_rfl) (by decide) (by decide) rfl (by decide) rfl (by
  rintro ⟨(l : List Nd), _⟩ hpre hwf X hT hG hk hK
  (simp -implicitDefEqProofs (maxSteps := 4000000) only [go_sem, bP, conIxB, con70, hT, hG, hk, hK, Tryz.results103] at hwf ⊢)
  clear hwf; refine fun _ => cA0 ⟨{ i : Nat // i ≤ l.length ∧ ∀ k (h : k < l.length), k < i → decide ((l[k]).2.1 = 1) = false }, 1000, fun q => [(0, .one (.sl yNO l false)), (1, .one (.fn 70 [])), (7, .one (.int .i64 l.length)), (8, .one (.int .i64 q.1))], fun _ => [], fun q => l.length - q.1⟩ ⟨0, Nat.zero_le _, fun k h hk => by omega⟩ ?_ ?_
  · simp only [go_sem]; rfl
  · rintro ⟨i, (hi : i ≤ l.length), hz⟩
    (simp -implicitDefEqProofs (maxSteps := 4000000) only [go_sem, bP, conIxB, con70, hT, hG, hk, hK, Tryz.results103])
    refine ⟨fun hlt => ?_, fun hge => ?_⟩
    · have hi' : i < l.length := by omega
      have ek : ∀ z, l.getD (i : Int).toNat z = l[i] := fun z => by simp [hi']
      simp only [ek]
      (repeat' with_reducible first | refine And.intro ?_ ?_ | intro _) <;> try first | with_reducible (first | assumption | omega | contradiction) | decide
      all_goals first
       | (have h : (l[i]).2.1 = 1 := by assumption
          exact (pA1 (p := fun y : Nd => decide (y.2.1 = 1)) hi' (decide_eq_true h) (fun k hk => hz k (by omega) hk)).symm)
       | (have h : ¬ (l[i]).2.1 = 1 := by assumption
          refine dA0 ⟨i + 1, by omega, fun k hk1 hk => ?_⟩ ?_ (by dsimp only; omega)
          · by_cases e : k = i
            · subst e; exact decide_eq_false h
            · exact hz k hk1 (by omega)
          · simp only [go_sem]
            try rfl
          done)
    · exact (hA1 (p := fun y : Nd => decide (y.2.1 = 1)) (fun k hk => hz k hk (by omega))).symm)
def con69 : Con := { ps := [.d false (.sl yNO), .cl 70 []], rs := [.d false .bool], pre := fun _ => True, out := fun (x : List Nd × Unit × Unit) => (x.1.any (fun y : Nd => decide (y.2.1 = 1)), ()), nw := id }
theorem c69 : CtrOk Tryz.prog 69 con69.ctr :=
 aA0 eA0 (eC cIxB has103 eN) rfl Tryz.func69 rfl con69 19 (by kernel_rfl) (by decide) (by decide) rfl (by decide) rfl (by
  rintro ⟨(l : List Nd), _⟩ hpre hwf X hT hG hk hK
  (simp -implicitDefEqProofs (maxSteps := 4000000) only [go_sem, bP, con69, conIxB, hT, hG, hk, hK, Tryz.results69] at hwf ⊢)
  exact fun _ => cA8 _ l)
def con101 : Con := { ps := [.d true yLY, .d false .str], rs := [.d false yI], pre := fun _ => True, out := fun (x : Ly × ByteArray × Unit) => (idxV (fun y : Nd => decide (y.1 = x.2.1)) x.1.1, ()), nw := id }
theorem c101 : CtrOk Tryz.prog 101 con101.ctr :=
 aA0 eA0 (eC cIxA has103 eN) rfl Tryz.func101 rfl con101 31 (by kernel_rfl) (by decide) (by decide) rfl (by decide) rfl (by
  rintro ⟨⟨(ns : List Nd), (ds : List Dv)⟩, (s : ByteArray), _⟩ hpre hwf X hT hG hk hK
  (simp -implicitDefEqProofs (maxSteps := 4000000) only [go_sem, bP, con101, conIxA, hT, hG, hk, hK, Tryz.results101] at hwf ⊢))
def con65 : Con := { ps := [.d true yLY], rs := [.d false .bool], pre := fun (x : Ly × Unit) => GoodL x.1, out := fun _ => (true, ()), nw := id }
theorem c65 : CtrOk Tryz.prog 65 con65.ctr :=
 aA0 eA0 (eC c101 has101 eN) rfl Tryz.func65 rfl con65 263135 (by kernel_rfl) (by decide) (by decide) rfl (by decide) rfl (by
  rintro ⟨⟨(ns : List Nd), (ds : List Dv)⟩, _⟩ hpre hwf X hT hG hk hK; have hg : GoodL (ns, ds) := hpre
  (simp -implicitDefEqProofs (maxSteps := 4000000) only [go_sem, bP, con65, con101, hT, hG, hk, hK, Tryz.results65] at hwf ⊢)
  clear hwf; have hn24 : ns.length ≤ 24 := hg.n24; refine fun _ => cA0 ⟨{ i : Nat // i ≤ ns.length }, 1000, fun i => [(1, .one (.loc 64 0)), (6, .one (.sl yNO ns false)), (7, .one (.int .i64 ns.length)), (8, .one (.int .i64 i.1))], fun i => [(64, .cells 30 [.sl yNO ns false, .sl yPL ds false])], fun i => ns.length - i.1⟩ ⟨0, Nat.zero_le _⟩ ?_ ?_
  · simp only [go_sem]; rfl
  · rintro ⟨i, (hi : i ≤ ns.length)⟩
    (simp -implicitDefEqProofs (maxSteps := 4000000) only [go_sem, bP, con65, con101, hT, hG, hk, hK, Tryz.results65])
    intro hlt; have hi' : i < ns.length := by omega
    have ek : ∀ z, ns.getD (i : Int).toNat z = ns[i] := fun z => by simp [hi']
    have hfd : idxV (fun y : Nd => decide (y.1 = (ns[i]).1)) ns = i := hg.find hi'; simp only [ek, hfd]
    (repeat' with_reducible first | refine And.intro ?_ ?_ | intro _) <;> try first | with_reducible (first | assumption | omega | contradiction) | decide
    all_goals first
     | omega
     | (refine dA0 ⟨i + 1, by omega⟩ ?_ (by dsimp only; omega)
        simp only [go_sem]
        try rfl
        done))
def con127 : Con := { ps := [.d false (.sl yPL), .d true yPL], rs := [.d false yI], pre := fun _ => True, out := fun (x : List Dv × Dv × Unit) => (idxV (fun y : Dv => decide (x.2.1 = y)) x.1, ()), nw := id }
theorem c127 : CtrOk Tryz.prog 127 con127.ctr :=
 aA0 eA0 eN rfl Tryz.func127 rfl con127 66491 (by kernel_rfl) (by decide) (by decide) rfl (by decide) rfl (by
  rintro ⟨(l : List Dv), ⟨(v1 : Int), (v2 : Int), (v3 : Int)⟩, _⟩ hpre hwf X hT hG hk hK
  (simp -implicitDefEqProofs (maxSteps := 4000000) only [go_sem, bP, con127, hT, hG, hk, hK, Tryz.results127] at hwf ⊢); (try simp (disch := decide +kernel) only [drawn, true_and, and_true])
  clear hwf; refine fun _ => cA0 ⟨{ i : Nat // i ≤ l.length ∧ ∀ k (h : k < l.length), k < i → decide ((v1, v2, v3) = l[k]) = false }, 1000, fun q => [(0, .one (.sl yPL l false)), (3, .one (.loc 64 0)), (7, .one (.int .i64 l.length)), (8, .one (.int .i64 q.1))], fun _ => [(64, .cells 111 [.int .i64 v1, .int .i64 v2, .int .i64 v3])], fun q => l.length - q.1⟩ ⟨0, Nat.zero_le _, fun k h hk => by omega⟩ ?_ ?_
  · simp only [go_sem]; rfl
  · rintro ⟨i, (hi : i ≤ l.length), hz⟩
    (simp -implicitDefEqProofs (maxSteps := 4000000) only [go_sem, bP, con127, hT, hG, hk, hK, Tryz.results127]); (try simp (disch := decide +kernel) only [drawn, true_and, and_true])
    refine ⟨fun hlt => ?_, fun hge => ?_⟩
    · have hi' : i < l.length := by omega
      have ek : ∀ z, l.getD (i : Int).toNat z = l[i] := fun z => by simp [hi']
      simp only [ek]
      (repeat' with_reducible first | refine And.intro ?_ ?_ | intro _) <;> try first | with_reducible (first | assumption | omega | contradiction) | decide
      all_goals first
       | omega
       | (have h : (v1, v2, v3) = l[i] := by
           obtain ⟨h1, h2, h3⟩ : v1 = l[i].1 ∧ v2 = l[i].2.1 ∧ v3 = l[i].2.2 := by first | assumption | grind
           exact Prod.ext h1 (Prod.ext h2 h3)
          exact (pA1 (p := fun y : Dv => decide ((v1, v2, v3) = y)) hi' (decide_eq_true h) (fun k hk => hz k (by omega) hk)).symm)
       | (refine dA0 ⟨i + 1, by omega, fun k hk1 hk => ?_⟩ ?_ (by dsimp only; omega)
          · by_cases e : k = i
            · subst e; refine decide_eq_false fun h => ?_; have e1 : v1 = _ := congrArg (fun y : Dv => y.1) h; have e2 : v2 = _ := congrArg (fun y : Dv => y.2.1) h; have e3 : v3 = _ := congrArg (fun y : Dv => y.2.2) h; omega
            · exact hz k hk1 (by omega)
          · simp only [go_sem]
            try rfl
          done)
    · exact (hA1 (p := fun y : Dv => decide ((v1, v2, v3) = y)) (fun k hk => hz k hk (by omega))).symm)
def con102 : Con := { ps := [.d false (.sl yPL), .d true yPL], rs := [.d false .bool], pre := fun _ => True, out := fun (x : List Dv × Dv × Unit) => (x.1.any (fun y : Dv => decide (x.2.1 = y)), ()), nw := id }
theorem c102 : CtrOk Tryz.prog 102 con102.ctr :=
 aA0 eA0 (eC c127 has127 eN) rfl Tryz.func102 rfl con102 27 (by kernel_rfl) (by decide) (by decide) rfl (by decide) rfl (by
  rintro ⟨(l : List Dv), ⟨(v1 : Int), (v2 : Int), (v3 : Int)⟩, _⟩ hpre hwf X hT hG hk hK
  (simp -implicitDefEqProofs (maxSteps := 4000000) only [go_sem, bP, con102, con127, hT, hG, hk, hK, Tryz.results102] at hwf ⊢)
  exact fun _ => cA8 _ l)
def con68 : Con := { ps := [.d true yLY], rs := [.d false yI], pre := fun (x : Ly × Unit) => GoodL x.1, out := fun _ => (0, ()), nw := id }
theorem c68 : CtrOk Tryz.prog 68 con68.ctr :=
 aA0 eA0 (eC c102 has102 eN) rfl Tryz.func68 rfl con68 74057192272488845175 (by kernel_rfl) (by decide) (by decide) rfl (by decide) rfl (by
  rintro ⟨⟨(ns : List Nd), (ds : List Dv)⟩, _⟩ hpre hwf X hT hG hk hK; have hg : GoodL (ns, ds) := hpre
  (simp -implicitDefEqProofs (maxSteps := 4000000) only [go_sem, bP, con68, con102, hT, hG, hk, hK, Tryz.results68] at hwf ⊢); (try simp (disch := decide +kernel) only [drawn, true_and, and_true])
  clear hwf; have hn24 : ns.length ≤ 24 := hg.n24; have hd := hg.dv; have hd24 : ds.length ≤ 24 := hd.len; refine fun _ => cA0 ⟨{ i : Nat // i ≤ ds.length }, 1000, fun i => [(1, .one (.loc 64 0)), (8, .one (.sl yPL ds false)), (9, .one (.int .i64 ds.length)), (10, .one (.int .i64 i.1))], fun i => [(64, .cells 30 [.sl yNO ns false, .sl yPL ds false])], fun i => ds.length - i.1⟩ ⟨0, Nat.zero_le _⟩ ?_ ?_
  · simp only [go_sem]; rfl
  · rintro ⟨i, (hi : i ≤ ds.length)⟩
    (simp -implicitDefEqProofs (maxSteps := 4000000) only [go_sem, bP, con68, con102, hT, hG, hk, hK, Tryz.results68]); (try simp (disch := decide +kernel) only [drawn, true_and, and_true])
    refine ⟨fun hlt => ?_, fun hge => ?_⟩
    · have hi' : i < ds.length := by omega
      have ek : ∀ z, ds.getD (i : Int).toNat z = ds[i] := fun z => by simp [hi']
      have hdi := hd.ok ds[i] (List.getElem_mem hi'); simp only [ek]; obtain ⟨y, ey⟩ : ∃ y, ns.getD (ds[i].2.1).toNat nd0 = y := ⟨_, rfl⟩; have ey' : ns.getD (ds[i].2.1).toNat (ByteArray.empty, 0, 0, 0, []) = y := ey; dsimp only at hdi; rw [ey] at hdi; simp only [ey']
      (repeat' with_reducible first | refine And.intro ?_ ?_ | intro _) <;> try first | with_reducible (first | assumption | omega | contradiction) | decide
      all_goals first
       | omega
       | (refine dA0 ⟨i + 1, by omega⟩ ?_ (by dsimp only; omega)
          simp only [go_sem]
          try rfl
          done)
    · refine fun _ => cA0 ⟨{ i : Nat // i ≤ ds.length }, 1000, fun i => [(1, .one (.loc 64 0)), (54, .one (.sl yPL ds false)), (55, .one (.int .i64 ds.length)), (56, .one (.int .i64 i.1))], fun i => [(64, .cells 30 [.sl yNO ns false, .sl yPL ds false])], fun i => ds.length - i.1⟩ ⟨0, Nat.zero_le _⟩ ?_ ?_
      · simp only [go_sem]; rfl
      · rintro ⟨i, (hi : i ≤ ds.length)⟩
        (simp -implicitDefEqProofs (maxSteps := 4000000) only [go_sem, bP, con68, con102, hT, hG, hk, hK, Tryz.results68]); (try simp (disch := decide +kernel) only [drawn, true_and, and_true])
        intro hlt; have hi' : i < ds.length := by omega
        have ek : ∀ z, ds.getD (i : Int).toNat z = ds[i] := fun z => by simp [hi']
        have hany : (ds.take i).any (fun y : Dv => decide (ds[i] = y)) = false := by
         rw [List.any_eq_false]; intro y hy; rw [decide_eq_true_eq]; intro h; subst h; obtain ⟨q, hq, e⟩ := List.getElem_of_mem hy; rw [List.length_take] at hq; rw [List.getElem_take] at e; have := (List.getElem_inj hd.nd).1 e; omega
        have ekk : (i : Int).toNat = i := Int.toNat_natCast i; simp only [ekk]; simp only [ekk] at ek; simp only [ek]; simp only [hany]
        (repeat' with_reducible first | refine And.intro ?_ ?_ | intro _) <;> try first | with_reducible (first | assumption | omega | contradiction) | decide
        all_goals first
         | omega
         | (refine dA0 ⟨i + 1, by omega⟩ ?_ (by dsimp only; omega)
            simp only [go_sem]
            try rfl
            done))
def fwE (i : Int) (es : List Int) : List Int := es.filter (fun x => decide (x ≠ i))
def edg : Nat → List Nd → List Int
 | _, [] => []
 | i, x :: xs => fwE i x.2.2.2.2 ++ edg (i + 1) xs
theorem uC3 : ∀ (a b : List Nd) (i : Nat), edg i (a ++ b) = edg i a ++ edg (i + a.length) b
 | [], b, i => by simp [edg]
 | x :: a, b, i => by
   simp only [List.cons_append, edg, uC3 a b (i + 1), List.append_assoc, List.length_cons]; rw [show i + 1 + a.length = i + (a.length + 1) by omega]
theorem aC6 {ns : List Nd} {i : Nat} (h : i < ns.length) : edg 0 (ns.take (i + 1)) = edg 0 (ns.take i) ++ fwE i ns[i].2.2.2.2 := by
 rw [tsE h, uC3, List.length_take]; simp only [edg, List.append_nil]; rw [show 0 + min i ns.length = i by omega]
theorem tB7 {ns : List Nd} {i : Nat} (h : i < ns.length) : edg i (ns.drop i) = fwE i ns[i].2.2.2.2 ++ edg (i + 1) (ns.drop (i + 1)) := by
 rw [List.drop_eq_getElem_cons h]; rfl
theorem nB6 (i : Int) (es : List Int) : (fwE i es).length ≤ es.length := List.length_filter_le _ _
theorem fC8 {i : Int} {es : List Int} {q : Nat} (h : q < es.length) : fwE i (es.take (q + 1)) = fwE i (es.take q) ++ (if es[q] ≠ i then [es[q]] else []) := by
 unfold fwE; rw [tsE h, List.filter_append]; by_cases e : es[q] = i
 · rw [List.filter_cons_of_neg (by simp [e]), if_neg (by simp [e])]; rfl
 · rw [List.filter_cons_of_pos (by simp [e]), if_pos e]; rfl
theorem oC7 {i : Int} {es : List Int} {q : Nat} (h : q < es.length) : fwE i (es.drop q) = (if es[q] ≠ i then [es[q]] else []) ++ fwE i (es.drop (q + 1)) := by
 unfold fwE; rw [List.drop_eq_getElem_cons h]; by_cases e : es[q] = i
 · rw [List.filter_cons_of_neg (by simp [e]), if_neg (by simp [e])]; rfl
 · rw [List.filter_cons_of_pos (by simp [e]), if_pos e]; rfl
theorem eB1 : ∀ (ns : List Nd) (i : Nat), (∀ y ∈ ns, y.2.2.2.2.length ≤ 2) → (edg i ns).length ≤ 2 * ns.length
 | [], i, _ => by simp [edg]
 | x :: xs, i, h => by
   have h1 := eB1 xs (i + 1) fun y hy => h y (List.mem_cons_of_mem _ hy); have h2 := h x List.mem_cons_self; have h3 := nB6 i x.2.2.2.2; simp only [edg, List.length_append, List.length_cons]; omega
def mgI (Z : List (Int × Int)) (k : Int) : Int := (mget (kt := .int .i64) Z k).getD 0
def MapC (Z : List (Int × Int)) (L : List Int) : Prop := ∀ k, mgI Z k = (L.count k : Nat)
theorem zA8 (k k' v : Int) : ∀ Z : List (Int × Int), mgI (mset (kt := .int .i64) Z k v) k' = if k' = k then v else mgI Z k'
 | [] => by
   show (if decide (k' = k) then some v else none : Option Int).getD 0 = _
   by_cases h : k' = k <;> simp [h, mgI, mget]
 | (a, u) :: r => by
   have ih := zA8 k k' v r; unfold mgI at ih ⊢; show (mget (kt := .int .i64) (if decide (k = a) then (k, v) :: r else (a, u) :: mset (kt := .int .i64) r k v) k').getD 0 = _; by_cases h : k = a
   · subst h; rw [if_pos (by simp)]; show (if decide (k' = k) then some v else mget (kt := .int .i64) r k' : Option Int).getD 0 = if k' = k then v else (if decide (k' = k) then some u else mget (kt := .int .i64) r k' : Option Int).getD 0
     by_cases h : k' = k <;> simp [h]
   · rw [if_neg (by simp [h])]; show (if decide (k' = a) then some u else mget (kt := .int .i64) (mset (kt := .int .i64) r k v) k' : Option Int).getD 0 = if k' = k then v else (if decide (k' = a) then some u else mget (kt := .int .i64) r k' : Option Int).getD 0
     by_cases e : k' = a
     · subst e; rw [if_pos (by simp), if_neg (fun q => h q.symm), if_pos (by simp)]
     · simp only [decide_eq_true_eq]; rw [if_neg e, if_neg e]; exact ih
theorem MapC.nil : MapC [] [] := fun k => rfl
theorem MapC.add {Z L} (h : MapC Z L) (k : Int) {v : Int} (hv : v = mgI Z k + 1) : MapC (mset (kt := .int .i64) Z k v) (L ++ [k]) := by
 intro k'; rw [zA8, List.count_append, List.count_singleton]; subst hv; rw [h, h]; by_cases e : k' = k
 · subst e; simp
 · rw [if_neg e, if_neg (by simpa using fun q => e q.symm)]; omega
theorem MapC.sub {Z L} {k : Int} (h : MapC Z (k :: L)) {v : Int} (hv : v = mgI Z k - 1) : MapC (mset (kt := .int .i64) Z k v) L := by
 intro k'; rw [zA8]; subst hv; rw [h, h, List.count_cons_self]; by_cases e : k' = k
 · subst e; rw [if_pos rfl]; omega
 · rw [if_neg e, List.count_cons_of_ne (fun q => e q.symm)]
theorem MapC.le {Z L} (h : MapC Z L) (k : Int) : 0 ≤ mgI Z k ∧ mgI Z k ≤ L.length := by
 have := List.count_le_length (a := k) (l := L); rw [h]; omega
theorem GoodL.two {l : Ly} (h : GoodL l) : ∀ y ∈ l.1, y.2.2.2.2.length ≤ 2 := by
 intro y hy; obtain ⟨i, hi, rfl⟩ := List.getElem_of_mem hy; have g := (h.at hi).ex; rw [g]; unfold exN; split
 · omega
 · split <;> omega
theorem GoodL.noback {l : Ly} (h : GoodL l) : ∀ (d m : Nat), m + d = l.1.length → ∀ k : Nat, k ≤ m → (edg m (l.1.drop m)).count (k : Int) = 0
 | 0, m, hm, k, hk => by rw [List.drop_eq_nil_of_le (by omega)]; rfl
 | d + 1, m, hm, k, hk => by
   have hm' : m < l.1.length := by omega
   rw [tB7 hm', List.count_append, GoodL.noback h d (m + 1) (by omega) k (by omega), Nat.add_zero]; rw [List.count_eq_zero]; intro hc; unfold fwE at hc; rw [List.mem_filter, decide_eq_true_eq] at hc; obtain ⟨q, hq, e⟩ := List.getElem_of_mem hc.1; have := (h.at hm').fw q hq; rw [e] at this; have := hc.2; omega
def dnL (m n : Nat) : List Bool := List.replicate m true ++ List.replicate (n - m) false
theorem qD6 (n : Nat) : dnL 0 n = List.replicate n false := rfl
theorem sD1 {m n : Nat} (h : m ≤ n) : (dnL m n).length = n := by
 unfold dnL; rw [List.length_append, List.length_replicate, List.length_replicate]; omega
theorem xD2 {m n i : Nat} (h : i < n) (hm : m ≤ n) (z : Bool) : (dnL m n).getD i z = decide (i < m) := by
 have hl : i < (List.replicate m true ++ List.replicate (n - m) false).length := by rw [List.length_append, List.length_replicate, List.length_replicate]; omega
 unfold dnL; rw [gdE, List.getElem?_eq_getElem hl, Option.getD_some, List.getElem_append]; by_cases e : i < m
 · rw [dif_pos (by rw [List.length_replicate]; exact e), List.getElem_replicate]; simp [e]
 · rw [dif_neg (by rw [List.length_replicate]; exact e), List.getElem_replicate]; simp [e]
theorem gD3 {m n : Nat} (h : m < n) : (dnL m n).set m true = dnL (m + 1) n := by
 unfold dnL; rw [List.set_append_right _ _ (by rw [List.length_replicate]; omega), List.length_replicate, Nat.sub_self]; rw [show n - m = (n - (m + 1)) + 1 by omega, List.replicate_succ, List.set_cons_zero, List.replicate_succ']; simp
def con67 : Con := { ps := [.d true yLY], rs := [.o 3 yI], pre := fun (x : Ly × Unit) => GoodL x.1, out := fun (x : Ly × Unit) => (upL 0 x.1.1.length, ()), nw := id }
theorem c67 : CtrOk Tryz.prog 67 con67.ctr :=
 aA0 eA0 eN rfl Tryz.func67 rfl con67 655238107833905860253265855 (by kernel_rfl) (by decide) (by decide) rfl (by decide) rfl (by
  rintro ⟨⟨(ns : List Nd), (ds : List Dv)⟩, _⟩ hpre hwf X hT hG hk hK; have hg : GoodL (ns, ds) := hpre
  (simp -implicitDefEqProofs (maxSteps := 4000000) only [go_sem, bP, con67, hT, hG, hk, hK, Tryz.results67] at hwf ⊢)
  clear hwf; have hn24 : ns.length ≤ 24 := hg.n24; have h2 := hg.two; refine fun _ => cA0 ⟨{ q : Nat × List (Int × Int) // q.1 ≤ ns.length ∧ MapC q.2 (edg 0 (ns.take q.1)) }, 1000, fun q => [(1, .one (.loc 64 0)), (3, .one (.map 65)), (16, .one (.sl yNO ns false)), (17, .one (.int .i64 ns.length)), (18, .one (.int .i64 q.1.1))], fun q => [(64, .cells 30 [.sl yNO ns false, .sl yPL ds false]), (65, .mapb yI yI false false q.1.2)], fun q => ns.length - q.1.1⟩ ⟨(0, []), Nat.zero_le _, MapC.nil⟩ ?_ ?_
  · simp only [go_sem]; rfl
  · rintro ⟨⟨i, Z⟩, (hi : i ≤ ns.length), (hZ : MapC Z (edg 0 (ns.take i)))⟩
    (simp -implicitDefEqProofs (maxSteps := 4000000) only [go_sem, bP, con67, hT, hG, hk, hK, Tryz.results67])
    refine ⟨fun hlt => ?_, fun hge => ?_⟩
    · have hi' : i < ns.length := by omega
      have ek : ∀ z, ns.getD (i : Int).toNat z = ns[i] := fun z => by simp [hi']
      have hx2 := h2 ns[i] (List.getElem_mem hi'); have hle := eB1 (ns.take i) 0 fun y hy => h2 y (List.mem_of_mem_take hy); have het := aC6 hi'; rw [List.length_take] at hle; simp only [ek]; generalize ns[i] = x at *; obtain ⟨x1, (x2 : Int), (x3 : Int), (x4 : Int), (x5 : List Int)⟩ := x; dsimp only at hx2 het ⊢
      (repeat' with_reducible first | refine And.intro ?_ ?_ | intro _) <;> try first | with_reducible (first | assumption | omega | contradiction) | decide
      refine cA0 ⟨{ q : Nat × List (Int × Int) // q.1 ≤ x5.length ∧ MapC q.2 (edg 0 (ns.take i) ++ fwE i (x5.take q.1)) }, 2000, fun q => [(1, .one (.loc 64 0)), (3, .one (.map 65)), (4, .one (.int .i64 i)), (16, .one (.sl yNO ns false)), (17, .one (.int .i64 ns.length)), (18, .one (.int .i64 i)), (24, .one (.sl yI x5 false)), (25, .one (.int .i64 x5.length)), (26, .one (.int .i64 q.1.1))], fun q => [(64, .cells 30 [.sl yNO ns false, .sl yPL ds false]), (65, .mapb yI yI false false q.1.2)], fun q => x5.length - q.1.1⟩ ⟨(0, Z), Nat.zero_le _, by simpa [fwE] using hZ⟩ ?_ ?_
      · simp only [go_sem]; rfl
      · rintro ⟨⟨k, Z⟩, (hkl : k ≤ x5.length), (hZ : MapC Z (edg 0 (ns.take i) ++ fwE i (x5.take k)))⟩
        (simp -implicitDefEqProofs (maxSteps := 4000000) only [go_sem, bP, con67, hT, hG, hk, hK, Tryz.results67])
        refine ⟨fun hlt => ?_, fun hge => ?_⟩
        · have hk' : k < x5.length := by omega
          have e5 : ∀ z, x5.getD (k : Int).toNat z = x5[k] := fun z => by simp [hk']
          have hft := fC8 (i := (i : Int)) hk'; have hfl := nB6 i (x5.take k); rw [List.length_take] at hfl; have hml := hZ.le x5[k]; rw [List.length_append] at hml; simp only [e5]; have emg : ∀ (Z : List (Int × Int)) k, (mget (kt := .int .i64) Z k).getD 0 = mgI Z k := fun _ _ => rfl; simp only [emg]; generalize x5[k] = e at *
          (repeat' with_reducible first | refine And.intro ?_ ?_ | intro _) <;> try first | with_reducible (first | assumption | omega | contradiction) | decide
          all_goals first
           | omega
           | (have h : ¬ e = (i : Int) := by assumption
              rw [if_pos h] at hft; refine dA0 ⟨(k + 1, mset (kt := .int .i64) Z e (mgI Z e + 1)), by dsimp only; omega, by dsimp only; rw [hft, ← List.append_assoc]; exact hZ.add e rfl⟩ ?_ (by dsimp only; omega); simp only [go_sem]
              try rfl
              done)
           | (have h : e = (i : Int) := by omega
              rw [if_neg (fun q => q h), List.append_nil] at hft; refine dA0 ⟨(k + 1, Z), by dsimp only; omega, by dsimp only; rw [hft]; exact hZ⟩ ?_ (by dsimp only; omega); simp only [go_sem]
              try rfl
              done)
        · have : k = x5.length := by omega
          subst this; rw [List.take_length, ← het] at hZ
          (repeat' with_reducible first | refine And.intro ?_ ?_ | intro _) <;> try first | with_reducible (first | assumption | omega | contradiction) | decide
          all_goals first
           | omega
           | (refine dA0 ⟨(i + 1, Z), by dsimp only; omega, hZ⟩ ?_ (by dsimp only; omega)
              simp only [go_sem]
              try rfl
              done)
    · have : i = ns.length := by omega
      subst this; rw [List.take_length] at hZ; have hul := qA4; refine fun _ => ⟨⟨by omega, by omega, by omega⟩, fun _ => ?_⟩; refine cA0 ⟨{ q : Nat × List (Int × Int) // q.1 ≤ ns.length ∧ MapC q.2 (edg q.1 (ns.drop q.1)) }, 3000, fun q => [(1, .one (.loc 64 0)), (3, .one (.map 65)), (8, .one (.row 66)), (9, .one (.row 67)), (45, .one (.int .i64 ns.length)), (46, .one (.int .i64 q.1.1))], fun q => [(64, .cells 30 [.sl yNO ns false, .sl yPL ds false]), (65, .mapb yI yI false false q.1.2), (66, .row 3 yI (upL 0 q.1.1)), (67, .row 4 .bool (dnL q.1.1 ns.length))], fun q => ns.length - q.1.1⟩ ⟨(0, Z), Nat.zero_le _, by simpa using hZ⟩ ?_ ?_
      · simp only [go_sem]; simp only [upL, List.range_zero, List.map_nil, qD6]
        try first | rfl | (and_intros <;> first | trivial | rfl | omega)
      · rintro ⟨⟨m, Z⟩, (hm : m ≤ ns.length), (hZ : MapC Z (edg m (ns.drop m)))⟩
        (simp -implicitDefEqProofs (maxSteps := 4000000) only [go_sem, bP, con67, hT, hG, hk, hK, Tryz.results67])
        have hul := qA4 0 m; have hdl := sD1 (n := ns.length) hm; refine ⟨fun hlt => ?_, fun hge => ?_⟩
        · have hm' : m < ns.length := by omega
          intro _; refine cA0 ⟨{ i : Nat // i ≤ m }, 4000, fun i => [(1, .one (.loc 64 0)), (3, .one (.map 65)), (8, .one (.row 66)), (9, .one (.row 67)), (10, .one (.int .i64 (-1))), (45, .one (.int .i64 ns.length)), (46, .one (.int .i64 m)), (50, .one (.int .i64 ns.length)), (51, .one (.int .i64 i.1))], fun q => [(64, .cells 30 [.sl yNO ns false, .sl yPL ds false]), (65, .mapb yI yI false false Z), (66, .row 3 yI (upL 0 m)), (67, .row 4 .bool (dnL m ns.length))], fun i => m - i.1⟩ ⟨0, Nat.zero_le _⟩ ?_ ?_
          · simp only [go_sem]; rfl
          · rintro ⟨i, (hi : i ≤ m)⟩
            (simp -implicitDefEqProofs (maxSteps := 4000000) only [go_sem, bP, con67, hT, hG, hk, hK, Tryz.results67])
            have emg : ∀ (Z : List (Int × Int)) k, (mget (kt := .int .i64) Z k).getD 0 = mgI Z k := fun _ _ => rfl; simp only [emg]; have hnb : mgI Z m = 0 := by
             rw [hZ, hg.noback (ns.length - m) m (by dsimp only; omega) m (Nat.le_refl _)]; rfl
            have hmi := hZ.le i; have hel := eB1 (ns.drop m) m fun y hy => h2 y (List.mem_of_mem_drop hy); rw [List.length_drop] at hel; have edn : ∀ z, (dnL m ns.length).getD (i : Int).toNat z = decide (i < m) := fun z => by
             rw [Int.toNat_natCast]; exact xD2 (by omega) hm z
            simp only [edn]
            rcases Nat.lt_or_eq_of_le hi with him | him
            · have ed : decide (i < m) = true := decide_eq_true him; simp only [ed, Bool.not_true, Bool.false_and]
              (repeat' with_reducible first | refine And.intro ?_ ?_ | intro _) <;> try first | with_reducible (first | assumption | omega | contradiction) | decide
              all_goals first
               | omega
               | (exfalso; have h : true = false ∧ mgI Z (i : Int) = 0 := by assumption
                  cases h.1)
               | (refine dA0 ⟨i + 1, by omega⟩ ?_ (by dsimp only; omega)
                  simp only [go_sem]
                  try rfl
                  done)
            · subst him; have ed : decide (i < i) = false := decide_eq_false (Nat.lt_irrefl i); have ek : ∀ z, ns.getD (i : Int).toNat z = ns[i] := fun z => by simp [hm']
              have hx2 := h2 ns[i] (List.getElem_mem hm'); have het := tB7 hm'; have hset : (dnL i ns.length).set (i : Int).toNat true = dnL (i + 1) ns.length := by rw [Int.toNat_natCast]; exact gD3 hm'
              simp only [ed, hnb, ek, hset]; generalize ns[i] = x at *; obtain ⟨x1, (x2 : Int), (x3 : Int), (x4 : Int), (x5 : List Int)⟩ := x; dsimp only at hx2 het ⊢
              (repeat' with_reducible first | refine And.intro ?_ ?_ | intro _) <;> try first | with_reducible (first | assumption | omega | contradiction) | decide
              all_goals first
               | omega
               | (rw [hdl]; omega)
               | skip
              all_goals refine cA0 ⟨{ q : Nat × List (Int × Int) // q.1 ≤ x5.length ∧ MapC q.2 (fwE i (x5.drop q.1) ++ edg (i + 1) (ns.drop (i + 1))) }, 6000, fun q => [(1, .one (.loc 64 0)), (3, .one (.map 65)), (8, .one (.row 66)), (9, .one (.row 67)), (10, .one (.int .i64 i)), (45, .one (.int .i64 ns.length)), (46, .one (.int .i64 i)), (81, .one (.sl yI x5 false)), (82, .one (.int .i64 x5.length)), (83, .one (.int .i64 q.1.1))], fun q => [(64, .cells 30 [.sl yNO ns false, .sl yPL ds false]), (65, .mapb yI yI false false q.1.2), (66, .row 3 yI (upL 0 (i + 1))), (67, .row 4 .bool (dnL (i + 1) ns.length))], fun q => x5.length - q.1.1⟩ ⟨(0, Z), Nat.zero_le _, by show MapC Z (fwE i (x5.drop 0) ++ _); rw [List.drop_zero, ← het]; exact hZ⟩ ?_ ?_
              all_goals first
               | (simp only [go_sem]
                  rw [fA7, Int.zero_add]
                  try first | rfl | (and_intros <;> first | trivial | rfl | omega)
                  done)
               | skip
              all_goals
               rintro ⟨⟨k, Z⟩, (hkl : k ≤ x5.length), (hZ : MapC Z (fwE i (x5.drop k) ++ edg (i + 1) (ns.drop (i + 1))))⟩
               (simp -implicitDefEqProofs (maxSteps := 4000000) only [go_sem, bP, con67, hT, hG, hk, hK, Tryz.results67])
               refine ⟨fun hlt => ?_, fun hge => ?_⟩
               · have hk' : k < x5.length := by omega
                 have e5 : ∀ z, x5.getD (k : Int).toNat z = x5[k] := fun z => by simp [hk']
                 have hft := oC7 (i := (i : Int)) hk'; have hfl := nB6 i (x5.drop k); rw [List.length_drop] at hfl; have hml := hZ.le x5[k]; have hel2 := eB1 (ns.drop (i + 1)) (i + 1) fun y hy => h2 y (List.mem_of_mem_drop hy); rw [List.length_drop] at hel2; rw [List.length_append] at hml; simp only [e5]; have emg : ∀ (Z : List (Int × Int)) k, (mget (kt := .int .i64) Z k).getD 0 = mgI Z k := fun _ _ => rfl; simp only [emg]; generalize x5[k] = e at *
                 (repeat' with_reducible first | refine And.intro ?_ ?_ | intro _) <;> try first | with_reducible (first | assumption | omega | contradiction) | decide
                 all_goals first
                  | omega
                  | (have h : ¬ e = (i : Int) := by assumption
                     rw [if_pos h] at hft; rw [hft] at hZ; refine dA0 ⟨(k + 1, mset (kt := .int .i64) Z e (mgI Z e - 1)), by dsimp only; omega, by dsimp only; exact MapC.sub hZ rfl⟩ ?_ (by dsimp only; omega); simp only [go_sem]
                     try rfl
                     done)
                  | (have h : e = (i : Int) := by omega
                     rw [if_neg (fun q => q h), List.nil_append] at hft; rw [hft] at hZ; refine dA0 ⟨(k + 1, Z), by dsimp only; omega, by dsimp only; exact hZ⟩ ?_ (by dsimp only; omega); simp only [go_sem]
                     try rfl
                     done)
               · have : k = x5.length := by omega
                 subst this; rw [List.drop_length] at hZ; have hZ : MapC Z (edg (i + 1) (ns.drop (i + 1))) := hZ
                 (repeat' with_reducible first | refine And.intro ?_ ?_ | intro _) <;> try first | with_reducible (first | assumption | omega | contradiction) | decide
                 all_goals first
                  | omega
                  | (refine dA0 ⟨(i + 1, Z), by dsimp only; omega, hZ⟩ ?_ (by dsimp only; omega)
                     simp only [go_sem]
                     try rfl
                     done)
        · have : m = ns.length := by omega
          subst this; rfl)
def con39 : Con := { ps := [.d true yLY], rs := [.d false yI], pre := fun (x : Ly × Unit) => GoodL x.1, out := fun _ => (0, ()), nw := id }
theorem c39 : CtrOk Tryz.prog 39 con39.ctr :=
 aA0 eA0 (eC c63 has63 (eC c64 has64 (eC c65 has65 (eC c66 has66 (eC c67 has67 (eC c68 has68 (eC c69 has69 (eC c70 has70 eN)))))))) rfl Tryz.func39 rfl con39 19059382075493253247 (by kernel_rfl) (by decide) (by decide) rfl (by decide) rfl (by
  rintro ⟨⟨(ns : List Nd), (ds : List Dv)⟩, _⟩ hpre hwf X hT hG hk hK; have hg : GoodL (ns, ds) := hpre
  (simp -implicitDefEqProofs (maxSteps := 4000000) only [go_sem, bP, con39, con63, con64, con65, con66, con67, con68, con69, con70, hT, hG, hk, hK, Tryz.results39] at hwf ⊢); (try simp (disch := decide +kernel) only [drawn, true_and, and_true])
  clear hwf; have hn1 : 1 ≤ ns.length := hg.n1; have hn24 : ns.length ≤ 24 := hg.n24; have hd := hg.dv; have hd24 : ds.length ≤ 24 := hd.len; have htot : totV ns ≤ 80 := hg.tot; have hul := qA4 0 ns.length; have hany : ns.any (fun y : Nd => decide (y.2.1 = 1)) = true := by
   rw [List.any_eq_true]; have := hg.en; dsimp only at this; rw [hA6 (by omega)] at this; exact ⟨ns[0], List.getElem_mem _, decide_eq_true this⟩
  (repeat' with_reducible first | refine And.intro ?_ ?_ | intro _) <;> try first | with_reducible (first | assumption | omega | contradiction) | decide
  all_goals first
   | omega
   | skip
  all_goals refine cA0 ⟨{ i : Nat // i ≤ ns.length }, 1000, fun i => [(1, .one (.loc 64 0)), (19, .one (.int .i64 ns.length)), (20, .one (.int .i64 i.1))], fun i => [(64, .cells 30 [.sl yNO ns false, .sl yPL ds false])], fun i => ns.length - i.1⟩ ⟨0, Nat.zero_le _⟩ ?_ ?_
  all_goals first
   | (simp only [go_sem]
      try first | rfl | (and_intros <;> first | trivial | rfl | omega)
      done)
   | skip
  all_goals
   rintro ⟨i, (hi : i ≤ ns.length)⟩
   (simp -implicitDefEqProofs (maxSteps := 4000000) only [go_sem, bP, con39, con63, con64, con65, con66, con67, con68, con69, con70, hT, hG, hk, hK, Tryz.results39]); (try simp (disch := decide +kernel) only [drawn, true_and, and_true])
   refine ⟨fun hlt => ?_, fun hge => ?_⟩
   · refine ⟨⟨hg, by omega, hlt⟩, ?_⟩
     (repeat' with_reducible first | refine And.intro ?_ ?_ | intro _) <;> try first | with_reducible (first | assumption | omega | contradiction) | decide
     all_goals first
      | omega
      | (refine dA0 ⟨i + 1, by omega⟩ ?_ (by dsimp only; omega)
         simp only [go_sem]
         try rfl
         done)
   · refine ⟨hg, fun _ => ⟨fun h => by omega, fun _ => ⟨hg, fun h => h.elim, fun _ => ?_⟩⟩⟩; refine cA0 ⟨{ i : Nat // i ≤ ns.length }, 2000, fun i => [(1, .one (.loc 64 0)), (40, .one (.int .i64 ns.length)), (41, .one (.int .i64 i.1))], fun i => [(64, .cells 30 [.sl yNO ns false, .sl yPL ds false])], fun i => ns.length - i.1⟩ ⟨0, Nat.zero_le _⟩ ?_ ?_
     · simp only [go_sem]; rfl
     · rintro ⟨i, (hi : i ≤ ns.length)⟩
       (simp -implicitDefEqProofs (maxSteps := 4000000) only [go_sem, bP, con39, con63, con64, con65, con66, con67, con68, con69, con70, hT, hG, hk, hK, Tryz.results39]); (try simp (disch := decide +kernel) only [drawn, true_and, and_true])
       refine ⟨fun hlt => ?_, fun hge => ?_⟩
       · refine ⟨⟨hg, by omega, hlt⟩, ?_⟩
         (repeat' with_reducible first | refine And.intro ?_ ?_ | intro _) <;> try first | with_reducible (first | assumption | omega | contradiction) | decide
         all_goals first
          | omega
          | (refine dA0 ⟨i + 1, by omega⟩ ?_ (by dsimp only; omega)
             simp only [go_sem]
             try rfl
             done)
       · simp only [hul, hany]
         (repeat' with_reducible first | refine And.intro ?_ ?_ | intro _) <;> try first | with_reducible (first | assumption | omega | contradiction) | decide
         all_goals first
          | omega
          | exact hg)
end Go.Proofs.YtabadacjbkhmkaaGreatDoor
