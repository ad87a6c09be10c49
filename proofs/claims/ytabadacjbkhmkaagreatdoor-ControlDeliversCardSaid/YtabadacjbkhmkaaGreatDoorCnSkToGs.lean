/- Part. -/
import Derived.Test.YtabadacjbkhmkaaGreatDoorCnAcToSi
import Derived.Test.YtabadacjbkhmkaaGreatDoorCnAaToAb
import Derived.Test.YtabadacjbkhmkaaGreatDoorCnTab
import Derived.WalkKit
import Derived.ProofKit
set_option linter.all false
set_option maxRecDepth 100000
set_option maxHeartbeats 8000000
namespace Go.Proofs.YtabadacjbkhmkaaGreatDoor
open Go.Ev
def con56 : Con := { ps := [.d true yBE, .d false yI], rs := [.o 68 yP1], pre := fun (x : Be × Int × Unit) => x.1.2.length = 1 ∧ (whereV (x.1.2.getD 0 hy0).2 x.2.1).2 = true, out := fun (x : Be × Int × Unit) => ([(whereV (x.1.2.getD 0 hy0).2 x.2.1).1], ()), nw := id }
theorem c56 : CtrOk Tryz.prog 56 con56.ctr :=
 aA0 eA0 (eC c55 has55 eN) rfl Tryz.func56 rfl con56 1208930431300647602128887 (by kernel_rfl) (by decide) (by decide) rfl (by decide) rfl (by
  rintro ⟨⟨(u : Int), (l : List Hy)⟩, (b : Int), _⟩ hpre hwf X hT hG hk hK; obtain ⟨hl, hw⟩ : l.length = 1 ∧ (whereV (l.getD 0 hy0).2 b).2 = true := hpre
  (simp -implicitDefEqProofs (maxSteps := 4000000) only [go_sem, bP, con56, con55, hT, hG, hk, hK, Tryz.results56] at hwf ⊢); (try simp (disch := decide +kernel) only [drawn, true_and, and_true])
  clear hwf; refine cA0 ⟨{ i : Nat // i ≤ 1 }, 1000, fun i => [(1, .one (.int .i64 b)), (2, .one (.loc 64 0)), (5, .one (.row 65)), (6, .one (.int .i64 (i.1 : Int)))], fun i => [(64, .cells 34 [.int .i64 u, .sl yHY l false]), (65, .row 68 yP1 (if i.1 = 0 then [] else [(whereV (l.getD 0 hy0).2 b).1]))], fun i => 1 - i.1⟩ ⟨0, Nat.zero_le _⟩ ?_ ?_
  · simp only [go_sem]
    try rw [if_pos rfl]
    rfl
  · rintro ⟨i, (hi : i ≤ 1)⟩
    (simp -implicitDefEqProofs (maxSteps := 4000000) only [go_sem, bP, con56, con55, hT, hG, hk, hK, Tryz.results56]); (try simp (disch := decide +kernel) only [drawn, true_and, and_true])
    simp only [hl]; refine fun _ => ⟨fun hlt => ⟨by omega, fun _ _ _ => ?_⟩, fun hge => ?_⟩
    · obtain rfl : i = 0 := by omega
      have el : l.getD ((0 : Nat) : Int).toNat (0, [], []) = l.getD 0 hy0 := rfl; simp only [el, hw, if_true]; generalize (whereV (l.getD 0 hy0).2 b).1 = at0 at *; obtain ⟨(a1 : Int), (a2 : Int)⟩ := at0; refine cA0 ⟨Unit, 2000, fun _ => [(1, .one (.int .i64 b)), (2, .one (.loc 64 0)), (5, .one (.row 65)), (6, .one (.int .i64 0)), (7, .one (.loc 66 0)), (8, .one (.bool true)), (9, .one (.int .i64 0))], fun _ => [(64, .cells 34 [.int .i64 u, .sl yHY l false]), (65, .row 68 yP1 []), (66, .cells 68 [.int .i64 a1, .int .i64 a2])], fun _ => 0⟩ () ?_ ?_
      · simp only [go_sem]; rfl
      · rintro ⟨⟩
        (simp -implicitDefEqProofs (maxSteps := 4000000) only [go_sem, bP, con56, con55, hT, hG, hk, hK, Tryz.results56]); (try simp (disch := decide +kernel) only [drawn, true_and, and_true])
        have h00 : (0 : Int) < ((0 : Nat) : Int) ↔ False := by simp
        simp only [h00, false_implies, false_and, true_implies, implies_true, true_and, and_true, not_false_eq_true, forall_const, false_or, or_false]; refine fun _ _ _ _ => ⟨by omega, by omega, by omega, ?_⟩; refine dA0 ⟨1, Nat.le_refl _⟩ ?_ (by dsimp only; omega); simp only [go_sem]; rfl
    · obtain rfl : i = 1 := by omega
      rfl)
def con26 : Con := { ps := [.d true yBE, .d false yI], rs := [.d true yP1, .d false .bool], pre := fun (x : Be × Int × Unit) => x.1.2.length = 1 ∧ (whereV (x.1.2.getD 0 hy0).2 x.2.1).2 = true, out := fun (x : Be × Int × Unit) => ((whereV (x.1.2.getD 0 hy0).2 x.2.1).1, true, ()), nw := id }
theorem c26 : CtrOk Tryz.prog 26 con26.ctr :=
 aA0 eA0 (eC c55 has55 (eC c56 has56 eN)) rfl Tryz.func26 rfl con26 69256364919 (by kernel_rfl) (by decide) (by decide) rfl (by decide) rfl (by
  rintro ⟨⟨(u : Int), (l : List Hy)⟩, (b : Int), _⟩ hpre hwf X hT hG hk hK; obtain ⟨hl, hw⟩ : l.length = 1 ∧ (whereV (l.getD 0 hy0).2 b).2 = true := hpre
  (simp -implicitDefEqProofs (maxSteps := 4000000) only [go_sem, bP, con26, con55, con56, hT, hG, hk, hK, Tryz.results26] at hwf ⊢)
  clear hwf; refine cA0 ⟨{ i : Nat // i ≤ 1 }, 1000, fun i => [(1, .one (.int .i64 b)), (2, .one (.loc 64 0)), (4, .one (.loc 65 0)), (5, .one (.bool false)), (6, .one (.int .i64 (i.1 : Int)))], fun i => [(64, .cells 34 [.int .i64 u, .sl yHY l false]), (65, .cells 68 [.undef, .undef])], fun i => 1 - i.1⟩ ⟨0, Nat.zero_le _⟩ ?_ ?_
  · simp only [go_sem]; rfl
  · rintro ⟨i, (hi : i ≤ 1)⟩
    (simp -implicitDefEqProofs (maxSteps := 4000000) only [go_sem, bP, con26, con55, con56, hT, hG, hk, hK, Tryz.results26])
    simp only [hl]; refine fun _ => ⟨fun hlt => ⟨by omega, fun _ _ _ => ?_⟩, fun hge => ?_⟩
    · obtain rfl : i = 0 := by omega
      have el : l.getD ((0 : Nat) : Int).toNat (0, [], []) = l.getD 0 hy0 := rfl; simp only [el, hw]; refine ⟨fun h => (by cases h), fun _ => ⟨by omega, ?_⟩⟩; refine dA0 ⟨1, Nat.le_refl _⟩ ?_ (by dsimp only; omega); simp only [go_sem]; rfl
    · exact ⟨⟨trivial, hw⟩, fun _ _ => ⟨fun h => absurd rfl h, fun _ => ⟨by omega, fun _ => ⟨by omega, fun _ => ⟨rfl, rfl⟩⟩⟩⟩⟩)
def con27 (B : Nat) : Con := { ps := [.d true yLY, .d false yI, .d false yI], rs := [.d false .bool], pre := fun (x : Ly × Int × Int × Unit) => 0 < B ∧ GoodL x.1 ∧ (0 ≤ x.2.1 ∧ x.2.1 < x.1.1.length) ∧ (x.1.1.length : Int) ≤ (B : Nat) + x.2.1, out := fun (x : Ly × Int × Int × Unit) => (decide (0 ≤ dstV x.1.1 [] x.2.2.1 x.2.1), ()), nw := id }
theorem z27 : CtrOk Tryz.prog 27 (con27 0).ctr :=
 aA0 eA0 eN rfl Tryz.func27 rfl (con27 0) 18014398510533071 (by kernel_rfl) (show pcOk (con27 0).ps = true by decide) (show (con27 0).ps.length ≤ Tryz.f27.ntmps by decide) rfl (by decide) rfl (by
  intro x hpre; have h2 : (0 : Nat) < 0 := And.left hpre; exact absurd h2 (Nat.lt_irrefl 0))
theorem s27 (k : Nat) (ih : CtrOk Tryz.prog 27 (con27 k).ctr) : CtrOk Tryz.prog 27 (con27 (k + 1)).ctr :=
 aA0 eA0 (eC c23 has23 (eC ih has27 eN)) rfl Tryz.func27 rfl (con27 (k + 1)) 18014398510533071 (by kernel_rfl) (show pcOk (con27 0).ps = true by decide) (show (con27 0).ps.length ≤ Tryz.f27.ntmps by decide) rfl (by decide) rfl (by
  rintro ⟨⟨(ns : List Nd), (ds : List Dv)⟩, (n0 : Int), (t : Int), _⟩ hpre hwf X hT hG hk hK; obtain ⟨_, hg, ⟨h1, h2⟩, h3⟩ : 0 < k + 1 ∧ GoodL (ns, ds) ∧ (0 ≤ n0 ∧ n0 < ns.length) ∧ (ns.length : Int) ≤ ((k + 1 : Nat) : Int) + n0 := hpre; obtain ⟨n, rfl⟩ : ∃ n : Nat, n0 = n := ⟨n0.toNat, by omega⟩
  (simp -implicitDefEqProofs (maxSteps := 4000000) only [go_sem, bP, con27, con23, hT, hG, hk, hK, Tryz.results27] at hwf ⊢)
  clear hwf; have hn : n < ns.length := by omega
  have hgo := rD4 hg (tg := t) hn; refine ⟨fun h => (decide_eq_true (hgo.2 (.inl h))).symm, fun hne => ?_⟩; obtain ⟨y, hy⟩ : ∃ y, ns.getD n nd0 = y := ⟨_, rfl⟩; have enn : (n : Int).toNat = n := Int.toNat_natCast n; have ek : ∀ z, ns.getD (n : Int).toNat z = y := fun z => by rw [enn, ← hy]; simp [hn]
  obtain ⟨x1, (x2 : Int), (x3 : Int), (x4 : Int), (x5 : List Int)⟩ := y; rw [hy] at hgo; dsimp only at hgo; have hx5 : x5.length ≤ 2 := by
   have h9 := (hg.nd n hn).ex; dsimp only at h9; rw [hy] at h9; dsimp only at h9; rw [h9]; unfold exN; split
   · omega
   · split <;> omega
  refine cA0 ⟨{ k : Nat // k ≤ x5.length ∧ ∀ j (hj : j < x5.length), j < k → ¬ (goX ns t n x5[j] = true ∧ 0 ≤ dstV ns [] t x5[j]) }, 1000, fun q => [(1, .one (.int .i64 (n : Int))), (2, .one (.int .i64 t)), (3, .one (.loc 64 0)), (6, .one (.bool false)), (7, .one (.int .i64 (q.1 : Int)))], fun _ => [(64, .cells 30 [.sl yNO ns false, .sl yPL ds false])], fun q => x5.length - q.1⟩ ⟨0, Nat.zero_le _, fun j _ h => absurd h (Nat.not_lt_zero _)⟩ ?_ ?_
  · simp only [go_sem]; rfl
  · rintro ⟨q, (hq : q ≤ x5.length), hno⟩
    (simp -implicitDefEqProofs (maxSteps := 4000000) only [go_sem, bP, con27, con23, hT, hG, hk, hK, Tryz.results27])
    have eqq : (q : Int).toNat = q := Int.toNat_natCast q; have en : ∀ m, ns.getD m (ByteArray.empty, 0, 0, 0, []) = ns.getD m nd0 := fun _ => rfl; simp only [ek, eqq, en]; refine ⟨by omega, fun _ _ _ => ⟨fun hlt => ⟨by omega, fun _ _ => ⟨by omega, ?_⟩⟩, fun hge => ?_⟩⟩
    · have hq' : q < x5.length := by omega
      have ex : x5.getD q 0 = x5[q] := by simp [hq']
      have hm : x5[q] ∈ x5 := List.getElem_mem hq'; have hfw : x5[q] ≠ (n : Int) → (n : Int) < x5[q] ∧ x5[q] < ns.length := fun e => hg.fwd hn (by rw [hy]; exact hm) e; have hnx : ¬ (goX ns t n x5[q] = true ∧ 0 ≤ dstV ns [] t x5[q]) → ∀ j (hj : j < x5.length), j < q + 1 → ¬ (goX ns t n x5[j] = true ∧ 0 ≤ dstV ns [] t x5[j]) := fun h j hj hj2 => by
       by_cases e : j = q
       · subst e; exact h
       · exact hno j hj (by omega)
      simp only [ex]; have hgx : goX ns t n x5[q] = (decide (x5[q] ≠ (n : Int)) && (decide (x5[q] = t) || strN (ns.getD (x5[q]).toNat nd0).2.1)) := rfl; generalize x5[q] = x at *; refine fun _ _ => ⟨fun h => (by have := hfw h.1; omega), fun _ _ => ⟨fun h => ⟨h, fun h2 => ⟨h, h2⟩⟩, fun h => ?_, fun h => ?_, fun h => ⟨by omega, ?_⟩⟩⟩
      · have := hfw h.1; exact ⟨by omega, hg, by omega, by omega⟩
      · refine (decide_eq_true (hgo.2 (.inr ⟨x, hm, ?_, h.2⟩))).symm; rw [hgx, Bool.and_eq_true, Bool.or_eq_true, decide_eq_true_eq, decide_eq_true_eq]; exact h.1
      · refine dA0 ⟨q + 1, by omega, hnx ?_⟩ ?_ (by dsimp only; omega)
        · rintro ⟨g1, g2⟩; rw [hgx, Bool.and_eq_true, Bool.or_eq_true, decide_eq_true_eq, decide_eq_true_eq] at g1
          rcases h with (h | ⟨h, h'⟩) | h
          · exact g1.1 h
          · rcases g1.2 with g | g
            · exact h g
            · rw [h'] at g; cases g
          · exact h g2
        · simp only [go_sem]; rfl
    · refine (decide_eq_false fun h => ?_).symm
      rcases hgo.1 h with e | ⟨x, hx, g1, g2⟩
      · exact hne e
      · obtain ⟨j, hj, rfl⟩ := List.getElem_of_mem hx; exact hno j hj (by omega) ⟨g1, g2⟩)
theorem cRea : ∀ B, CtrOk Tryz.prog 27 (con27 B).ctr
 | 0 => z27
 | B + 1 => s27 B (cRea B)
theorem gC5 (L : Nat) : hasB 1 (List.replicate L 0) = false := by
 unfold hasB; rw [List.any_eq_false]; intro y hy; rw [List.eq_of_mem_replicate hy]
 decide
theorem cD0 {L w : Nat} (h : w < L) : hasB 1 (oneW L w) = true := by
 unfold hasB; rw [List.any_eq_true]; refine ⟨1, ?_, by decide⟩; unfold oneW; exact List.mem_or_eq_of_mem_set (l := List.replicate L (0 : Int)) (i := w) (b := 1) (a := 1) (by
  rw [List.mem_iff_getElem]; exact ⟨w, by simp [h], by simp⟩) |>.elim (fun q => by
   rw [List.mem_iff_getElem]; exact ⟨w, by simp [h], by simp⟩) (fun _ => by
   rw [List.mem_iff_getElem]; exact ⟨w, by simp [h], by simp⟩)
theorem nB3 {α : Type} {l : List α} {k : Nat} (h : k < l.length) (z : α) : l[k] = l.getD k z := by simp [h]
theorem hD3 {ns : List Nd} {n w : Nat} (hn : n < ns.length) (hw : w < lnV ns n) : whereV (sP ns n w) 1 = (((n : Int), (w : Int)), true) := by
 have hl : (sP ns n w).1.length = ns.length := by unfold sP; rw [List.length_set, nB1]
 have h1 : idxV (hasB 1) (sP ns n w).1 = n := by
  refine pA1 (i := n) (by omega) ?_ fun k hk => ?_
  · rw [nB3 (by omega) [], sB0 hn, if_pos rfl]; exact cD0 hw
  · rw [nB3 (by omega) [], sB0 (by omega), if_neg (by omega)]; exact gC5 _
 unfold whereV; rw [h1, if_pos ⟨by decide, by omega⟩, Int.toNat_natCast, sB0 hn, if_pos rfl]; have h2 : idxV (fun y : Int => decide (1 = y)) (oneW (lnV ns n) w) = w := by
  refine pA1 (i := w) (by rw [aA2]; exact hw) ?_ fun k hk => ?_
  · rw [nB3 (by rw [aA2]; omega) 0, mA1 hw, if_pos rfl]; rfl
  · rw [nB3 (by rw [aA2]; omega) 0, mA1 (by omega), if_neg (by omega)]; rfl
 rw [h2]
theorem iC5 {ns : List Nd} : idxV (hasB 1) (p0V ns).1 = -1 := by
 refine hA1 fun k hk => ?_; rw [nB3 hk [], tC5 (by rw [nB1] at hk; exact hk)]; exact gC5 _
theorem kC2 {ns : List Nd} {m : Nat} (hm : m < ns.length) : whereV (bnP ns m) 1 = (((m : Int), -1), true) := by
 have hl : (bnP ns m).2.length = ns.length := by unfold bnP; rw [List.length_set, tB5]
 have h1 : idxV (hasB 1) (bnP ns m).1 = -1 := iC5; have h2 : idxV (hasB 1) (bnP ns m).2 = m := by
  refine pA1 (i := m) (by omega) ?_ fun k hk => ?_
  · rw [nB3 (by omega) [], wD6 hm, if_pos rfl]; rfl
  · rw [nB3 (by omega) [], wD6 hm, if_neg (by omega)]; rfl
 unfold whereV; rw [h1, if_neg (fun q => q.2 rfl), h2, if_pos (by omega)]
theorem dD3 {ns : List Nd} : (whereV (p0V ns) 1).2 = false := by
 have h2 : idxV (hasB 1) (p0V ns).2 = -1 := by
  refine hA1 fun k hk => ?_; rw [nB3 hk [], gD6]; rfl
 unfold whereV; rw [iC5, if_neg (fun q => q.2 rfl), h2, if_neg (fun q => q rfl)]
theorem sC6 (h : Hy) : addV [] h = [h] := rfl
theorem bD2 {ds : List Dv} {ns : List Nd} (hg : GoodL (ns, ds)) : ebB (newB ns 0) 1 = ((0, [(0, sP ns 0 0)]), 0) := by
 have h0 : 0 < ns.length := hg.n1; have he : enterV (p0V ns) 1 = (sP ns 0 0, 0) := by
  unfold enterV; rw [dD3, if_neg (by decide), tC5 h0, if_neg (fun q => q cA4)]; rfl
 have h1 : ebH (newB ns 0) 1 1 = [(0, sP ns 0 0)] := by
  show (if (enterV (p0V ns) 1).2 = 0 then addV [] (0, (enterV (p0V ns) 1).1) else []) = _; rw [he, if_pos rfl, sC6]
 unfold ebB; rw [show (newB ns 0).2.length = 1 from rfl, h1]; rfl
theorem yC8 {ns : List Nd} (c : List Int) (p : Pl) : stepB ns c (0, [(0, p)]) = ((0, [(0, plantV ns p c [])]), 0) := by
 have h1 : stpL ns c (0, [(0, p)]) 1 = [(0, plantV ns p c [])] := rfl; unfold stepB; rw [show (((0 : Int), [((0 : Int), p)]) : Be).2.length = 1 from rfl, h1]; rfl
theorem sD3 {ds : List Dv} {ns : List Nd} (hg : GoodL (ns, ds)) {p : Pl} (h : OneP ns p) : BeOk ns 1 (0, [(0, p)]) := by
 have hz : ∀ i, i < ns.length → ((List.replicate (lnV ns i) (0 : Int)).length : Int) = (ns.getD i nd0).2.2.1 := fun i hi => by
  have := lnZ hg hi; rw [List.length_replicate]; unfold lnV; omega
 refine ⟨Int.le_refl 0, (show (0 : Int) ≤ 2 by decide), by simp, fun x hx => ?_⟩; obtain rfl : x = (0, p) := by simpa using hx
 refine ⟨Int.le_refl 0, Int.le_refl 0, ?_, ?_⟩
 · rcases h with ⟨n, w, hn, hs, hw, rfl⟩ | ⟨m, hm, hs, rfl⟩
   · refine ⟨by unfold sP; rw [List.length_set, nB1], tB5 ns, fun i hi => ?_⟩; dsimp only; rw [sB0 hi]; split
     · rename_i e; subst e; rw [aA2, ← hz i hi, List.length_replicate]
     · exact hz i hi
   · refine ⟨nB1 ns, by unfold bnP; rw [List.length_set, tB5], fun i hi => ?_⟩; dsimp only; have : (bnP ns m).1.getD i [] = List.replicate (lnV ns i) 0 := tC5 hi; rw [this]; exact hz i hi
 · have h0 : ∀ b ∈ (p0V ns).2, b.length ≤ 1 := fun b hb => by
    unfold p0V at hb; obtain ⟨_, _, rfl⟩ := List.mem_map.1 hb; exact Nat.zero_le _
   rcases h with ⟨n, w, hn, hs, hw, rfl⟩ | ⟨m, hm, hs, rfl⟩
   · exact fun b hb => h0 b hb
   · intro b hb
     rcases List.mem_or_eq_of_mem_set hb with hb | rfl
     · exact h0 b hb
     · exact Nat.le_refl _
theorem bC2 {ns : List Nd} {p : Pl} (h : OneP ns p) : (whereV p 1).2 = true := by
 rcases h with ⟨n, w, hn, hs, hw, rfl⟩ | ⟨m, hm, hs, rfl⟩
 · rw [hD3 hn hw]
 · rw [kC2 hm]
def conRea24 : Con := con27 24
theorem cRea24 : CtrOk Tryz.prog 27 conRea24.ctr := cRea 24
def con6 : Con := { ps := [.d false (.sl yI)], rs := [.d false .bool], pre := fun _ => True, out := fun _ => (true, ()), nw := id }
theorem c6 : CtrG gvs Tryz.prog 6 con6.ctr :=
 yA4 (G := ⟨[(7, con7.ctr), (8, con8.ctr), (11, con11.ctr), (21, con21.ctr), (22, con22.ctr), (25, con25.ctr), (26, con26.ctr), (14, con14.ctr), (23, con23.ctr), (24, con24.ctr), (27, conRea24.ctr)], [(9, con9.rctr)], [], [], gvs⟩) eA0 (EnvG.cons c7 has7 (EnvG.cons c8.g has8 (EnvG.cons c11.g has11 (EnvG.cons c21.g has21 (EnvG.cons c22.g has22 (EnvG.cons c25.g has25 (EnvG.cons c26.g has26 (EnvG.cons c14.g has14 (EnvG.cons c23.g has23 (EnvG.cons c24.g has24 (EnvG.cons cRea24.g has27 (EnvG.rcons c9.g has9 EnvG.nil)))))))))))) rfl Tryz.func6 rfl con6 5090486813384234837079805198333 (by kernel_rfl) (by decide) (by decide) rfl (by decide) rfl (by
  rintro ⟨(src : List Int), _⟩ hpre hwf X hT hG hk hK
  (simp -implicitDefEqProofs (maxSteps := 4000000) only [go_sem, bP, con6, con7, con8, con11, con21, con22, con25, con26, con14, con23, con24, conRea24, con9, hT, hG, hk, hK, Tryz.results6, gvs, con27] at hwf ⊢); (try simp (disch := decide +kernel) only [drawn, true_and, and_true])
  clear hwf; intro _; refine ⟨Int.le_refl 0, ?_⟩; rintro ⟨⟨⟨(ns : List Nd), (ds : List Dv)⟩, _⟩, ⟨⟨(s2 : List Int), (a2 : Int)⟩, _⟩⟩ ⟨⟨(p2 : 0 ≤ a2), (hg : GoodL (ns, ds))⟩, _⟩; have hn24 : ns.length ≤ 24 := hg.n24; have h0 : 0 < ns.length := hg.n1; have e1 : Int.toNat 1 = 1 := rfl; have hent := bD2 hg; have hnb : BeOk ns 900000 (newB ns 0) := (bC5 hg (Int.le_refl 0) (by decide)).mono (Nat.zero_le _); have htl := bB7 ns (s2, a2) 1; simp only [e1, hent]; generalize tgL ns (s2, a2) 1 = ts at *; obtain ⟨tg, rfl⟩ : ∃ tg, ts = [tg] := List.length_eq_one_iff.1 htl; refine ⟨⟨hg, by decide, by decide⟩, fun _ => ⟨⟨hg, hnb, by decide, by decide⟩, fun _ => ?_⟩⟩; have etg : ([tg] : List Int).getD 0 0 = tg := rfl; have ell : ([tg] : List Int).length = 1 := rfl; have en : ∀ m, ns.getD m (ByteArray.empty, 0, 0, 0, []) = ns.getD m nd0 := fun _ => rfl; have htp : 0 ≤ totV ns ∧ totV ns ≤ 8 * (ns.length : Int) := zB5 hg.le8; have hs0 : strN (ns.getD 0 nd0).2.1 = true := by
   have := hg.en; dsimp only at this; rw [this]; rfl
  simp only [etg, ell, en]; obtain ⟨W, hW⟩ : ∃ W : Bool, (decide (tg ≥ 0) && decide (tg < (ns.length : Int)) && !strN (ns.getD tg.toNat nd0).2.1) = W := ⟨_, rfl⟩; obtain ⟨T, hT2⟩ : ∃ T : Nat, totV ns = T := ⟨(totV ns).toNat, by omega⟩; refine ⟨fun h => absurd trivial h, fun _ => ⟨⟨p2, by omega, by decide, by decide⟩, fun _ => ⟨by omega, fun _ _ => ⟨fun _ => by omega, fun _ _ _ => ⟨fun _ => by omega, fun _ _ _ => ?_⟩⟩⟩⟩⟩; refine cA0 ⟨{ q : Nat × Pl // q.1 ≤ T + 1 ∧ OneP ns q.2 ∧ ∀ t : Nat, tg = t → t < ns.length → strN (ns.getD t nd0).2.1 = false → 0 ≤ dstV ns [] t (0 : Nat) → OneR ns t q.2 (dstV ns [] t (0 : Nat) - q.1) }, 1000, fun q => [(2, .one (.bool false)), (4, .one (.loc 64 0)), (5, .one (.loc 65 0)), (8, .one (.sl yI [tg] false)), (9, .one (.bool W)), (10, .one (.int .i64 (q.1.1 : Int)))], fun q => [(64, .cells 30 [.sl yNO ns false, .sl yPL ds false]), (65, .cells 34 [.int .i64 0, .sl yHY [(0, q.1.2)] false])], fun q => T + 1 - q.1.1⟩ ⟨(0, sP ns 0 0), Nat.zero_le _, ?_, ?_⟩ ?_ ?_
  · exact .inl ⟨0, 0, h0, hs0, hB9 hg h0 hs0, rfl⟩
  · exact fun t _ _ _ hd => .inl ⟨0, 0, h0, hs0, hB9 hg h0 hs0, rfl, hd, rfl⟩
  · simp only [go_sem]; exact ⟨rfl, hW⟩
  · rintro ⟨⟨i, p⟩, (hi : i ≤ T + 1), (hp : OneP ns p), hr⟩
    (simp -implicitDefEqProofs (maxSteps := 4000000) only [go_sem, bP, con6, con7, con8, con11, con21, con22, con25, con26, con14, con23, con24, conRea24, con9, hT, hG, hk, hK, Tryz.results6, gvs, con27]); (try simp (disch := decide +kernel) only [drawn, true_and, and_true])
    have hdc : decL ns [(0, p)] [tg] [true] [true] [] ns.length = dcV ns tg p := rfl; simp only [hdc, yC8, hT2]; have hbe := (sD3 hg hp).mono (show 1 ≤ 800000 by decide); have hco : CmdOk ns (dcV ns tg p) := kD0 hg _ _ _ _ _; refine ⟨hg, fun _ => ⟨by omega, fun hlt => ⟨hg, fun _ => ⟨⟨hg, hbe, hco⟩, fun _ => ⟨fun h => absurd trivial h, fun _ => ⟨by omega, ?_⟩⟩⟩⟩, fun hge => ?_⟩⟩
    · refine dA0 ⟨(i + 1, plantV ns p (dcV ns tg p) []), by dsimp only; omega, yC5 hg tg hp, fun t e1 e2 e3 e4 => ?_⟩ ?_ (by dsimp only; omega)
      · have := rC2 hg e2 e3 (hr t e1 e2 e3 e4); subst e1; dsimp only
        rwa [show dstV ns [] (t : Int) ((0 : Nat) : Int) - ((i + 1 : Nat) : Int) = dstV ns [] (t : Int) ((0 : Nat) : Int) - (i : Int) - 1 by omega]
      · simp only [go_sem]; rfl
    · have hwh := bC2 hp; have ep : (([((0 : Int), p)] : List Hy).getD 0 hy0).2 = p := rfl; simp only [etg, ep]; have hi' : i = T + 1 := by omega
      refine ⟨hwh, fun _ => ⟨fun _ => by omega, fun _ _ => ⟨fun _ => ⟨hg, by omega, by omega⟩, fun h => ⟨by omega, fun _ _ => ?_⟩⟩⟩⟩; obtain ⟨hw1, hd⟩ := h; rw [← hW, Bool.and_eq_true, Bool.and_eq_true, decide_eq_true_eq, decide_eq_true_eq] at hw1; obtain ⟨⟨g1, g2⟩, g3⟩ := hw1; obtain ⟨t, rfl⟩ : ∃ t : Nat, tg = t := ⟨tg.toNat, by omega⟩; rw [Int.toNat_natCast] at g3; have hts : strN (ns.getD t nd0).2.1 = false := by simpa using g3
      have ht : t < ns.length := by omega
      have hR := hr t rfl ht hts hd; have hsum := pC4 hg (tg := t) ns.length 0 h0 (by omega); rw [List.drop_zero] at hsum
      rcases hR with ⟨n, w, hn, hs, hw, rfl, hd0, hre⟩ | ⟨rfl, _⟩
      · exfalso; have hdn : ¬ (n : Int) = t := fun e => by
         have : n = t := by omega
         subst this; rw [hs] at hts; cases hts
        have hge := (sB1 hg (br := []) (tg := t) hn hdn).resolve_left (by omega); have hln : (lnV ns n : Int) = (ns.getD n nd0).2.2.1 := by have := lnZ hg hn; unfold lnV; omega
        dsimp only at hre; omega
      · rw [kC2 ht]; exact ⟨rfl, rfl⟩)
end Go.Proofs.YtabadacjbkhmkaaGreatDoor

namespace Go.Proofs.YtabadacjbkhmkaaGreatDoor
open Go.Ev Go.ChangeShapes Go.WideShapes Go.ChangeAt Go.RowKit
theorem jD0 (H : Type) : Bulk (H := H) Rows.uptoBulk Rows.uptoBulkAll where
 lit l := by cases l <;> simp [Rows.uptoBulk]
 str b := by simp [Rows.uptoBulk]
 nil := by simp [Rows.uptoBulk]
 sl a b := by simp only [Rows.uptoBulk]; omega
 agg a := by simp only [Rows.uptoBulk]; omega
 cons d r := by simp only [Rows.uptoBulkAll]
theorem own : ownKnob Tryz.prog.godebug = none := by kernel_rfl
theorem laid : laidOutB Tryz.prog = true := by kernel_rfl
end Go.Proofs.YtabadacjbkhmkaaGreatDoor

namespace Go.Ev
theorem dB0 (w : World) (O : Nat → Prop) : ∀ ws : List ByteArray, (∀ s ∈ ws, s.size ≤ maxLen) → roAll (ro w O .str) ws (ws.map Value.string)
 | [], _ => by simp [roAll]
 | s :: ws, h => by
   simp only [roAll, List.map_cons]; exact ⟨[.string s], ws.map Value.string, rfl, by unfold ro; exact ⟨rfl, h s (List.mem_cons_self ..)⟩, dB0 w O ws fun y hy => h y (List.mem_cons_of_mem _ hy)⟩
theorem sC5 {P : Program} {W : World} {name : String} {rest : List (String × DataW Unit)} {g : Nat} {t e : TypeId} {ws : List ByteArray} (hg : P.globalNamed name = some g) (hty : (P.globals[g]?).map (·.type) = some t) (ht : P.underlying t = some (.slice e)) (he : P.underlying e = some .string) (hce : P.cellsOf e = 1)
 (h : laidMet P ((name, .slice (ws.map fun s => .lit (.string s.data.toList)) []) :: rest) W) : GlIn [(g, ⟨.sl .str, [ws]⟩)] W := fun g' v hv => by
 simp only [findL] at hv; split at hv
 · rename_i eg; cases hv; subst eg; obtain ⟨ps, ⟨g2, t2, cs, fuel, p, q, hg2, ht2, hvar, hd, _, _⟩, _⟩ := h; obtain rfl := Option.some.inj (hg.symm.trans hg2); obtain rfl := Option.some.inj (hty.symm.trans ht2); unfold World.var? at hvar; rw [hg] at hvar; simp only [Option.bind_some] at hvar; split at hvar
   case h_2 => cases hvar
   rename_i cs' e' hh hc; cases hvar; refine ⟨(Array.getElem?_eq_some_iff.1 hc).1, _, _, _, hc, fun w O hw => ?_⟩
   rcases DataW.trod_slice ht hd with ⟨_, h2⟩ | ⟨a, len, cap, elems, rst, n, rfl, hcs, hx, _, hlc, hcm, hel, helem, hsp, _⟩
   · cases h2
   · have hx1 := congrArg Prod.fst hx; simp only [DataW.slice.injEq] at hx1; obtain ⟨hx1, hx2⟩ := hx1; have hr0 : rst = [] := by
      have := hx2.symm; simpa using this
     subst hr0; have hcap : cap = len := by
      have := (hsp rfl).1; simp at this; omega
     subst hcap; have hwl : ws.length = cap := by
      have := congrArg List.length hx1; simp at this; omega
     have key : ∀ i (hi : i < cap), W.cell? (a.add i) = some (Value.string (ws[i]'(by omega))) ∧ (ws[i]'(by omega)).size ≤ maxLen := fun i hi => by
      have h1 := helem i hi; rw [hce, Nat.mul_one, List.getElem?_eq_getElem (by omega)] at h1
      cases hcc : W.cells? 0 (a.add i) 1 with
      | none => rw [hcc] at h1; cases h1
      | some c0 =>
        rw [hcc] at h1; simp only [Option.bind_some] at h1; obtain ⟨s, rfl, hs, hm⟩ := DataW.trod_string he h1; obtain ⟨_, g2⟩ := yA3 hcc; have g3 := g2 0 _ rfl; have hxi := congrArg (fun l => l[i]?) hx1; simp only [List.getElem?_map, List.getElem?_eq_getElem (show i < ws.length by omega), List.getElem?_eq_getElem (show i < elems.length by omega), Option.map_some, Option.some.injEq, hs, DataW.lit.injEq, Lit.string.injEq] at hxi; have hsw : ws[i] = s := by
         have h9 : ws[i].data = s.data := Array.toList_inj.1 hxi
         cases hq : ws[i] with
         | mk d => rw [hq] at h9; cases s; simp only at h9; rw [h9]
        rw [hsw]; refine ⟨?_, hm⟩; have : (a.add i).add 0 = a.add i := by simp [Addr.add]
        rwa [this] at g3
     have hmx : ∀ s ∈ ws, s.size ≤ maxLen := fun s hs => by
      obtain ⟨i, hi, rfl⟩ := List.getElem_of_mem hs; exact (key i (by omega)).2
     refine ⟨cs.toList, [], by simp, ?_, rfl⟩; show ro w O (.sl .str) ws cs.toList; unfold ro; refine ⟨some a, cap, cap, hcs, hwl.symm, Nat.le_refl _, hcm, ?_⟩; by_cases h0 : cap = 0
     · exact .inl h0
     · right; have hspot : a.spot = none := by
        have g3 := (key 0 (by omega)).1; simp only [Addr.add, if_true] at g3; unfold World.cell? at g3; split at g3
        · split at g3
          · cases g3
          · rename_i hs; simpa using hs
        · cases g3
       obtain ⟨b, o, sp⟩ := a; simp only at hspot; subst hspot; refine ⟨b, o, ws.map Value.string, rfl, dB0 w O ws hmx, fun j u hu => ?_⟩; have hj : j < cap := by
        have := (List.getElem?_eq_some_iff.1 hu).1; simp at this; omega
       have hu2 : u = Value.string (ws[j]'(by omega)) := by
        rw [List.getElem?_map, List.getElem?_eq_getElem (show j < ws.length by omega)] at hu; exact (Option.some.inj hu).symm
       subst hu2; have hcell := (key j hj).1; have ea : (⟨b, o, none⟩ : Addr).add j = ⟨b, o + j, none⟩ := by simp [oA0]
       rw [ea] at hcell; have hb : b < W.heap.size := block_lt_of_cell hcell; exact ⟨(hw b hb).2, (World.cell?_of_block (a := ⟨b, o + j, none⟩) (hw b hb).1).trans hcell⟩
 · cases hv
end Go.Ev
