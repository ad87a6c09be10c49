/- Part. -/
import Derived.Test.YtabadacjbkhmkaaGreatDoorEvRowToAb
import Derived.Test.YtabadacjbkhmkaaGreatDoorCnZToAa
import Derived.Test.YtabadacjbkhmkaaGreatDoorEvSortToSc
import Derived.Test.YtabadacjbkhmkaaGreatDoorCnTab
import Derived.WalkKit
import Derived.ProofKit
set_option linter.all false
set_option maxRecDepth 100000
set_option maxHeartbeats 8000000
namespace Go.Proofs.YtabadacjbkhmkaaGreatDoor
open Go.Ev
def exT : ByteArray := ByteArray.mk #[101, 110, 116, 114, 121, 32, 65, 32, 49, 32, 48, 32, 62, 32, 71, 10, 103, 97, 116, 101, 32, 71, 32, 49, 32, 48, 32, 62, 32, 77, 32, 67, 10, 99, 104, 117, 116, 101, 32, 67, 32, 49, 10, 109, 97, 110, 117, 97, 108, 32, 77, 32, 48, 10]
def exTL : List ByteArray := [ByteArray.mk #[101, 110, 116, 114, 121, 32, 65, 32, 49, 32, 48, 32, 62, 32, 71], ByteArray.mk #[103, 97, 116, 101, 32, 71, 32, 49, 32, 48, 32, 62, 32, 77, 32, 67], ByteArray.mk #[99, 104, 117, 116, 101, 32, 67, 32, 49], ByteArray.mk #[109, 97, 110, 117, 97, 108, 32, 77, 32, 48]]
theorem bD5 : spV exT 10 = exTL ++ [bs0] := by decide +kernel
def exW0 : List ByteArray := [ByteArray.mk #[101, 110, 116, 114, 121], ByteArray.mk #[65], ByteArray.mk #[49], ByteArray.mk #[48], ByteArray.mk #[62], ByteArray.mk #[71]]
def exW1 : List ByteArray := [ByteArray.mk #[103, 97, 116, 101], ByteArray.mk #[71], ByteArray.mk #[49], ByteArray.mk #[48], ByteArray.mk #[62], ByteArray.mk #[77], ByteArray.mk #[67]]
def exW2 : List ByteArray := [ByteArray.mk #[99, 104, 117, 116, 101], ByteArray.mk #[67], ByteArray.mk #[49]]
def exW3 : List ByteArray := [ByteArray.mk #[109, 97, 110, 117, 97, 108], ByteArray.mk #[77], ByteArray.mk #[48]]
def exWL : List (List ByteArray) := [exW0, exW1, exW2, exW3]
theorem xD5 : ∀ i, i < 4 → spV (exTL.getD i bs0) 32 = exWL.getD i [] := by decide +kernel
def nmL (c : Int) : ByteArray := ByteArray.mk #[c.toNat.toUInt8]
def exLn : List Ln := [((nmL 65, 1, 1, 0, []), (0, 0, 0), [nmL 71]), ((nmL 71, 6, 1, 0, []), (0, 0, 0), [nmL 77, nmL 67]), ((nmL 67, 8, 0, 1, []), (0, 0, 0), []), ((nmL 77, 9, 0, 0, []), (0, 0, 0), [])]
def ln0 : Ln := (nd0, (0, 0, 0), [])
instance i1Nd : DecidableEq (ByteArray × Int × Int × Int × List Int) := fun a b => instDecidableEqProd a b
instance i2Ln : DecidableEq ((Int × Int × Int) × List ByteArray) := fun a b => instDecidableEqProd a b
instance i3Ln : DecidableEq Ln := fun a b => instDecidableEqProd (α := ByteArray × Int × Int × Int × List Int) (β := (Int × Int × Int) × List ByteArray) a b
theorem lD5 : ∀ i, i < 4 → rdW (exWL.getD i []) = exLn.getD i ln0 := by decide +kernel
def exEx : List (List Int) := [[1], [3, 2], [], []]
def exN' (i k : Nat) : List Nd := (List.range 4).map (fun j => let x := (exLn.getD j ln0).1; (x.1, x.2.1, x.2.2.1, x.2.2.2.1, if j < i then exEx.getD j [] else if j = i then (exEx.getD j []).take k else []))
def exLy : Ly := (exN' 4 0, [])
theorem yB2 : ∀ c ∈ [65, 71, 67, 77], nmL c = strOf [c] := by decide +kernel
theorem vA7 : ∀ c ∈ [65, 71, 67, 77], Nm1 (nmL c) := fun c hc => ⟨c, by
 simp only [List.mem_cons, List.not_mem_nil, or_false] at hc; omega, by
 simp only [List.mem_cons, List.not_mem_nil, or_false] at hc; omega, yB2 c hc⟩
theorem wD5 : ∀ i, i < 4 → RdOk (exWL.getD i []) (kdW (exWL.getD i [])) := fun i hi => by
 have d1 : ∀ W ∈ exWL, Dg1 (W.getD 2 bs0) ∧ Dg1 (W.getD (atK (kdW W)) bs0) ∨ kdW W = 8 ∨ kdW W = 9 := by unfold Dg1; decide +kernel
 rcases (by omega : i = 0 ∨ i = 1 ∨ i = 2 ∨ i = 3) with rfl | rfl | rfl | rfl
 · have hk : kdW exW0 = 1 := by decide +kernel
   show RdOk exW0 (kdW exW0); rw [hk]; exact ⟨.inl rfl, by decide +kernel, fun k h1 h2 => (by decide +kernel : ∀ k : Nat, k ≤ 9 → (1 ≤ k → (wordsL.getD k bs0 = exW0.getD 0 bs0 ↔ (k : Int) = 1))) k h2 h1, by decide +kernel, by decide +kernel, vA7 65 (by decide), by unfold Dg1; decide +kernel, by unfold Dg1; decide +kernel, fun _ => by decide +kernel, fun k hk => by
    obtain rfl : k = 0 := by have : exN 1 = 1 := rfl; omega
    exact vA7 71 (by decide)⟩
 · have hk : kdW exW1 = 6 := by decide +kernel
   show RdOk exW1 (kdW exW1); rw [hk]; exact ⟨.inr (.inl rfl), by decide +kernel, fun k h1 h2 => (by decide +kernel : ∀ k : Nat, k ≤ 9 → (1 ≤ k → (wordsL.getD k bs0 = exW1.getD 0 bs0 ↔ (k : Int) = 6))) k h2 h1, by decide +kernel, by decide +kernel, vA7 71 (by decide), by unfold Dg1; decide +kernel, by unfold Dg1; decide +kernel, fun _ => by decide +kernel, fun k hk => by
    have : exN 6 = 2 := rfl
    rcases (by omega : k = 0 ∨ k = 1) with rfl | rfl
    · exact vA7 77 (by decide)
    · exact vA7 67 (by decide)⟩
 · have hk : kdW exW2 = 8 := by decide +kernel
   show RdOk exW2 (kdW exW2); rw [hk]; exact ⟨.inr (.inr (.inl rfl)), by decide +kernel, fun k h1 h2 => (by decide +kernel : ∀ k : Nat, k ≤ 9 → (1 ≤ k → (wordsL.getD k bs0 = exW2.getD 0 bs0 ↔ (k : Int) = 8))) k h2 h1, by decide +kernel, by decide +kernel, vA7 67 (by decide), by unfold Dg1; decide +kernel, by unfold Dg1; decide +kernel, fun h => absurd rfl h, fun k hk => absurd hk (Nat.not_lt_zero _)⟩
 · have hk : kdW exW3 = 9 := by decide +kernel
   show RdOk exW3 (kdW exW3); rw [hk]; exact ⟨.inr (.inr (.inr rfl)), by decide +kernel, fun k h1 h2 => (by decide +kernel : ∀ k : Nat, k ≤ 9 → (1 ≤ k → (wordsL.getD k bs0 = exW3.getD 0 bs0 ↔ (k : Int) = 9))) k h2 h1, by decide +kernel, by decide +kernel, vA7 77 (by decide), by unfold Dg1; decide +kernel, by unfold Dg1; decide +kernel, fun h => absurd rfl h, fun k hk => absurd hk (Nat.not_lt_zero _)⟩
theorem pC9 : ∀ i, i < 4 → ∀ k, k < (exEx.getD i []).length → idxV (fun y : Nd => decide (y.1 = (exLn.getD i ln0).2.2.getD k bs0)) (exN' i k) = (exEx.getD i []).getD k 0 := by decide +kernel
theorem uD3 : ∀ i, i < 4 → (exLn.getD i ln0).2.2.length = (exEx.getD i []).length := by decide +kernel
theorem pD4 : ∀ i, i < 4 → ∀ k, k < (exEx.getD i []).length → (exN' i k).set i (((exN' i k).getD i nd0).1, ((exN' i k).getD i nd0).2.1, ((exN' i k).getD i nd0).2.2.1, ((exN' i k).getD i nd0).2.2.2.1, ((exN' i k).getD i nd0).2.2.2.2 ++ [(exEx.getD i []).getD k 0]) = exN' i (k + 1) := by decide +kernel
theorem vD4 : ∀ i, i < 4 → ∀ k, k < (exEx.getD i []).length → (((exN' i k).getD i nd0).2.2.2.2).length ≤ 3 := by decide +kernel
theorem xD4 : ∀ i, i < 4 → ∀ k, k < (exEx.getD i []).length → 0 ≤ (exEx.getD i []).getD k 0 ∧ (exEx.getD i []).getD k 0 < 4 := by decide +kernel
theorem xD2 : ∀ i, i < 4 → exN' i (exEx.getD i []).length = exN' (i + 1) 0 := by decide +kernel
theorem kD5 : exN' 4 0 = [(nmL 65, 1, 1, 0, [1]), (nmL 71, 6, 1, 0, [3, 2]), (nmL 67, 8, 0, 1, []), (nmL 77, 9, 0, 0, [])] := by decide +kernel
theorem iA4 : GoodL (exN' 4 0, []) := by
 rw [kD5]; refine ⟨by decide, by decide, ?_, by decide, ?_, ?_, rfl, ⟨by decide, fun d hd => (by simp at hd), List.nodup_nil⟩⟩
 · intro i hi; have hi : i < 4 := hi
   rcases (by omega : i = 0 ∨ i = 1 ∨ i = 2 ∨ i = 3) with rfl | rfl | rfl | rfl
   · refine ⟨by decide, by decide, by decide, by decide, by decide, by decide, ?_, ?_, by decide, by decide, ?_⟩
     · intro k e h
       rcases k with _ | k
       · obtain rfl : (1 : Int) = e := Option.some.inj h; exact .inr ⟨by decide, by decide, by decide⟩
       · simp at h
     · intro a b h; simp at h
     · intro k e h
       rcases k with _ | k
       · obtain rfl : (1 : Int) = e := Option.some.inj h
         decide
       · simp at h
   · refine ⟨by decide, by decide, by decide, by decide, by decide, by decide, ?_, ?_, by decide, by decide, ?_⟩
     · intro k e h
       rcases k with _ | _ | k
       · obtain rfl : (3 : Int) = e := Option.some.inj h; exact .inr ⟨by decide, by decide, by decide⟩
       · obtain rfl : (2 : Int) = e := Option.some.inj h; exact .inr ⟨by decide, by decide, by decide⟩
       · simp at h
     · intro a b h; have h : ([3, 2] : List Int) = [a, b] := h
       injection h with h1 h2
       injection h2 with h2 _
       omega
     · intro k e h
       rcases k with _ | _ | k
       · obtain rfl : (3 : Int) = e := Option.some.inj h
         decide
       · obtain rfl : (2 : Int) = e := Option.some.inj h
         decide
       · simp at h
   · exact ⟨by decide, by decide, by decide, by decide, by decide, by decide, fun k e h => by simp at h, fun a b h => by simp at h, by decide, by decide, fun k e h => by simp at h⟩
   · exact ⟨by decide, by decide, by decide, by decide, by decide, by decide, fun k e h => by simp at h, fun a b h => by simp at h, by decide, by decide, fun k e h => by simp at h⟩
 · intro i hi; have hi : i < 4 := hi
   rcases (by omega : i = 0 ∨ i = 1 ∨ i = 2 ∨ i = 3) with rfl | rfl | rfl | rfl
   · exact ⟨65, by decide, by decide, yB2 _ (by decide)⟩
   · exact ⟨71, by decide, by decide, yB2 _ (by decide)⟩
   · exact ⟨67, by decide, by decide, yB2 _ (by decide)⟩
   · exact ⟨77, by decide, by decide, yB2 _ (by decide)⟩
 · exact fun i j hi hj => (by decide +kernel : ∀ i, i < 4 → ∀ j, j < 4 → (([(nmL 65, 1, 1, 0, [1]), (nmL 71, 6, 1, 0, [3, 2]), (nmL 67, 8, 0, 1, []), (nmL 77, 9, 0, 0, [])] : List Nd).getD i nd0).1 = (([(nmL 65, 1, 1, 0, [1]), (nmL 71, 6, 1, 0, [3, 2]), (nmL 67, 8, 0, 1, []), (nmL 77, 9, 0, 0, [])] : List Nd).getD j nd0).1 → i = j) i hi j hj
def con28 : Con := { ps := [.d false .str], rs := [.d true yLY, .d false yI, .d false yI], pre := fun (x : ByteArray × Unit) => x.1 = exT, out := fun _ => (exLy, 0, 0, ()), nw := id }
theorem c28 : CtrG gvs Tryz.prog 28 con28.ctr :=
 vA4 (G := ⟨[(57, con57.ctr), (58, con58.ctr), (59, con59.ctr), (51, con51.ctr)], [], [], [], gvs⟩) eA0 (EnvG.cons c57.g has57 (EnvG.cons c58 has58 (EnvG.cons c59.g has59 (EnvG.cons c51.g has51 EnvG.nil)))) rfl Tryz.func28 rfl con28 91343852503987270450680025140626748208306257917 (by kernel_rfl) (by decide) (by decide) rfl (by decide) rfl (by
  rintro ⟨s, _⟩ hpre hwf X hT hG hk hK; have hs : s = exT := hpre
  (simp -implicitDefEqProofs (maxSteps := 4000000) only [go_sem, bP, con28, con57, con58, con59, con51, hT, hG, hk, hK, Tryz.results28, gvs] at hwf ⊢); (try simp (disch := decide +kernel) only [drawn, true_and, and_true])
  clear hwf; have hsp : spV s 10 = exTL ++ [bs0] := by rw [hs]; exact bD5
  have hsz : s.size ≤ 5000 ∧ s.size ≤ 4096 := by rw [hs]; decide
  simp only [hsp]; have el : (((exTL ++ [bs0]).length : Nat) : Int) = 5 := rfl; simp only [el]; refine fun _ => ⟨fun h => absurd h (by omega), fun _ => ⟨hsz.1, fun _ _ => ⟨by omega, by omega, fun _ _ _ => ⟨by omega, by omega, ?_⟩⟩⟩⟩; have ell : exTL.length = 4 := rfl; have eln : exLn.length = 4 := rfl; refine cA0 ⟨{ i : Nat // i ≤ 4 }, 1000, fun i => [(0, .one (.str s)), (2, .one (.loc 64 0)), (3, .one (.int .i64 0)), (4, .one (.int .i64 0)), (5, .one (.sl .str exTL false)), (6, .one (.str bs0)), (7, .one (.row 71)), (8, .one (.loc 72 0)), (9, .one (.int .i64 (i.1 : Int)))], fun i => [(64, .cells 30 [.row 65, .row 66]), (65, .row 56 yNO []), (66, .row 111 yPL []), (71, .row 113 yLN (exLn.take i.1)), (72, .cells 30 [.row 73, .row 74]), (73, .row 56 yNO ((exN' 0 0).take i.1)), (74, .row 111 yPL [])], fun i => 4 - i.1⟩ ⟨0, Nat.zero_le _⟩ ?_ ?_
  · simp only [go_sem]; exact ⟨rfl, rfl, rfl⟩
  · rintro ⟨i, (hi : i ≤ 4)⟩
    (simp -implicitDefEqProofs (maxSteps := 4000000) only [go_sem, bP, con28, con57, con58, con59, con51, hT, hG, hk, hK, Tryz.results28, gvs]); (try simp (disch := decide +kernel) only [drawn, true_and, and_true])
    simp only [ell, Int.toNat_natCast]; refine fun _ => ⟨fun hlt => ?_, fun hge => ?_⟩
    · have hi4 : i < 4 := by omega
      have ed : exTL.getD i ByteArray.empty = exTL.getD i bs0 := rfl; have h5 : (exTL.getD i bs0).size ≤ 5000 := (by decide +kernel : ∀ i, i < 4 → (exTL.getD i bs0).size ≤ 5000) i hi4; have hr := wD5 i hi4; have hln := lD5 i hi4; have hk0 : (exLn.getD i ln0).1.2.1 ≠ 0 := (by decide +kernel : ∀ i, i < 4 → (exLn.getD i ln0).1.2.1 ≠ 0) i hi4; have ht : exLn.take (i + 1) = exLn.take i ++ [exLn.getD i ln0] := (by decide +kernel : ∀ i, i < 4 → exLn.take (i + 1) = exLn.take i ++ [exLn.getD i ln0]) i hi4; have ht2 : (exN' 0 0).take (i + 1) = (exN' 0 0).take i ++ [(exLn.getD i ln0).1] := (by decide +kernel : ∀ i, i < 4 → (exN' 0 0).take (i + 1) = (exN' 0 0).take i ++ [(exLn.getD i ln0).1]) i hi4; have hl1 : (exLn.take i).length = i := by rw [List.length_take, eln]; omega
      have hl2 : ((exN' 0 0).take i).length = i := by rw [List.length_take, show (exN' 0 0).length = 4 from rfl]; omega
      simp only [ed, xD5 i hi4, hln, hl1, hl2]; generalize exLn.getD i ln0 = ln at *; refine ⟨by omega, fun _ _ => ⟨⟨h5, hr⟩, fun _ _ => ⟨fun h => absurd h.2 (by decide), fun _ => ⟨by omega, fun _ => ⟨by omega, by omega, ?_⟩, fun h => absurd h hk0⟩⟩⟩⟩; refine dA0 ⟨i + 1, by omega⟩ ?_ (by dsimp only; omega); simp only [go_sem]; rw [ht, ht2]
      try first | rfl | (and_intros <;> first | trivial | rfl | omega)
    · obtain rfl : i = 4 := by omega
      have hz1 : exLn.take 4 = exLn := rfl; have hz2 : (exN' 0 0).take 4 = exN' 0 0 := rfl; simp only [hz1, hz2]; refine ⟨fun h => absurd rfl h, fun _ => ?_⟩; refine cA0 ⟨{ i : Nat // i ≤ 4 }, 2000, fun i => [(2, .one (.loc 64 0)), (3, .one (.int .i64 0)), (4, .one (.int .i64 0)), (7, .one (.row 71)), (8, .one (.loc 72 0)), (12, .one (.int .i64 (i.1 : Int)))], fun i => [(64, .cells 30 [.row 65, .row 66]), (65, .row 56 yNO []), (66, .row 111 yPL []), (71, .row 113 yLN exLn), (72, .cells 30 [.row 73, .row 74]), (73, .row 56 yNO (exN' i.1 0)), (74, .row 111 yPL [])], fun i => 4 - i.1⟩ ⟨0, Nat.zero_le _⟩ ?_ ?_
      · simp only [go_sem]; rfl
      · rintro ⟨i, (hi : i ≤ 4)⟩
        (simp -implicitDefEqProofs (maxSteps := 4000000) only [go_sem, bP, con28, con57, con58, con59, con51, hT, hG, hk, hK, Tryz.results28, gvs]); (try simp (disch := decide +kernel) only [drawn, true_and, and_true])
        simp only [eln, Int.toNat_natCast]; refine fun _ => ⟨fun hlt => ?_, fun hge => ?_⟩
        · have hi4 : i < 4 := by omega
          refine cA0 ⟨{ k : Nat // k ≤ (exEx.getD i []).length }, 3000, fun k => [(2, .one (.loc 64 0)), (3, .one (.int .i64 0)), (4, .one (.int .i64 0)), (7, .one (.row 71)), (8, .one (.loc 72 0)), (12, .one (.int .i64 (i : Int))), (13, .one (.int .i64 (k.1 : Int)))], fun k => [(64, .cells 30 [.row 65, .row 66]), (65, .row 56 yNO []), (66, .row 111 yPL []), (71, .row 113 yLN exLn), (72, .cells 30 [.row 73, .row 74]), (73, .row 56 yNO (exN' i k.1)), (74, .row 111 yPL [])], fun k => (exEx.getD i []).length - k.1⟩ ⟨0, Nat.zero_le _⟩ ?_ ?_
          · simp only [go_sem]; rfl
          · rintro ⟨k, (hkk : k ≤ (exEx.getD i []).length)⟩
            (simp -implicitDefEqProofs (maxSteps := 4000000) only [go_sem, bP, con28, con57, con58, con59, con51, hT, hG, hk, hK, Tryz.results28, gvs]); (try simp (disch := decide +kernel) only [drawn, true_and, and_true])
            simp only [eln, Int.toNat_natCast]; have ed : exLn.getD i ((ByteArray.empty, 0, 0, 0, []), (0, 0, 0), []) = exLn.getD i ln0 := rfl; have ed2 : (exN' i k).getD i (ByteArray.empty, 0, 0, 0, []) = (exN' i k).getD i nd0 := rfl; have eb : ((exLn.getD i ln0).2.2).getD k ByteArray.empty = ((exLn.getD i ln0).2.2).getD k bs0 := rfl; have enl : (exN' i k).length = 4 := by unfold exN'; rw [List.length_map, List.length_range]
            have hll := uD3 i hi4; simp only [ed, ed2, enl]; simp only [hll, eb]; refine ⟨by omega, fun _ => ⟨by omega, fun _ _ => ⟨fun hlt2 => ?_, fun hge2 => ?_⟩⟩⟩
            · have hk4 : k < (exEx.getD i []).length := by omega
              have hf := pC9 i hi4 k hk4; have hx := pD4 i hi4 k hk4; have hxl := vD4 i hi4 k hk4; have he0 := xD4 i hi4 k hk4; simp only [hf]; generalize (exEx.getD i []).getD k 0 = e at *; refine ⟨by omega, fun _ => ⟨by omega, fun _ => ⟨by omega, fun _ _ _ => ⟨fun h => absurd h (by omega), fun _ _ => ⟨fun _ => ⟨by omega, fun _ => ⟨by omega, fun _ => ⟨by omega, by omega, by omega, fun _ => ⟨by omega, by omega, ?_⟩⟩⟩⟩, fun h => absurd h (by omega)⟩⟩⟩⟩⟩; refine dA0 ⟨k + 1, by omega⟩ ?_ (by dsimp only; omega); simp only [go_sem]; rw [← hx]
              try first | rfl | (and_intros <;> first | trivial | rfl | omega)
            · have : k = (exEx.getD i []).length := by omega
              subst this; refine ⟨by omega, ?_⟩; refine dA0 ⟨i + 1, by omega⟩ ?_ (by dsimp only; omega); simp only [go_sem]; rw [xD2 i hi4]
              try first | rfl | (and_intros <;> first | trivial | rfl | omega)
        · obtain rfl : i = 4 := by omega
          exact ⟨iA4, fun _ => ⟨fun h => h.elim, rfl, rfl⟩⟩)
def exB0 : Be := newB (exN' 4 0) 0
def exB1 : Be := (ebB exB0 1).1
def exB2 : Be := (stepB (exN' 4 0) [0, 0, 0, 0] exB1).1
theorem sD5 : (ebB exB0 1).2 = 0 := by decide +kernel
theorem rD5 : (stepB (exN' 4 0) [0, 0, 0, 0] exB1).2 = 0 := by decide +kernel
theorem gD2 : exB2.2.length ≤ 1000000 := by decide +kernel
theorem zD4 : decL (exN' 4 0) exB2.2 [2] [true] [] [] 4 = [0, 1, 0, 0] := by decide +kernel
theorem wD4 : decL (exN' 4 0) exB2.2 [2] [false] [] [] 4 = [0, 0, 0, 0] := by decide +kernel
theorem sD4 : CmdOk (exN' 4 0) [0, 0, 0, 0] := ⟨rfl, (by decide +kernel : ∀ i, i < 4 → cmdOk ((exN' 4 0).getD i nd0) (([0, 0, 0, 0] : List Int).getD i 0) = true)⟩
def con7 : Con := { ps := [], rs := [.d false .bool], pre := fun _ => True, out := fun _ => (true, ()), nw := id }
theorem c7 : CtrG gvs Tryz.prog 7 con7.ctr :=
 vA4 (G := ⟨[(28, con28.ctr), (21, con21.ctr), (22, con22.ctr), (25, con25.ctr), (14, con14.ctr), (13, con13.ctr)], [], [], [], gvs⟩) eA0 (EnvG.cons c28 has28 (EnvG.cons c21.g has21 (EnvG.cons c22.g has22 (EnvG.cons c25.g has25 (EnvG.cons c14.g has14 (EnvG.cons c13.g has13 EnvG.nil)))))) rfl Tryz.func7 rfl con7 1019 (by kernel_rfl) (by decide) (by decide) rfl (by decide) rfl (by
  rintro _ hpre hwf X hT hG hk hK
  (simp -implicitDefEqProofs (maxSteps := 4000000) only [go_sem, bP, con7, con28, con21, con22, con25, con14, con13, hT, hG, hk, hK, Tryz.results7, gvs] at hwf ⊢)
  clear hwf; have eL : exLy.1 = exN' 4 0 := rfl; have e4 : (exN' 4 0).length = 4 := rfl; simp only [eL]; have hb0 : BeOk (exN' 4 0) 0 exB0 := vC1 iA4 (by decide) (by decide); have hb1 : BeOk (exN' 4 0) 0 exB1 := nC8 iA4 hb0 1; have r0 : newB (exN' 4 0) 0 = exB0 := rfl; have r1 : (ebB exB0 1).1 = exB1 := rfl; have r2 : (stepB (exN' 4 0) [0, 0, 0, 0] exB1).1 = exB2 := rfl; simp only [r0]; simp only [r1, sD5]; simp only [r2, rD5, e4, zD4, wD4]; refine ⟨rfl, fun _ => ⟨⟨iA4, by decide, by decide⟩, fun _ => ⟨⟨iA4, hb0.mono (Nat.zero_le _), by decide, by decide⟩, fun _ => ⟨⟨iA4, hb1.mono (Nat.zero_le _), sD4⟩, fun _ => ?_⟩⟩⟩⟩; exact ⟨⟨iA4, gD2⟩, fun _ => ⟨⟨iA4, gD2⟩, fun _ => ⟨⟨⟨trivial, trivial⟩, trivial⟩, trivial⟩⟩⟩)
def con4 : Con := { ps := [.d false (.sl yI)], rs := [.d false .bool], pre := fun _ => True, out := fun _ => (true, ()), nw := id }
theorem c4 : CtrG gvs Tryz.prog 4 con4.ctr :=
 vA4 (G := ⟨[(7, con7.ctr), (8, con8.ctr), (10, con10.ctr), (11, con11.ctr), (12, con12.ctr), (14, con14.ctr), (16, con16.ctr), (17, con17.ctr), (18, con18.ctr)], [(9, con9.rctr)], [], [], gvs⟩) eA0 (EnvG.cons c7 has7 (EnvG.cons c8.g has8 (EnvG.cons c10.g has10 (EnvG.cons c11.g has11 (EnvG.cons c12.g has12 (EnvG.cons c14.g has14 (EnvG.cons c16.g has16 (EnvG.cons c17.g has17 (EnvG.cons c18.g has18 (EnvG.rcons c9.g has9 EnvG.nil)))))))))) rfl Tryz.func4 rfl con4 680564733841918030404620615855104327613 (by kernel_rfl) (by decide) (by decide) rfl (by decide) rfl (by
  rintro ⟨(src : List Int), _⟩ hpre hwf X hT hG hk hK
  (simp -implicitDefEqProofs (maxSteps := 4000000) only [go_sem, bP, con4, con7, con8, con10, con11, con12, con14, con16, con17, con18, con9, hT, hG, hk, hK, Tryz.results4, gvs] at hwf ⊢); (try simp (disch := decide +kernel) only [drawn, true_and, and_true])
  clear hwf; intro _; refine ⟨Int.le_refl 0, ?_⟩; rintro ⟨⟨⟨(ns : List Nd), (ds : List Dv)⟩, _⟩, ⟨⟨(s2 : List Int), (a2 : Int)⟩, _⟩⟩ ⟨⟨(p2 : 0 ≤ a2), (hg : GoodL (ns, ds))⟩, _⟩; have hbe := sC8 hg (s := (s2, a2)) p2; have hn24 : ns.length ≤ 24 := hg.n24; have e4 : Int.toNat 4 = 4 := rfl; simp only [e4]; generalize belV ns (s2, a2) = Q at *; obtain ⟨⟨S1, S2⟩, ⟨⟨u, l⟩, ⟨sl, bn⟩⟩⟩ := Q; have p3 : 0 ≤ S2 := hbe.sp; have h40 : l.length ≤ 40 := hbe.be.n40; have hbo := hbe.be.ok; refine ⟨⟨p2, hg⟩, fun _ => ?_⟩; dsimp only at *; have p4 := mB5 (s := (S1, S2)) p3 4; have htl := lB5 ns (S1, S2) 4; generalize tgS (S1, S2) 4 = T at *; generalize tgL ns (S1, S2) 4 = ts at *; have p5 := rA5 (Src.step_pos' p4) (truK T 4); generalize truS T.step (truK T 4) = T1 at *; generalize truL T.step (truK T 4) = u1 at *; have p6 := rA5 (Src.step_pos' p5) (truK T1 4); generalize truS T1.step (truK T1 4) = T2 at *; generalize truL T1.step (truK T1 4) = u2 at *; have p7 := rA5 (Src.step_pos' p6) (truK T2 ns.length); generalize truS T2.step (truK T2 ns.length) = T3 at *; generalize truL T2.step (truK T2 ns.length) = u3 at *; have hlL : l.length ≤ 1000000 := by omega
  have htL : ts.length ≤ 1000000 := by omega
  have hnz : (0 : Int) ≤ ((ns.length : Nat) : Int) := Int.natCast_nonneg _; have hnk : ((ns.length : Nat) : Int) ≤ 1000 := by omega
  refine ⟨⟨p3, by omega, by decide, by decide⟩, fun _ => ⟨⟨p4, by decide, by decide⟩, fun _ => ⟨⟨p5, by decide, by decide⟩, fun _ _ => ⟨⟨p6, hnz, hnk⟩, fun _ => ⟨⟨hg, hlL, htL⟩, fun _ => ?_⟩⟩⟩⟩⟩; have hco := xD1 hg l ts u1 u2 u3; have hsafe := fun (h : Hy) (hh : h ∈ l) (f : List Dv) (hpo : Poss ns (decL ns l ts u1 u2 u3 ns.length) f) => xD0 hg hh (hbo h hh).ft (ts := ts) (cl := u1) (rs := u2) (br := u3) (f := f) hpo; generalize decL ns l ts u1 u2 u3 ns.length = C at *; refine cA0 ⟨{ q : Nat × Src // q.1 ≤ l.length ∧ 0 ≤ q.2.2 }, 2000, fun q => [(3, .one (.loc 70 0)), (4, .one (.loc 71 0)), (5, .one (.loc 72 0)), (8, .one (.sl .bool u1 false)), (9, .one (.sl .bool u2 false)), (11, .one (.sl yI C false)), (12, .one (.int .i64 (q.1.1 : Int)))], fun q => [(70, .cells 75 [.sl yI q.1.2.1 false, .int .i64 q.1.2.2]), (71, .cells 30 [.sl yNO ns false, .sl yPL ds false]), (72, .cells 34 [.int .i64 u, .sl yHY l false])], fun q => l.length - q.1.1⟩ ⟨(0, T3), Nat.zero_le _, p7⟩ ?_ ?_
  · simp only [go_sem]; rfl
  · rintro ⟨⟨i, ⟨(s : List Int), (a : Int)⟩⟩, (hi : i ≤ l.length), (ha : 0 ≤ a)⟩
    (simp -implicitDefEqProofs (maxSteps := 4000000) only [go_sem, bP, con4, con7, con8, con10, con11, con12, con14, con16, con17, con18, con9, hT, hG, hk, hK, Tryz.results4, gvs]); (try simp (disch := decide +kernel) only [drawn, true_and, and_true])
    refine fun _ hlt => ?_; have hi' : i < l.length := by omega
    have eii : (i : Int).toNat = i := Int.toNat_natCast i; obtain ⟨h, eh⟩ : ∃ h, l.getD i hy0 = h := ⟨_, rfl⟩; have ek : ∀ z, l.getD i z = h := fun z => by rw [← eh]; simp [hi']
    have hh : h ∈ l := by rw [← eh]; exact fA4 hi'
    have hho := hbo h hh; have hsf := hsafe h hh; have e2 : Int.toNat 2 = 2 := rfl; have hmv := wC2 hg (s, a) 2; have hmp := yB4 (ns := ns) (s := (s, a)) ha 2; simp only [eii, ek, e2]; generalize mvI ns (s, a) 2 = W at *; obtain ⟨F, ⟨S4, S5⟩⟩ := W; dsimp only at hmv hmp; have hpo : Poss ns C F := hmv.poss hco (by decide); have hsf := hsf F hpo; obtain ⟨hu, ⟨hs, hbn⟩⟩ := h; have hft := hho.ft; have hbk : BinK 900000 (hs, hbn) := fun b hb => Nat.le_trans (hho.bk b hb) (by omega); have hpl := aA7 hg hft hbk hpo; have hpl1 : ((stepV ns (hs, hbn) C F).1).length = ns.length := hpl.1.sl; have hplP : (stepV ns (hs, hbn) C F).2.2.length ≤ ns.length := hpl.2.2; generalize stepV ns (hs, hbn) C F = R at *; obtain ⟨R1, R2, P⟩ := R; dsimp only at hsf hpl1 hplP; refine ⟨⟨by omega, by omega⟩, fun _ _ => ⟨⟨ha, hg, by decide, by decide⟩, fun _ => ⟨⟨hg, hft, hbk, hpo⟩, fun _ _ _ => ⟨fun h => h (by show ((R1.length : Nat) : Int) = ns.length; omega), fun _ => ?_⟩⟩⟩⟩; refine cA0 ⟨{ k : Nat // k ≤ P.length }, 3000, fun k => [(3, .one (.loc 70 0)), (4, .one (.loc 71 0)), (5, .one (.loc 72 0)), (8, .one (.sl .bool u1 false)), (9, .one (.sl .bool u2 false)), (11, .one (.sl yI C false)), (12, .one (.int .i64 (i : Int))), (14, .one (.sl yPL P false)), (16, .one (.int .i64 (k.1 : Int)))], fun _ => [(70, .cells 75 [.sl yI S4 false, .int .i64 S5]), (71, .cells 30 [.sl yNO ns false, .sl yPL ds false]), (72, .cells 34 [.int .i64 u, .sl yHY l false])], fun k => P.length - k.1⟩ ⟨0, Nat.zero_le _⟩ ?_ ?_
    · simp only [go_sem]; rfl
    · rintro ⟨k, (hk1 : k ≤ P.length)⟩
      (simp -implicitDefEqProofs (maxSteps := 4000000) only [go_sem, bP, con4, con7, con8, con10, con11, con12, con14, con16, con17, con18, con9, hT, hG, hk, hK, Tryz.results4, gvs]); (try simp (disch := decide +kernel) only [drawn, true_and, and_true])
      refine fun _ => ⟨fun hlt2 => ?_, fun hge2 => ?_⟩
      · have hk2 : k < P.length := by omega
        have ekk : (k : Int).toNat = k := Int.toNat_natCast k; have ejk : ∀ z, P.getD k z = P[k] := fun z => by simp [hk2]
        obtain ⟨⟨v1, v2⟩, ⟨w1, w2⟩, g1, g2⟩ := hsf _ (List.getElem_mem hk2); simp only [ekk, ejk]; generalize P[k] = v at *; obtain ⟨vb, vf, vt⟩ := v; dsimp only at v1 v2 w1 w2 g1 g2; have ef : ∀ z, ns.getD vf.toNat z = ns.getD vf.toNat nd0 := fun z => by simp [show vf.toNat < ns.length by omega]
        have et : ∀ z, ns.getD vt.toNat z = ns.getD vt.toNat nd0 := fun z => by simp [show vt.toNat < ns.length by omega]
        simp only [ef, et]; generalize ns.getD vf.toNat nd0 = yf at *; generalize ns.getD vt.toNat nd0 = yt at *; refine ⟨⟨by omega, by omega⟩, fun _ _ => ⟨⟨v1, v2⟩, fun _ _ => ⟨fun _ => ⟨w1, w2⟩, fun _ _ => ⟨fun h => ⟨h, fun q => ⟨h, q⟩⟩, fun h => ?_, fun _ => ⟨⟨by omega, by omega⟩, ?_⟩⟩⟩⟩⟩
        · rcases h with ⟨⟨q1, q2⟩, q3⟩ | ⟨q1, q2⟩
          · rw [g1 q1 q2] at q3; cases q3
          · rw [g2 q1] at q2; cases q2
        · refine dA0 ⟨k + 1, by omega⟩ ?_ (by dsimp only; omega); simp only [go_sem]; rfl
      · refine ⟨⟨by omega, by omega⟩, ?_⟩; refine dA0 ⟨(i + 1, (S4, S5)), by dsimp only; omega, hmp⟩ ?_ (by dsimp only; omega); simp only [go_sem]; rfl)
end Go.Proofs.YtabadacjbkhmkaaGreatDoor

namespace Go.Proofs.YtabadacjbkhmkaaGreatDoor
open Go.Ev Go.ChangeShapes Go.WideShapes Go.ChangeAt Go.RowKit
theorem wD1 (H : Type) : Bulk (H := H) Rows.uptoBulk Rows.uptoBulkAll where
 lit l := by cases l <;> simp [Rows.uptoBulk]
 str b := by simp [Rows.uptoBulk]
 nil := by simp [Rows.uptoBulk]
 sl a b := by simp only [Rows.uptoBulk]; omega
 agg a := by simp only [Rows.uptoBulk]; omega
 cons d r := by simp only [Rows.uptoBulkAll]
theorem own : ownKnob Tryz.prog.godebug = none := by kernel_rfl
theorem laid : laidOutB Tryz.prog = true := by kernel_rfl
end Go.Proofs.YtabadacjbkhmkaaGreatDoor

namespace Go.Ev
theorem dB0 (w : World) (O : Nat → Prop) : ∀ ws : List ByteArray, (∀ s ∈ ws, s.size ≤ maxLen) → roAll (ro w O .str) ws (ws.map Value.string)
 | [], _ => by simp [roAll]
 | s :: ws, h => by
   simp only [roAll, List.map_cons]; exact ⟨[.string s], ws.map Value.string, rfl, by unfold ro; exact ⟨rfl, h s (List.mem_cons_self ..)⟩, dB0 w O ws fun y hy => h y (List.mem_cons_of_mem _ hy)⟩
theorem eC0 {P : Program} {W : World} {name : String} {rest : List (String × DataW Unit)} {g : Nat} {t e : TypeId} {ws : List ByteArray} (hg : P.globalNamed name = some g) (hty : (P.globals[g]?).map (·.type) = some t) (ht : P.underlying t = some (.slice e)) (he : P.underlying e = some .string) (hce : P.cellsOf e = 1)
 (h : laidMet P ((name, .slice (ws.map fun s => .lit (.string s.data.toList)) []) :: rest) W) : GlIn [(g, ⟨.sl .str, [ws]⟩)] W := fun g' v hv => by
 simp only [findL] at hv; split at hv
 · rename_i eg; cases hv; subst eg; obtain ⟨ps, ⟨g2, t2, cs, fuel, p, q, hg2, ht2, hvar, hd, _, _⟩, _⟩ := h; obtain rfl := Option.some.inj (hg.symm.trans hg2); obtain rfl := Option.some.inj (hty.symm.trans ht2); unfold World.var? at hvar; rw [hg] at hvar; simp only [Option.bind_some] at hvar; split at hvar
   case h_2 => cases hvar
   rename_i cs' e' hh hc; cases hvar; refine ⟨(Array.getElem?_eq_some_iff.1 hc).1, _, _, _, hc, fun w O hw => ?_⟩
   rcases DataW.trod_slice ht hd with ⟨_, h2⟩ | ⟨a, len, cap, elems, rst, n, rfl, hcs, hx, _, hlc, hcm, hel, helem, hsp, _⟩
   · cases h2
   · have hx1 := congrArg Prod.fst hx; simp only [DataW.slice.injEq] at hx1; obtain ⟨hx1, hx2⟩ := hx1; have hr0 : rst = [] := by
      have := hx2.symm; simpa using this
     subst hr0; have hcap : cap = len := by
      have := (hsp rfl).1; simp at this; omega
     subst hcap; have hwl : ws.length = cap := by
      have := congrArg List.length hx1; simp at this; omega
     have key : ∀ i (hi : i < cap), W.cell? (a.add i) = some (Value.string (ws[i]'(by omega))) ∧ (ws[i]'(by omega)).size ≤ maxLen := fun i hi => by
      have h1 := helem i hi; rw [hce, Nat.mul_one, List.getElem?_eq_getElem (by omega)] at h1
      cases hcc : W.cells? 0 (a.add i) 1 with
      | none => rw [hcc] at h1; cases h1
      | some c0 =>
        rw [hcc] at h1; simp only [Option.bind_some] at h1; obtain ⟨s, rfl, hs, hm⟩ := DataW.trod_string he h1; obtain ⟨_, g2⟩ := zA3 hcc; have g3 := g2 0 _ rfl; have hxi := congrArg (fun l => l[i]?) hx1; simp only [List.getElem?_map, List.getElem?_eq_getElem (show i < ws.length by omega), List.getElem?_eq_getElem (show i < elems.length by omega), Option.map_some, Option.some.injEq, hs, DataW.lit.injEq, Lit.string.injEq] at hxi; have hsw : ws[i] = s := by
         have h9 : ws[i].data = s.data := Array.toList_inj.1 hxi
         cases hq : ws[i] with
         | mk d => rw [hq] at h9; cases s; simp only at h9; rw [h9]
        rw [hsw]; refine ⟨?_, hm⟩; have : (a.add i).add 0 = a.add i := by simp [Addr.add]
        rwa [this] at g3
     have hmx : ∀ s ∈ ws, s.size ≤ maxLen := fun s hs => by
      obtain ⟨i, hi, rfl⟩ := List.getElem_of_mem hs; exact (key i (by omega)).2
     refine ⟨cs.toList, [], by simp, ?_, rfl⟩; show ro w O (.sl .str) ws cs.toList; unfold ro; refine ⟨some a, cap, cap, hcs, hwl.symm, Nat.le_refl _, hcm, ?_⟩; by_cases h0 : cap = 0
     · exact .inl h0
     · right; have hspot : a.spot = none := by
        have g3 := (key 0 (by omega)).1; simp only [Addr.add, if_true] at g3; unfold World.cell? at g3; split at g3
        · split at g3
          · cases g3
          · rename_i hs; simpa using hs
        · cases g3
       obtain ⟨b, o, sp⟩ := a; simp only at hspot; subst hspot; refine ⟨b, o, ws.map Value.string, rfl, dB0 w O ws hmx, fun j u hu => ?_⟩; have hj : j < cap := by
        have := (List.getElem?_eq_some_iff.1 hu).1; simp at this; omega
       have hu2 : u = Value.string (ws[j]'(by omega)) := by
        rw [List.getElem?_map, List.getElem?_eq_getElem (show j < ws.length by omega)] at hu; exact (Option.some.inj hu).symm
       subst hu2; have hcell := (key j hj).1; have ea : (⟨b, o, none⟩ : Addr).add j = ⟨b, o + j, none⟩ := by simp [oA0]
       rw [ea] at hcell; have hb : b < W.heap.size := block_lt_of_cell hcell; exact ⟨(hw b hb).2, (World.cell?_of_block (a := ⟨b, o + j, none⟩) (hw b hb).1).trans hcell⟩
 · cases hv
end Go.Ev
