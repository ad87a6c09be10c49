/- Part. -/
import Derived.Test.YtabadacjbkhmkaaGreatDoorCnAaToAb
import Derived.Test.YtabadacjbkhmkaaGreatDoorCnWToPs
import Derived.Test.YtabadacjbkhmkaaGreatDoorEvSortToSc
import Derived.Test.YtabadacjbkhmkaaGreatDoorCnRbToRc
set_option linter.all false
set_option maxRecDepth 100000
set_option maxHeartbeats 8000000
namespace Go.Proofs.YtabadacjbkhmkaaGreatDoor
open Go.Ev
def exT : ByteArray := ByteArray.mk #[101, 110, 116, 114, 121, 32, 65, 32, 49, 32, 48, 32, 62, 32, 71, 10, 103, 97, 116, 101, 32, 71, 32, 49, 32, 48, 32, 62, 32, 77, 32, 67, 10, 99, 104, 117, 116, 101, 32, 67, 32, 49, 10, 109, 97, 110, 117, 97, 108, 32, 77, 32, 48, 10]
def exTL : List ByteArray := [ByteArray.mk #[101, 110, 116, 114, 121, 32, 65, 32, 49, 32, 48, 32, 62, 32, 71], ByteArray.mk #[103, 97, 116, 101, 32, 71, 32, 49, 32, 48, 32, 62, 32, 77, 32, 67], ByteArray.mk #[99, 104, 117, 116, 101, 32, 67, 32, 49], ByteArray.mk #[109, 97, 110, 117, 97, 108, 32, 77, 32, 48]]
theorem nD6 : spV exT 10 = exTL ++ [bs0] := by decide +kernel
def exW0 : List ByteArray := [ByteArray.mk #[101, 110, 116, 114, 121], ByteArray.mk #[65], ByteArray.mk #[49], ByteArray.mk #[48], ByteArray.mk #[62], ByteArray.mk #[71]]
def exW1 : List ByteArray := [ByteArray.mk #[103, 97, 116, 101], ByteArray.mk #[71], ByteArray.mk #[49], ByteArray.mk #[48], ByteArray.mk #[62], ByteArray.mk #[77], ByteArray.mk #[67]]
def exW2 : List ByteArray := [ByteArray.mk #[99, 104, 117, 116, 101], ByteArray.mk #[67], ByteArray.mk #[49]]
def exW3 : List ByteArray := [ByteArray.mk #[109, 97, 110, 117, 97, 108], ByteArray.mk #[77], ByteArray.mk #[48]]
def exWL : List (List ByteArray) := [exW0, exW1, exW2, exW3]
theorem mD7 : ∀ i, i < 4 → spV (exTL.getD i bs0) 32 = exWL.getD i [] := by decide +kernel
def nmL (c : Int) : ByteArray := ByteArray.mk #[c.toNat.toUInt8]
def exLn : List Ln := [((nmL 65, 1, 1, 0, []), (0, 0, 0), [nmL 71]), ((nmL 71, 6, 1, 0, []), (0, 0, 0), [nmL 77, nmL 67]), ((nmL 67, 8, 0, 1, []), (0, 0, 0), []), ((nmL 77, 9, 0, 0, []), (0, 0, 0), [])]
def ln0 : Ln := (nd0, (0, 0, 0), [])
instance i1Nd : DecidableEq (ByteArray × Int × Int × Int × List Int) := fun a b => instDecidableEqProd a b
instance i2Ln : DecidableEq ((Int × Int × Int) × List ByteArray) := fun a b => instDecidableEqProd a b
instance i3Ln : DecidableEq Ln := fun a b => instDecidableEqProd (α := ByteArray × Int × Int × Int × List Int) (β := (Int × Int × Int) × List ByteArray) a b
theorem uD6 : ∀ i, i < 4 → rdW (exWL.getD i []) = exLn.getD i ln0 := by decide +kernel
def exEx : List (List Int) := [[1], [3, 2], [], []]
def exN' (i k : Nat) : List Nd := (List.range 4).map (fun j => let x := (exLn.getD j ln0).1; (x.1, x.2.1, x.2.2.1, x.2.2.2.1, if j < i then exEx.getD j [] else if j = i then (exEx.getD j []).take k else []))
def exLy : Ly := (exN' 4 0, [])
theorem eB5 : ∀ c ∈ [65, 71, 67, 77], nmL c = strOf [c] := by decide +kernel
theorem kA9 : ∀ c ∈ [65, 71, 67, 77], Nm1 (nmL c) := fun c hc => ⟨c, by
 simp only [List.mem_cons, List.not_mem_nil, or_false] at hc; omega, by
 simp only [List.mem_cons, List.not_mem_nil, or_false] at hc; omega, eB5 c hc⟩
theorem pD6 : ∀ i, i < 4 → RdOk (exWL.getD i []) (kdW (exWL.getD i [])) := fun i hi => by
 have d1 : ∀ W ∈ exWL, Dg1 (W.getD 2 bs0) ∧ Dg1 (W.getD (atK (kdW W)) bs0) ∨ kdW W = 8 ∨ kdW W = 9 := by unfold Dg1; decide +kernel
 rcases (by omega : i = 0 ∨ i = 1 ∨ i = 2 ∨ i = 3) with rfl | rfl | rfl | rfl
 · have hk : kdW exW0 = 1 := by decide +kernel
   show RdOk exW0 (kdW exW0); rw [hk]; exact ⟨.inl rfl, by decide +kernel, fun k h1 h2 => (by decide +kernel : ∀ k : Nat, k ≤ 9 → (1 ≤ k → (wordsL.getD k bs0 = exW0.getD 0 bs0 ↔ (k : Int) = 1))) k h2 h1, by decide +kernel, by decide +kernel, kA9 65 (by decide), by unfold Dg1; decide +kernel, by unfold Dg1; decide +kernel, fun _ => by decide +kernel, fun k hk => by
    obtain rfl : k = 0 := by have : exN 1 = 1 := rfl; omega
    exact kA9 71 (by decide)⟩
 · have hk : kdW exW1 = 6 := by decide +kernel
   show RdOk exW1 (kdW exW1); rw [hk]; exact ⟨.inr (.inl rfl), by decide +kernel, fun k h1 h2 => (by decide +kernel : ∀ k : Nat, k ≤ 9 → (1 ≤ k → (wordsL.getD k bs0 = exW1.getD 0 bs0 ↔ (k : Int) = 6))) k h2 h1, by decide +kernel, by decide +kernel, kA9 71 (by decide), by unfold Dg1; decide +kernel, by unfold Dg1; decide +kernel, fun _ => by decide +kernel, fun k hk => by
    have : exN 6 = 2 := rfl
    rcases (by omega : k = 0 ∨ k = 1) with rfl | rfl
    · exact kA9 77 (by decide)
    · exact kA9 67 (by decide)⟩
 · have hk : kdW exW2 = 8 := by decide +kernel
   show RdOk exW2 (kdW exW2); rw [hk]; exact ⟨.inr (.inr (.inl rfl)), by decide +kernel, fun k h1 h2 => (by decide +kernel : ∀ k : Nat, k ≤ 9 → (1 ≤ k → (wordsL.getD k bs0 = exW2.getD 0 bs0 ↔ (k : Int) = 8))) k h2 h1, by decide +kernel, by decide +kernel, kA9 67 (by decide), by unfold Dg1; decide +kernel, by unfold Dg1; decide +kernel, fun h => absurd rfl h, fun k hk => absurd hk (Nat.not_lt_zero _)⟩
 · have hk : kdW exW3 = 9 := by decide +kernel
   show RdOk exW3 (kdW exW3); rw [hk]; exact ⟨.inr (.inr (.inr rfl)), by decide +kernel, fun k h1 h2 => (by decide +kernel : ∀ k : Nat, k ≤ 9 → (1 ≤ k → (wordsL.getD k bs0 = exW3.getD 0 bs0 ↔ (k : Int) = 9))) k h2 h1, by decide +kernel, by decide +kernel, kA9 77 (by decide), by unfold Dg1; decide +kernel, by unfold Dg1; decide +kernel, fun h => absurd rfl h, fun k hk => absurd hk (Nat.not_lt_zero _)⟩
theorem kD2 : ∀ i, i < 4 → ∀ k, k < (exEx.getD i []).length → idxV (fun y : Nd => decide (y.1 = (exLn.getD i ln0).2.2.getD k bs0)) (exN' i k) = (exEx.getD i []).getD k 0 := by decide +kernel
theorem sD4 : ∀ i, i < 4 → (exLn.getD i ln0).2.2.length = (exEx.getD i []).length := by decide +kernel
theorem fD4 : ∀ i, i < 4 → ∀ k, k < (exEx.getD i []).length → (exN' i k).set i (((exN' i k).getD i nd0).1, ((exN' i k).getD i nd0).2.1, ((exN' i k).getD i nd0).2.2.1, ((exN' i k).getD i nd0).2.2.2.1, ((exN' i k).getD i nd0).2.2.2.2 ++ [(exEx.getD i []).getD k 0]) = exN' i (k + 1) := by decide +kernel
theorem sD6 : ∀ i, i < 4 → ∀ k, k < (exEx.getD i []).length → (((exN' i k).getD i nd0).2.2.2.2).length ≤ 3 := by decide +kernel
theorem gD7 : ∀ i, i < 4 → ∀ k, k < (exEx.getD i []).length → 0 ≤ (exEx.getD i []).getD k 0 ∧ (exEx.getD i []).getD k 0 < 4 := by decide +kernel
theorem sD5 : ∀ i, i < 4 → exN' i (exEx.getD i []).length = exN' (i + 1) 0 := by decide +kernel
theorem hD7 : exN' 4 0 = [(nmL 65, 1, 1, 0, [1]), (nmL 71, 6, 1, 0, [3, 2]), (nmL 67, 8, 0, 1, []), (nmL 77, 9, 0, 0, [])] := by decide +kernel
theorem nA4 : GoodL (exN' 4 0, []) := by
 rw [hD7]; refine ⟨by decide, by decide, ?_, by decide, ?_, ?_, rfl, ⟨by decide, fun d hd => (by simp at hd), List.nodup_nil⟩⟩
 · intro i hi; have hi : i < 4 := hi
   rcases (by omega : i = 0 ∨ i = 1 ∨ i = 2 ∨ i = 3) with rfl | rfl | rfl | rfl
   · refine ⟨by decide, by decide, by decide, by decide, by decide, by decide, ?_, ?_, by decide, by decide, ?_⟩
     · intro k e h
       rcases k with _ | k
       · obtain rfl : (1 : Int) = e := Option.some.inj h; exact .inr ⟨by decide, by decide, by decide⟩
       · simp at h
     · intro a b h; simp at h
     · intro k e h
       rcases k with _ | k
       · obtain rfl : (1 : Int) = e := Option.some.inj h
         decide
       · simp at h
   · refine ⟨by decide, by decide, by decide, by decide, by decide, by decide, ?_, ?_, by decide, by decide, ?_⟩
     · intro k e h
       rcases k with _ | _ | k
       · obtain rfl : (3 : Int) = e := Option.some.inj h; exact .inr ⟨by decide, by decide, by decide⟩
       · obtain rfl : (2 : Int) = e := Option.some.inj h; exact .inr ⟨by decide, by decide, by decide⟩
       · simp at h
     · intro a b h; have h : ([3, 2] : List Int) = [a, b] := h
       injection h with h1 h2
       injection h2 with h2 _
       omega
     · intro k e h
       rcases k with _ | _ | k
       · obtain rfl : (3 : Int) = e := Option.some.inj h
         decide
       · obtain rfl : (2 : Int) = e := Option.some.inj h
         decide
       · simp at h
   · exact ⟨by decide, by decide, by decide, by decide, by decide, by decide, fun k e h => by simp at h, fun a b h => by simp at h, by decide, by decide, fun k e h => by simp at h⟩
   · exact ⟨by decide, by decide, by decide, by decide, by decide, by decide, fun k e h => by simp at h, fun a b h => by simp at h, by decide, by decide, fun k e h => by simp at h⟩
 · intro i hi; have hi : i < 4 := hi
   rcases (by omega : i = 0 ∨ i = 1 ∨ i = 2 ∨ i = 3) with rfl | rfl | rfl | rfl
   · exact ⟨65, by decide, by decide, eB5 _ (by decide)⟩
   · exact ⟨71, by decide, by decide, eB5 _ (by decide)⟩
   · exact ⟨67, by decide, by decide, eB5 _ (by decide)⟩
   · exact ⟨77, by decide, by decide, eB5 _ (by decide)⟩
 · exact fun i j hi hj => (by decide +kernel : ∀ i, i < 4 → ∀ j, j < 4 → (([(nmL 65, 1, 1, 0, [1]), (nmL 71, 6, 1, 0, [3, 2]), (nmL 67, 8, 0, 1, []), (nmL 77, 9, 0, 0, [])] : List Nd).getD i nd0).1 = (([(nmL 65, 1, 1, 0, [1]), (nmL 71, 6, 1, 0, [3, 2]), (nmL 67, 8, 0, 1, []), (nmL 77, 9, 0, 0, [])] : List Nd).getD j nd0).1 → i = j) i hi j hj
def con28 : Con := { ps := [.d false .str], rs := [.d true yLY, .d false yI, .d false yI], pre := fun (x : ByteArray × Unit) => x.1 = exT, out := fun _ => (exLy, 0, 0, ()), nw := id }
theorem c28 : CtrG gvs Tryz.prog 28 con28.ctr :=
 yA4 (G := ⟨[(57, con57.ctr), (58, con58.ctr), (59, con59.ctr), (51, con51.ctr)], [], [], [], gvs⟩) eA0 (EnvG.cons c57.g has57 (EnvG.cons c58 has58 (EnvG.cons c59.g has59 (EnvG.cons c51.g has51 EnvG.nil)))) rfl Tryz.func28 rfl con28 91343852503987270450680025140626748208306257917 (by kernel_rfl) (by decide) (by decide) rfl (by decide) rfl (by
  rintro ⟨s, _⟩ hpre hwf X hT hG hk hK; have hs : s = exT := hpre
  (simp -implicitDefEqProofs (maxSteps := 4000000) only [go_sem, bP, con28, con57, con58, con59, con51, hT, hG, hk, hK, Tryz.results28, gvs] at hwf ⊢); (try simp (disch := decide +kernel) only [drawn, true_and, and_true])
  clear hwf; have hsp : spV s 10 = exTL ++ [bs0] := by rw [hs]; exact nD6
  have hsz : s.size ≤ 5000 ∧ s.size ≤ 4096 := by rw [hs]; decide
  simp only [hsp]; have el : (((exTL ++ [bs0]).length : Nat) : Int) = 5 := rfl; simp only [el]; refine fun _ => ⟨fun h => absurd h (by omega), fun _ => ⟨hsz.1, fun _ _ => ⟨by omega, by omega, fun _ _ _ => ⟨by omega, by omega, ?_⟩⟩⟩⟩; have ell : exTL.length = 4 := rfl; have eln : exLn.length = 4 := rfl; refine cA0 ⟨{ i : Nat // i ≤ 4 }, 1000, fun i => [(0, .one (.str s)), (2, .one (.loc 64 0)), (3, .one (.int .i64 0)), (4, .one (.int .i64 0)), (5, .one (.sl .str exTL false)), (6, .one (.str bs0)), (7, .one (.row 71)), (8, .one (.loc 72 0)), (9, .one (.int .i64 (i.1 : Int)))], fun i => [(64, .cells 30 [.row 65, .row 66]), (65, .row 56 yNO []), (66, .row 111 yPL []), (71, .row 113 yLN (exLn.take i.1)), (72, .cells 30 [.row 73, .row 74]), (73, .row 56 yNO ((exN' 0 0).take i.1)), (74, .row 111 yPL [])], fun i => 4 - i.1⟩ ⟨0, Nat.zero_le _⟩ ?_ ?_
  · simp only [go_sem]; exact ⟨rfl, rfl, rfl⟩
  · rintro ⟨i, (hi : i ≤ 4)⟩
    (simp -implicitDefEqProofs (maxSteps := 4000000) only [go_sem, bP, con28, con57, con58, con59, con51, hT, hG, hk, hK, Tryz.results28, gvs]); (try simp (disch := decide +kernel) only [drawn, true_and, and_true])
    simp only [ell, Int.toNat_natCast]; refine fun _ => ⟨fun hlt => ?_, fun hge => ?_⟩
    · have hi4 : i < 4 := by omega
      have ed : exTL.getD i ByteArray.empty = exTL.getD i bs0 := rfl; have h5 : (exTL.getD i bs0).size ≤ 5000 := (by decide +kernel : ∀ i, i < 4 → (exTL.getD i bs0).size ≤ 5000) i hi4; have hr := pD6 i hi4; have hln := uD6 i hi4; have hk0 : (exLn.getD i ln0).1.2.1 ≠ 0 := (by decide +kernel : ∀ i, i < 4 → (exLn.getD i ln0).1.2.1 ≠ 0) i hi4; have ht : exLn.take (i + 1) = exLn.take i ++ [exLn.getD i ln0] := (by decide +kernel : ∀ i, i < 4 → exLn.take (i + 1) = exLn.take i ++ [exLn.getD i ln0]) i hi4; have ht2 : (exN' 0 0).take (i + 1) = (exN' 0 0).take i ++ [(exLn.getD i ln0).1] := (by decide +kernel : ∀ i, i < 4 → (exN' 0 0).take (i + 1) = (exN' 0 0).take i ++ [(exLn.getD i ln0).1]) i hi4; have hl1 : (exLn.take i).length = i := by rw [List.length_take, eln]; omega
      have hl2 : ((exN' 0 0).take i).length = i := by rw [List.length_take, show (exN' 0 0).length = 4 from rfl]; omega
      simp only [ed, mD7 i hi4, hln, hl1, hl2]; generalize exLn.getD i ln0 = ln at *; refine ⟨by omega, fun _ _ => ⟨⟨h5, hr⟩, fun _ _ => ⟨fun h => absurd h.2 (by decide), fun _ => ⟨by omega, fun _ => ⟨by omega, by omega, ?_⟩, fun h => absurd h hk0⟩⟩⟩⟩; refine dA0 ⟨i + 1, by omega⟩ ?_ (by dsimp only; omega); simp only [go_sem]; rw [ht, ht2]
      try first | rfl | (and_intros <;> first | trivial | rfl | omega)
    · obtain rfl : i = 4 := by omega
      have hz1 : exLn.take 4 = exLn := rfl; have hz2 : (exN' 0 0).take 4 = exN' 0 0 := rfl; simp only [hz1, hz2]; refine ⟨fun h => absurd rfl h, fun _ => ?_⟩; refine cA0 ⟨{ i : Nat // i ≤ 4 }, 2000, fun i => [(2, .one (.loc 64 0)), (3, .one (.int .i64 0)), (4, .one (.int .i64 0)), (7, .one (.row 71)), (8, .one (.loc 72 0)), (12, .one (.int .i64 (i.1 : Int)))], fun i => [(64, .cells 30 [.row 65, .row 66]), (65, .row 56 yNO []), (66, .row 111 yPL []), (71, .row 113 yLN exLn), (72, .cells 30 [.row 73, .row 74]), (73, .row 56 yNO (exN' i.1 0)), (74, .row 111 yPL [])], fun i => 4 - i.1⟩ ⟨0, Nat.zero_le _⟩ ?_ ?_
      · simp only [go_sem]; rfl
      · rintro ⟨i, (hi : i ≤ 4)⟩
        (simp -implicitDefEqProofs (maxSteps := 4000000) only [go_sem, bP, con28, con57, con58, con59, con51, hT, hG, hk, hK, Tryz.results28, gvs]); (try simp (disch := decide +kernel) only [drawn, true_and, and_true])
        simp only [eln, Int.toNat_natCast]; refine fun _ => ⟨fun hlt => ?_, fun hge => ?_⟩
        · have hi4 : i < 4 := by omega
          refine cA0 ⟨{ k : Nat // k ≤ (exEx.getD i []).length }, 3000, fun k => [(2, .one (.loc 64 0)), (3, .one (.int .i64 0)), (4, .one (.int .i64 0)), (7, .one (.row 71)), (8, .one (.loc 72 0)), (12, .one (.int .i64 (i : Int))), (13, .one (.int .i64 (k.1 : Int)))], fun k => [(64, .cells 30 [.row 65, .row 66]), (65, .row 56 yNO []), (66, .row 111 yPL []), (71, .row 113 yLN exLn), (72, .cells 30 [.row 73, .row 74]), (73, .row 56 yNO (exN' i k.1)), (74, .row 111 yPL [])], fun k => (exEx.getD i []).length - k.1⟩ ⟨0, Nat.zero_le _⟩ ?_ ?_
          · simp only [go_sem]; rfl
          · rintro ⟨k, (hkk : k ≤ (exEx.getD i []).length)⟩
            (simp -implicitDefEqProofs (maxSteps := 4000000) only [go_sem, bP, con28, con57, con58, con59, con51, hT, hG, hk, hK, Tryz.results28, gvs]); (try simp (disch := decide +kernel) only [drawn, true_and, and_true])
            simp only [eln, Int.toNat_natCast]; have ed : exLn.getD i ((ByteArray.empty, 0, 0, 0, []), (0, 0, 0), []) = exLn.getD i ln0 := rfl; have ed2 : (exN' i k).getD i (ByteArray.empty, 0, 0, 0, []) = (exN' i k).getD i nd0 := rfl; have eb : ((exLn.getD i ln0).2.2).getD k ByteArray.empty = ((exLn.getD i ln0).2.2).getD k bs0 := rfl; have enl : (exN' i k).length = 4 := by unfold exN'; rw [List.length_map, List.length_range]
            have hll := sD4 i hi4; simp only [ed, ed2, enl]; simp only [hll, eb]; refine ⟨by omega, fun _ => ⟨by omega, fun _ _ => ⟨fun hlt2 => ?_, fun hge2 => ?_⟩⟩⟩
            · have hk4 : k < (exEx.getD i []).length := by omega
              have hf := kD2 i hi4 k hk4; have hx := fD4 i hi4 k hk4; have hxl := sD6 i hi4 k hk4; have he0 := gD7 i hi4 k hk4; simp only [hf]; generalize (exEx.getD i []).getD k 0 = e at *; refine ⟨by omega, fun _ => ⟨by omega, fun _ => ⟨by omega, fun _ _ _ => ⟨fun h => absurd h (by omega), fun _ _ => ⟨fun _ => ⟨by omega, fun _ => ⟨by omega, fun _ => ⟨by omega, by omega, by omega, fun _ => ⟨by omega, by omega, ?_⟩⟩⟩⟩, fun h => absurd h (by omega)⟩⟩⟩⟩⟩; refine dA0 ⟨k + 1, by omega⟩ ?_ (by dsimp only; omega); simp only [go_sem]; rw [← hx]
              try first | rfl | (and_intros <;> first | trivial | rfl | omega)
            · have : k = (exEx.getD i []).length := by omega
              subst this; refine ⟨by omega, ?_⟩; refine dA0 ⟨i + 1, by omega⟩ ?_ (by dsimp only; omega); simp only [go_sem]; rw [sD5 i hi4]
              try first | rfl | (and_intros <;> first | trivial | rfl | omega)
        · obtain rfl : i = 4 := by omega
          exact ⟨nA4, fun _ => ⟨fun h => h.elim, rfl, rfl⟩⟩)
def exB0 : Be := newB (exN' 4 0) 0
def exB1 : Be := (ebB exB0 1).1
def exB2 : Be := (stepB (exN' 4 0) [0, 0, 0, 0] exB1).1
theorem oD6 : (ebB exB0 1).2 = 0 := by decide +kernel
theorem kD6 : (stepB (exN' 4 0) [0, 0, 0, 0] exB1).2 = 0 := by decide +kernel
theorem hD4 : exB2.2.length ≤ 1000000 := by decide +kernel
theorem lD6 : decL (exN' 4 0) exB2.2 [2] [true] [] [] 4 = [0, 1, 0, 0] := by decide +kernel
theorem vD6 : decL (exN' 4 0) exB2.2 [2] [false] [] [] 4 = [0, 0, 0, 0] := by decide +kernel
theorem bD5 : CmdOk (exN' 4 0) [0, 0, 0, 0] := ⟨rfl, (by decide +kernel : ∀ i, i < 4 → cmdOk ((exN' 4 0).getD i nd0) (([0, 0, 0, 0] : List Int).getD i 0) = true)⟩
def con7 : Con := { ps := [], rs := [.d false .bool], pre := fun _ => True, out := fun _ => (true, ()), nw := id }
theorem c7 : CtrG gvs Tryz.prog 7 con7.ctr :=
 yA4 (G := ⟨[(28, con28.ctr), (21, con21.ctr), (22, con22.ctr), (25, con25.ctr), (14, con14.ctr), (13, con13.ctr)], [], [], [], gvs⟩) eA0 (EnvG.cons c28 has28 (EnvG.cons c21.g has21 (EnvG.cons c22.g has22 (EnvG.cons c25.g has25 (EnvG.cons c14.g has14 (EnvG.cons c13.g has13 EnvG.nil)))))) rfl Tryz.func7 rfl con7 1019 (by kernel_rfl) (by decide) (by decide) rfl (by decide) rfl (by
  rintro _ hpre hwf X hT hG hk hK
  (simp -implicitDefEqProofs (maxSteps := 4000000) only [go_sem, bP, con7, con28, con21, con22, con25, con14, con13, hT, hG, hk, hK, Tryz.results7, gvs] at hwf ⊢)
  clear hwf; have eL : exLy.1 = exN' 4 0 := rfl; have e4 : (exN' 4 0).length = 4 := rfl; simp only [eL]; have hb0 : BeOk (exN' 4 0) 0 exB0 := bC5 nA4 (by decide) (by decide); have hb1 : BeOk (exN' 4 0) 0 exB1 := gD4 nA4 hb0 1; have r0 : newB (exN' 4 0) 0 = exB0 := rfl; have r1 : (ebB exB0 1).1 = exB1 := rfl; have r2 : (stepB (exN' 4 0) [0, 0, 0, 0] exB1).1 = exB2 := rfl; simp only [r0]; simp only [r1, oD6]; simp only [r2, kD6, e4, lD6, vD6]; refine ⟨rfl, fun _ => ⟨⟨nA4, by decide, by decide⟩, fun _ => ⟨⟨nA4, hb0.mono (Nat.zero_le _), by decide, by decide⟩, fun _ => ⟨⟨nA4, hb1.mono (Nat.zero_le _), bD5⟩, fun _ => ?_⟩⟩⟩⟩; exact ⟨⟨nA4, hD4⟩, fun _ => ⟨⟨nA4, hD4⟩, fun _ => ⟨⟨⟨trivial, trivial⟩, trivial⟩, trivial⟩⟩⟩)
theorem sC2 (ns : List Nd) (br : List Bool) (n tg : Int) : extV ns br n tg < ((ns.getD n.toNat nd0).2.2.2.2).length ∨ extV ns br n tg = -1 := by
 unfold extV; split
 · unfold idxV; split
   · left; omega
   · right; rfl
 · right; rfl
theorem wC7 {ns : List Nd} {l : List Hy} {n : Nat} {v : Int} {ts : List Int} {cl rs br : List Bool} (he : ((ns.getD n nd0).2.2.2.2).length = exN (ns.getD n nd0).2.1) (hA : atS l n l.length = [v]) (hv : ¬ v = 0) :
 (((ns.getD n nd0).2.2.2.2).length = 2 → cmdV ns l n ts cl rs br = refW ns n v ts cl br) ∧ ((ns.getD n nd0).2.1 = 3 → (cmdV ns l n ts cl rs br = 0 ↔ isV rs v = true)) := by
 have enn : (n : Int).toNat = n := Int.toNat_natCast n; have ho : othF [v] 0 = [v] := by unfold othF; simp [hv]
 have hc : cmdV ns l n ts cl rs br = decC (ns.getD n nd0).2.1 [v] (fun b => wntV ns n b ts cl br) (isV rs) := by unfold cmdV; rw [enn, hA, ho]
 rw [hc]; refine ⟨fun h2 => ?_, fun h3 => ?_⟩
 · unfold decC; rw [if_pos (by rw [← he]; exact h2)]
   cases hw : wntV ns n v ts cl br with
   | true =>
     rw [if_pos ⟨by simp, by simp [hw]⟩]; unfold wntV at hw
     exact (of_decide_eq_true hw).symm
   | false =>
     rw [if_neg (by simp [hw])]; have hne : ¬ refW ns n v ts cl br = 1 := of_decide_eq_false hw; have hbd := sC2 ns br n (ts.getD (v - 1).toNat 0); rw [enn, h2] at hbd; unfold refW at hne ⊢; split
     · rfl
     · rename_i q; rw [if_neg q] at hne; split
       · rfl
       · rename_i q2; rw [if_neg q2] at hne; omega
 · unfold decC; rw [if_neg (by rw [h3]; decide)]
   cases hi : isV rs v with
   | true => rw [if_neg (by simp [hi])]; simp
   | false => rw [if_pos ⟨h3, by simp [hi]⟩]; simp
def lnV (ns : List Nd) (k : Nat) : Nat := (ns.getD k nd0).2.2.1.toNat
def oneW (L w : Nat) : List Int := (List.replicate L 0).set w 1
def sP (ns : List Nd) (n w : Nat) : Pl := ((p0V ns).1.set n (oneW (lnV ns n) w), (p0V ns).2)
def bnP (ns : List Nd) (m : Nat) : Pl := ((p0V ns).1, (p0V ns).2.set m [1])
theorem aA2 (L w : Nat) : (oneW L w).length = L := by simp [oneW]
theorem mA1 {L w k : Nat} (hk : k < L) : (oneW L w).getD k 0 = if k = w then 1 else 0 := by
 unfold oneW; by_cases e : k = w
 · subst e; rw [if_pos rfl]; simp [hk]
 · rw [if_neg e, getD_set_ne e]; simp [hk]
theorem cA4 {L k : Nat} : (List.replicate L (0 : Int)).getD k 0 = 0 := by
 by_cases h : k < L
 · simp [h]
 · rw [gdE, List.getElem?_eq_none (by simp; omega)]; rfl
theorem tC5 {ns : List Nd} {k : Nat} (hk : k < ns.length) : (p0V ns).1.getD k [] = List.replicate (lnV ns k) 0 := by
 unfold p0V lnV; simp [hk]
theorem gD6 {ns : List Nd} {k : Nat} : (p0V ns).2.getD k [] = [] := by
 unfold p0V; by_cases h : k < ns.length
 · simp [h]
 · rw [gdE, List.getElem?_eq_none (by simp; omega)]; rfl
theorem nB1 (ns : List Nd) : (p0V ns).1.length = ns.length := by simp [p0V]
theorem tB5 (ns : List Nd) : (p0V ns).2.length = ns.length := by simp [p0V]
theorem sB0 {ns : List Nd} {n w k : Nat} (hk : k < ns.length) : (sP ns n w).1.getD k [] = if k = n then oneW (lnV ns n) w else List.replicate (lnV ns k) 0 := by
 unfold sP; by_cases e : k = n
 · subst e; rw [if_pos rfl]; simp [nB1, hk]
 · rw [if_neg e, getD_set_ne e]; exact tC5 hk
theorem wD6 {ns : List Nd} {m k : Nat} (hm : m < ns.length) : (bnP ns m).2.getD k [] = if k = m then [1] else [] := by
 unfold bnP; by_cases e : k = m
 · subst e; rw [if_pos rfl]; simp [tB5, hm]
 · rw [if_neg e, getD_set_ne e]; exact gD6
theorem flt0 (ns : List Nd) (n k : Int) : fltAt (atV ns [] n) k = 0 := by
 unfold fltAt; split
 · show (List.replicate _ (0 : Int)).getD _ 0 = 0; exact cA4
 · rfl
theorem jB4 {s f : List Int} {o : Bool} (h : ∀ k, k < s.length → s.getD k 0 = 0) : ∀ k, k ≤ s.length → advI s f o k = (List.replicate s.length 0, 0)
 | 0, _ => rfl
 | k + 1, hk => by rw [xB8 (h k (by omega))]; exact jB4 h k (by omega)
theorem tA3 {s f : List Int} {o : Bool} (h : ∀ k, k < s.length → s.getD k 0 = 0) : advV s f o = (List.replicate s.length 0, 0) := jB4 h _ (Nat.le_refl _)
theorem tB0 {L w : Nat} {f : List Int} {o : Bool} : ∀ k, k ≤ w → k ≤ L → advI (oneW L w) f o k = (List.replicate L 0, 0)
 | 0, _, _ => by show (List.replicate (oneW L w).length 0, (0 : Int)) = _; rw [aA2]
 | k + 1, h, hL => by
   rw [xB8 (by rw [mA1 (by omega), if_neg (by omega)])]; exact tB0 k (by omega) (by omega)
theorem wC1 {L w : Nat} {f : List Int} {o : Bool} (hw : w < L) : ∀ d, w + 1 + d ≤ L → advI (oneW L w) f o (w + 1 + d) = advI (oneW L w) f o (w + 1)
 | 0, _ => rfl
 | d + 1, h => by
   rw [show w + 1 + (d + 1) = (w + 1 + d) + 1 by omega, xB8 (by rw [mA1 (by omega), if_neg (by omega)])]; exact wC1 hw d (by omega)
theorem pB8 {L w : Nat} {f : List Int} {o : Bool} (hf : ∀ k, fltAt f k = 0) (hw : w + 1 < L) : advV (oneW L w) f o = (oneW L (w + 1), 0) := by
 unfold advV; rw [aA2, show L = w + 1 + (L - (w + 1)) by omega, wC1 (by omega) _ (by omega), ← show L = w + 1 + (L - (w + 1)) by omega]; rw [uC9 (by rw [mA1 (by omega), if_pos rfl]; decide) (by rw [aA2]; omega), tB0 w (Nat.le_refl _) (by omega), mA1 (by omega), if_pos rfl]; have ht : tgtV (oneW L w) f w = (w : Int) + 1 := by
  unfold tgtV; rw [hf, show ((w : Int) + 1).toNat = w + 1 by omega, mA1 (by omega), if_neg (by omega), if_neg (by omega)]
 rw [ht, show ((w : Int) + 1).toNat = w + 1 by omega]; rfl
theorem eB7 {L w : Nat} {f : List Int} {o : Bool} (hf : ∀ k, fltAt f k = 0) (hw : w + 1 = L) : advV (oneW L w) f o = if o = true then (List.replicate L 0, 1) else (oneW L w, 0) := by
 unfold advV; rw [aA2, ← hw]
 cases o with
 | true =>
   rw [dC9 (by rw [mA1 (by omega), if_pos rfl]; decide) (by rw [aA2]; omega) ⟨rfl, by rw [hf]; decide⟩, tB0 w (Nat.le_refl _) (by omega), mA1 (by omega), if_pos rfl, if_pos rfl]
 | false =>
   rw [gC9 (by rw [mA1 (by omega), if_pos rfl]; decide) (by rw [aA2]; omega) (.inl rfl), tB0 w (Nat.le_refl _) (by omega), mA1 (by omega), if_pos rfl, if_neg (by decide)]; rfl
theorem dB2 {go : Nat → Bool} {w : Nat → Int} {st : Bool} {n : Nat} : ∀ (d k : Nat) (s : Fl), (∀ j, k ≤ j → j < k + d → go j = false) → flR go w st n d k s = s
 | 0, _, _, _ => rfl
 | d + 1, k, s, h => by
   unfold flR; rw [if_neg (by rw [h k (Nat.le_refl _) (by omega)]; decide)]; exact dB2 d (k + 1) s fun j h1 h2 => h j (by omega) (by omega)
theorem wB2 {ns : List Nd} {p : Pl} {c : List Int} {f : List Dv} {i : Nat} {s : Fl} (h1 : flS ns p c f i s.1 = s.1) (h2 : ∀ j, j < ns.length → goV ns p c f i j = false) : flN ns p c f i s = s := by
 unfold flN; rw [h1]; split
 · exact dB2 _ _ _ fun j _ hj => h2 j (by omega)
 · rfl
theorem uB4 {ns : List Nd} {p : Pl} {c : List Int} {f : List Dv} (h : ∀ k, k < ns.length → lastV ns p c f k = 0) : (flowV ns p c f).1 = List.replicate ns.length (-1) := by
 have key : ∀ j, j ≤ ns.length → ∀ s, flO ns p c f j s = s := by
  intro j
  induction j with
  | zero => intro _ s; rfl
  | succ j ih =>
    intro hj s; unfold flO; rw [wB2]
    · exact ih (by omega) s
    · unfold flS; rw [if_neg (fun q => q.1.1.2 (h j (by omega)))]
    · intro k hk; unfold goV; rw [h k hk]; simp
 unfold flowV; rw [key _ (Nat.le_refl _)]
theorem kC1 {go : Nat → Bool} {w : Nat → Int} {st : Bool} {n i : Nat} : ∀ (d k : Nat) (s : Fl), k ≤ i → i < k + d → (∀ j, j ≠ i → go j = false) → go i = true → (flR go w st n d k s).1 = s.1.set i (w i)
 | 0, k, s, h1, h2, _, _ => by omega
 | d + 1, k, s, h1, h2, h3, h4 => by
   unfold flR; by_cases e : k = i
   · subst e; rw [if_pos h4]; split
     · rfl
     · rw [dB2]; intro j hj _; exact h3 j (by omega)
   · rw [if_neg (by rw [h3 k e]; decide)]; exact kC1 d (k + 1) s (by omega) (by omega) h3 h4
theorem bC7 {ns : List Nd} {p : Pl} {c : List Int} {f : List Dv} {n m : Nat} (hn : n < ns.length) (hm : m < ns.length) (h : ∀ k, k ≠ n → lastV ns p c f k = 0) (hl : lastV ns p c f n ≠ 0)
 (ht : ((ns.getD n nd0).2.2.2.2).getD (wanV ns c n).toNat 0 = m) (hw0 : 0 ≤ wanV ns c n)
 (hs : (m = n ∧ (ns.getD n nd0).2.1 = 5 ∧ wanV ns c n = 0 ∧ (p.1.getD n []).getD 0 0 = 0) ∨ (n < m ∧ entV ns p m = true)) :
 (flowV ns p c f).1 = (List.replicate ns.length (-1)).set n (wanV ns c n) := by
 have hgo : ∀ i, goV ns p c f i n = (decide (n ≠ i) && decide (m = i)) := by
  intro i; unfold goV; rw [ht]; by_cases e : m = i
  · subst e; simp [hl]
  · have : ¬ (m : Int) = i := by omega
    simp [hl, e, this]
 have hgz : ∀ i k, k ≠ n → goV ns p c f i k = false := by
  intro i k hk; unfold goV; rw [h k hk]; simp
 have after : ∀ j, ∀ s : Fl, (∀ i, i < j → i = m → i = n) → s.1.getD n 0 ≠ -1 → (flO ns p c f j s).1 = s.1 := by
  intro j
  induction j with
  | zero => intro s _ _; rfl
  | succ j ih =>
    intro s hj hne; unfold flO; have e1 : flN ns p c f j s = s := by
     refine wB2 ?_ ?_
     · unfold flS; by_cases e : j = n
       · subst e; rw [if_neg (fun q => hne q.1.2)]
       · rw [if_neg (fun q => q.1.1.2 (h j e))]
     · intro k hk; by_cases e : k = n
       · subst e; rw [hgo]; by_cases q : m = j
         · have := hj j (by omega) q.symm; simp [this]
         · simp [q]
       · exact hgz _ _ e
    rw [e1]; exact ih s (fun i hi => hj i (by omega)) hne
 have hrep : ∀ k, k < ns.length → (List.replicate ns.length (-1 : Int)).getD k 0 = -1 := fun k hk => by simp [hk]
 have hset : ((List.replicate ns.length (-1 : Int)).set n (wanV ns c n)).getD n 0 ≠ -1 := by
  rw [show ((List.replicate ns.length (-1 : Int)).set n (wanV ns c n)).getD n 0 = wanV ns c n by simp [hn]]; omega
 have main : ∀ j, m < j → j ≤ ns.length → ∀ s : Fl, s.1 = List.replicate ns.length (-1) → (flO ns p c f j s).1 = (List.replicate ns.length (-1)).set n (wanV ns c n) := by
  intro j
  induction j with
  | zero => intro hj; omega
  | succ j ih =>
    intro hj hjN s hs1; unfold flO; by_cases e : j = m
    · subst e; have e1 : (flN ns p c f j s).1 = (List.replicate ns.length (-1)).set n (wanV ns c n) := by
       rcases hs with ⟨rfl, h5, hw, h0⟩ | ⟨hlt, hen⟩
       · unfold flN; have e2 : flS ns p c f j s.1 = s.1.set j 0 := by
          unfold flS; rw [if_pos ⟨⟨⟨h5, hl⟩, by rw [hs1]; exact hrep j hn⟩, h0⟩]
         have e3 : flB ns j (flS ns p c f j s.1) = true := by
          unfold flB; rw [e2, hs1, Bool.and_eq_true]; exact ⟨decide_eq_true h5, decide_eq_true (by simp [hn])⟩
         rw [e3, Bool.not_true, Bool.and_false, if_neg (by decide), e2, hs1, hw]
       · unfold flN; have e2 : flS ns p c f j s.1 = s.1 := by
          unfold flS; rw [if_neg (fun q => q.1.1.2 (h j (by omega)))]
         have e3 : flB ns j (flS ns p c f j s.1) = false := by
          unfold flB; rw [e2, hs1, hrep j (by omega)]; simp
         rw [e3, hen]; rw [if_pos (show (true && !false) = true from rfl), e2, kC1 ns.length 0 (s.1, s.2) (Nat.zero_le _) (by omega) (fun k hk => hgz j k hk) (by rw [hgo]; simp; omega), hs1]
      rw [after j _ (fun i hi e => by omega) (by rw [e1]; exact hset), e1]
    · have e1 : flN ns p c f j s = s := by
       have hjn : j ≠ n := by rcases hs with ⟨q, _⟩ | ⟨q, _⟩ <;> omega
       refine wB2 ?_ ?_
       · unfold flS; rw [if_neg (fun q => q.1.1.2 (h j hjn))]
       · intro k hk; by_cases q : k = n
         · subst q; rw [hgo]; simp; omega
         · exact hgz _ _ q
      rw [e1]; exact ih (by omega) (by omega) s hs1
 unfold flowV; exact main _ hm (Nat.le_refl _) _ rfl
theorem eA7 {ns : List Nd} {fl : Fl} {L : Nat → Int} {s : St2} : ∀ j, (∀ k, k < j → L k = 0) → stI ns fl L s j = s
 | 0, _ => rfl
 | j + 1, h => by
   unfold stI st2; rw [if_pos (h j (by omega))]; exact eA7 j fun k hk => h k (by omega)
theorem nC4 {ns : List Nd} {fl : Fl} {L : Nat → Int} {s : St2} {n : Nat} : ∀ j, n < j → (∀ k, k < j → k ≠ n → L k = 0) → stI ns fl L s j = st2 ns fl L s n
 | 0, h, _ => by omega
 | j + 1, h, hz => by
   unfold stI; by_cases e : j = n
   · subst e; rw [eA7 j fun k hk => hz k (by omega) (by omega)]
   · rw [nC4 j (by omega) fun k hk => hz k (by omega)]; rw [st2.eq_def ns fl L _ j, if_pos (hz j (by omega) e)]
theorem nD3 {ns : List Nd} {k : Nat} (h : ¬ k < ns.length) : ns.getD k nd0 = nd0 := by
 rw [gdE, List.getElem?_eq_none (by omega)]; rfl
theorem fC4 {ns : List Nd} {c : List Int} (hc : ∀ k, k < ns.length → strN (ns.getD k nd0).2.1 = false → c.getD k 0 = 0) {n w : Nat} (hn : n < ns.length) (hs : strN (ns.getD n nd0).2.1 = true) (hw : w < lnV ns n) (k : Nat) :
 lastV ns (sP ns n w) c [] k = if k = n ∧ w + 1 = lnV ns n ∧ c.getD n 0 ≠ -1 then 1 else 0 := by
 have ekk : (k : Int).toNat = k := Int.toNat_natCast k; obtain ⟨R, hR⟩ : ∃ R : Int, (if k = n ∧ w + 1 = lnV ns n ∧ c.getD n 0 ≠ -1 then 1 else 0) = R := ⟨_, rfl⟩; rw [hR]; have hR0 : k ≠ n → R = 0 := fun e => by rw [← hR, if_neg (fun q => e q.1)]
 unfold lastV; rw [ekk]; by_cases h7 : (ns.getD k nd0).2.1 = 7
 · rw [if_pos h7]; have hkn : k ≠ n := fun e => by subst e; rw [h7] at hs; revert hs; decide
   rw [hR0 hkn]; have e2 : (sP ns n w).2.getD k [] = [] := gD6; rw [e2]; rfl
 · rw [if_neg h7]; by_cases hk : k < ns.length
   · by_cases e : k = n
     · subst e; have hfl : (atV ns [] (k : Int)).getD ((ns.getD k nd0).2.2.1 - 1).toNat 0 = 0 := by show (List.replicate _ (0 : Int)).getD _ 0 = 0; exact cA4
       rw [hfl, hs, sB0 hn, if_pos rfl]; have el : ((ns.getD k nd0).2.2.1 - 1).toNat = lnV ns k - 1 := by unfold lnV; omega
       by_cases hm : c.getD k 0 = -1
       · rw [if_pos (.inr (.inl hm)), ← hR, if_neg (fun q => q.2.2 hm)]
       · rw [if_neg (fun q => by
          rcases q with q | q | q
          · cases q
          · exact hm q
          · omega), el, mA1 (by omega)]
         by_cases hwl : w + 1 = lnV ns k
         · rw [if_pos (by omega), ← hR, if_pos ⟨rfl, hwl, hm⟩]
         · rw [if_neg (by omega), ← hR, if_neg (fun q => hwl q.2.1)]
     · rw [hR0 e]; split
       · rfl
       · rw [sB0 hk, if_neg e]; exact cA4
   · rw [hR0 (fun q => hk (by omega)), if_pos (.inl (by rw [nD3 hk]; rfl))]
theorem zD4 {ns : List Nd} {c : List Int} (hc : ∀ k, k < ns.length → strN (ns.getD k nd0).2.1 = false → c.getD k 0 = 0) {m : Nat} (hm : m < ns.length) (k : Nat) (hk : k < ns.length) :
 lastV ns (bnP ns m) c [] k = 0 := by
 have ekk : (k : Int).toNat = k := Int.toNat_natCast k; unfold lastV; rw [ekk]; by_cases h7 : (ns.getD k nd0).2.1 = 7
 · rw [if_pos h7, hc k hk (by rw [h7]; rfl), wD6 hm]; by_cases e : k = m <;> simp [e]
 · rw [if_neg h7]; split
   · rfl
   · have : (bnP ns m).1.getD k [] = List.replicate (lnV ns k) 0 := tC5 hk; rw [this]; exact cA4
theorem lA6 {ns : List Nd} {α : Type} {g : Nat → α} {l : List α} {z : α} (hl : l.length = ns.length) (h : ∀ k, k < ns.length → g k = l.getD k z) : (List.range ns.length).map g = l := by
 apply List.ext_getElem (by simp [hl]); intro i h1 h2; simp at h1; rw [List.getElem_map, List.getElem_range, h i h1]; simp [hl, h1]
theorem aB8 {ns : List Nd} {c : List Int} (hc : ∀ k, k < ns.length → strN (ns.getD k nd0).2.1 = false → c.getD k 0 = 0) {m : Nat} (hm : m < ns.length) : plantV ns (bnP ns m) c [] = bnP ns m := by
 have hF := uB4 (f := []) (zD4 hc hm); unfold plantV stepV stepF; have hFk : ∀ k, k < ns.length → ¬ 0 ≤ (flowV ns (bnP ns m) c []).1.getD k 0 := fun k hk => by rw [hF]; simp [hk]
 have hz : ∀ k, k < ns.length → ∀ j, j < ((bnP ns m).1.getD k []).length → ((bnP ns m).1.getD k []).getD j 0 = 0 := fun k hk j _ => by
  have : (bnP ns m).1.getD k [] = List.replicate (lnV ns k) 0 := tC5 hk; rw [this]; exact cA4
 rw [eA7]
 · refine Prod.ext ?_ ?_
   · show (List.range ns.length).map (sl1 ns (bnP ns m) [] (flowV ns (bnP ns m) c [])) = (p0V ns).1; refine lA6 (z := []) (nB1 ns) fun k hk => ?_; unfold sl1; split
     · rw [tA3 (hz k hk)]; have : (bnP ns m).1.getD k [] = List.replicate (lnV ns k) 0 := tC5 hk; rw [this, List.length_replicate, tC5 hk]
     · rfl
   · show (List.range ns.length).map (bn1 ns (bnP ns m) c (flowV ns (bnP ns m) c [])) = (p0V ns).2.set m [1]; refine lA6 (z := []) (by rw [List.length_set, tB5]) fun k hk => ?_; unfold bn1; rw [if_neg (fun q => hFk k hk q.2)]; rfl
 · intro k hk; unfold leftV; split
   · rw [tA3 (hz k hk)]
   · rw [if_neg (hFk k hk)]
theorem uB7 {ns : List Nd} {c : List Int} (hc : ∀ k, k < ns.length → strN (ns.getD k nd0).2.1 = false → c.getD k 0 = 0) {n w : Nat} (hn : n < ns.length) (hs : strN (ns.getD n nd0).2.1 = true) (hw : w + 1 < lnV ns n) : plantV ns (sP ns n w) c [] = sP ns n (w + 1) := by
 have hF := uB4 (f := []) (c := c) (p := sP ns n w) (fun k _ => by rw [fC4 hc hn hs (by omega), if_neg (by omega)]); unfold plantV stepV stepF; have hFk : ∀ k, k < ns.length → ¬ 0 ≤ (flowV ns (sP ns n w) c []).1.getD k 0 := fun k hk => by rw [hF]; simp [hk]
 have hz : ∀ k, k < ns.length → k ≠ n → ∀ j, j < ((sP ns n w).1.getD k []).length → ((sP ns n w).1.getD k []).getD j 0 = 0 := fun k hk e j _ => by
  rw [sB0 hk, if_neg e]; exact cA4
 rw [eA7]
 · refine Prod.ext ?_ ?_
   · show (List.range ns.length).map (sl1 ns (sP ns n w) [] (flowV ns (sP ns n w) c [])) = (p0V ns).1.set n (oneW (lnV ns n) (w + 1)); refine lA6 (z := []) (by rw [List.length_set, nB1]) fun k hk => ?_; have e1 := sB0 (n := n) (w := w + 1) hk; unfold sP at e1; dsimp only at e1; rw [e1]; unfold sl1; by_cases e : k = n
     · subst e; rw [if_pos hs, if_pos rfl, sB0 hk, if_pos rfl, pB8 (flt0 ns k) hw]
     · rw [if_neg e]; split
       · rw [tA3 (hz k hk e), sB0 hk, if_neg e, List.length_replicate]
       · rw [sB0 hk, if_neg e]
   · show (List.range ns.length).map (bn1 ns (sP ns n w) c (flowV ns (sP ns n w) c [])) = (p0V ns).2; refine lA6 (z := []) (tB5 ns) fun k hk => ?_; unfold bn1; rw [if_neg (fun q => hFk k hk q.2)]; rfl
 · intro k hk; unfold leftV; split
   · by_cases e : k = n
     · subst e; rw [sB0 hk, if_pos rfl, pB8 (flt0 ns k) hw]
     · rw [tA3 (hz k hk e)]
   · rw [if_neg (hFk k hk)]
theorem lD0 : putV [] 1 = [1] := rfl
theorem qB7 {ds : List Dv} {ns : List Nd} (hg : GoodL (ns, ds)) {c : List Int} (hc : ∀ k, k < ns.length → strN (ns.getD k nd0).2.1 = false → c.getD k 0 = 0) {n w m : Nat} (hn : n < ns.length) (hm : m < ns.length) (hs : strN (ns.getD n nd0).2.1 = true) (hw : w + 1 = lnV ns n)
 (hc0 : 0 ≤ c.getD n 0) (hc1 : (c.getD n 0).toNat < ((ns.getD n nd0).2.2.2.2).length) (ht : ((ns.getD n nd0).2.2.2.2).getD (c.getD n 0).toNat 0 = m) :
 plantV ns (sP ns n w) c [] = if strN (ns.getD m nd0).2.1 = true then sP ns m 0 else bnP ns m := by
 have enn : (n : Int).toNat = n := Int.toNat_natCast n; have emm : (m : Int).toNat = m := Int.toNat_natCast m; have h7 : ¬ (ns.getD n nd0).2.1 = 7 := fun e => by rw [e] at hs; revert hs; decide
 have hwn : wanV ns c n = c.getD n 0 := by unfold wanV; rw [enn, if_neg h7]
 have hnd := hg.nd n hn; have hlnn := hnd.ln; dsimp only at hlnn; have hln1 := hlnn hs; have hfw := hnd.fw (c.getD n 0).toNat m (by
  dsimp only; rw [gdE, List.getElem?_eq_getElem hc1] at ht; rw [List.getElem?_eq_getElem hc1]; exact congrArg some ht)
 dsimp only at hfw; have hl1 : lastV ns (sP ns n w) c [] n = 1 := by rw [fC4 hc hn hs (by omega), if_pos ⟨rfl, hw, by omega⟩]
 have hF := bC7 (f := []) (c := c) (p := sP ns n w) hn hm (fun k hk => by rw [fC4 hc hn hs (by omega), if_neg (fun q => hk q.1)]) (by rw [hl1]; decide) (by rw [hwn]; exact ht) (by rw [hwn]; exact hc0) (by
  rcases hfw with ⟨⟨h5, hz⟩, he⟩ | ⟨_, hlt, _⟩
  · left; have hmn : m = n := by omega
    subst hmn; have h2 := hnd.lo; dsimp only at h2; have := h2 h5; refine ⟨rfl, h5, by rw [hwn]; omega, ?_⟩; have hl2 : 2 ≤ lnV ns m := by unfold lnV; omega
    rw [sB0 hm, if_pos rfl, mA1 (by omega), if_neg (by omega)]
  · right; refine ⟨by omega, ?_⟩; unfold entV; split
    · rename_i hsm; have hnm := hg.nd m hm; have hlm := hnm.ln; have hom := hnm.lo; dsimp only at hlm hom; have := hlm hsm; rw [sB0 hm, if_neg (by omega)]; rw [Bool.and_eq_true, Bool.or_eq_true, decide_eq_true_eq, decide_eq_true_eq, decide_eq_true_eq]; refine ⟨cA4, ?_⟩; by_cases h5 : (ns.getD m nd0).2.1 = 5
      · right; have := hom h5; have e9 : ((List.replicate (lnV ns m) (0 : Int)).filter (fun y : Int => decide (y = 0))).length = lnV ns m := by
         rw [List.filter_eq_self.2 (fun y hy => by rw [List.eq_of_mem_replicate hy]; rfl), List.length_replicate]
        rw [e9]; unfold lnV; omega
      · exact .inl h5
    · rfl)
 rw [hwn] at hF; have hFn : (flowV ns (sP ns n w) c []).1.getD n 0 = c.getD n 0 := by rw [hF]; simp [hn]
 have hFk : ∀ k, k < ns.length → k ≠ n → ¬ 0 ≤ (flowV ns (sP ns n w) c []).1.getD k 0 := fun k hk e => by rw [hF, getD_set_ne e]; simp [hk]
 have hz : ∀ k, k < ns.length → k ≠ n → ∀ j, j < ((sP ns n w).1.getD k []).length → ((sP ns n w).1.getD k []).getD j 0 = 0 := fun k hk e j _ => by
  rw [sB0 hk, if_neg e]; exact cA4
 have hL : leftV ns (sP ns n w) c [] (flowV ns (sP ns n w) c []) n = 1 := by
  unfold leftV; rw [if_pos hs, sB0 hn, if_pos rfl, hFn, decide_eq_true hc0, eB7 (flt0 ns n) hw, if_pos rfl]
 have hto : toV ns (flowV ns (sP ns n w) c []) n = m := by unfold toV; rw [hFn]; exact ht
 have hsl : (List.range ns.length).map (sl1 ns (sP ns n w) [] (flowV ns (sP ns n w) c [])) = (p0V ns).1 := by
  refine lA6 (z := []) (nB1 ns) fun k hk => ?_; rw [tC5 hk]; unfold sl1; by_cases e : k = n
  · subst e; rw [if_pos hs, sB0 hk, if_pos rfl, hFn, decide_eq_true hc0, eB7 (flt0 ns k) hw, if_pos rfl]
  · split
    · rw [tA3 (hz k hk e), sB0 hk, if_neg e, List.length_replicate]
    · rw [sB0 hk, if_neg e]
 have hbn : (List.range ns.length).map (bn1 ns (sP ns n w) c (flowV ns (sP ns n w) c [])) = (p0V ns).2 := by
  refine lA6 (z := []) (tB5 ns) fun k hk => ?_; unfold bn1; rw [if_neg (fun q => by
   by_cases e : k = n
   · subst e; rw [hs] at q; exact absurd q.1 (by decide)
   · exact hFk k hk e q.2)]
  rfl
 unfold plantV stepV stepF; rw [nC4 (n := n) ns.length hn (fun k hk e => by
  unfold leftV; split
  · rw [tA3 (hz k hk e)]
  · rw [if_neg (hFk k hk e)])]
 rw [hsl, hbn]; unfold st2; rw [hL, if_neg (by decide), hto, emm]; by_cases hsm : strN (ns.getD m nd0).2.1 = true
 · rw [if_pos hsm, if_pos hsm, if_pos hsm, tC5 hm]; rfl
 · rw [if_neg hsm, if_neg hsm, if_neg hsm, gD6, lD0]; rfl
theorem brk0 (n : Nat) : brkV [] n = false := by
 unfold brkV; rw [decide_eq_false (by simp), Bool.false_and]
theorem wB1 {len : Int} {ok : Int → Bool} {d : Int → Int} : ∀ (l : List Int) (b : Int), bestE len ok d l b = b ∨ ∃ x ∈ l, ok x = true ∧ bestE len ok d l b = d x + len
 | [], b => .inl rfl
 | x :: l, b => by
   unfold bestE; split
   · rename_i h
     rcases wB1 (len := len) (ok := ok) (d := d) l (d x + len) with e | ⟨y, hy, ho, e⟩
     · exact .inr ⟨x, List.mem_cons_self, h.1, e⟩
     · exact .inr ⟨y, List.mem_cons_of_mem _ hy, ho, e⟩
   · rcases wB1 (len := len) (ok := ok) (d := d) l b with e | ⟨y, hy, ho, e⟩
     · exact .inl e
     · exact .inr ⟨y, List.mem_cons_of_mem _ hy, ho, e⟩
theorem rB3 {len : Int} {ok : Int → Bool} {d : Int → Int} (hl : 0 ≤ len) (h : ∀ x, ok x = true → 0 ≤ d x) : ∀ (l : List Int) (b : Int), (0 ≤ b ∨ ∃ x ∈ l, ok x = true) → 0 ≤ bestE len ok d l b
 | [], b, hb => by
   rcases hb with hb | ⟨x, hx, _⟩
   · exact hb
   · cases hx
 | x :: l, b, hb => by
   unfold bestE; refine rB3 hl h l _ ?_; by_cases ho : ok x = true
   · left; have := h x ho; split
     · omega
     · rename_i q; by_cases h9 : b < 0
       · exact absurd ⟨ho, .inl h9⟩ q
       · omega
   · rw [if_neg (fun q => ho q.1)]
     rcases hb with hb | ⟨y, hy, hoy⟩
     · exact .inl hb
     · rcases List.mem_cons.1 hy with rfl | hy
       · exact absurd hoy ho
       · exact .inr ⟨y, hy, hoy⟩
theorem lnZ {ds : List Dv} {ns : List Nd} (hg : GoodL (ns, ds)) {n : Nat} (hn : n < ns.length) : 0 ≤ (ns.getD n nd0).2.2.1 := by
 have h8 := hg.le8 ns[n] (List.getElem_mem hn); have : ns.getD n nd0 = ns[n] := by simp [hn]
 rw [this]; omega
theorem dB1 {ds : List Dv} {ns : List Nd} (hg : GoodL (ns, ds)) {tg : Int} {n : Nat} (hn : n < ns.length) (hne : ¬ (n : Int) = tg) (h0 : 0 ≤ dstV ns [] tg n) :
 ∃ x ∈ (ns.getD n nd0).2.2.2.2, goX ns tg n x = true ∧ 0 ≤ dstV ns [] tg x ∧ dstV ns [] tg n = dstV ns [] tg x + (ns.getD n nd0).2.2.1 := by
 have enn : (n : Int).toNat = n := Int.toNat_natCast n; have he := bB0 hg (br := []) (tg := tg) hn; rw [brk0, if_neg (by decide), if_neg hne] at he; rw [he] at h0
 rcases wB1 (len := (ns.getD n nd0).2.2.1) (ok := fun x => goX ns tg n x && decide (0 ≤ dstV ns [] tg x)) (d := dstV ns [] tg) (ns.getD n nd0).2.2.2.2 (-1) with e | ⟨x, hx, ho, e⟩
 · rw [e] at h0; omega
 · rw [Bool.and_eq_true, decide_eq_true_eq] at ho; exact ⟨x, hx, ho.1, ho.2, by rw [he, e]⟩
theorem rD4 {ds : List Dv} {ns : List Nd} (hg : GoodL (ns, ds)) {tg : Int} {n : Nat} (hn : n < ns.length) : 0 ≤ dstV ns [] tg n ↔ (n : Int) = tg ∨ ∃ x ∈ (ns.getD n nd0).2.2.2.2, goX ns tg n x = true ∧ 0 ≤ dstV ns [] tg x := by
 constructor
 · intro h; by_cases e : (n : Int) = tg
   · exact .inl e
   · obtain ⟨x, h1, h2, h3, _⟩ := dB1 hg hn e h; exact .inr ⟨x, h1, h2, h3⟩
 · intro h; rw [bB0 hg (br := []) (tg := tg) hn, brk0, if_neg (by decide)]; split
   · exact Int.le_refl _
   · rename_i hne
     rcases h with h | ⟨x, h1, h2, h3⟩
     · exact absurd h hne
     · exact rB3 (lnZ hg hn) (fun y hy => by
        rw [Bool.and_eq_true, decide_eq_true_eq] at hy; exact hy.2) _ _ (.inr ⟨x, h1, by
        rw [Bool.and_eq_true, decide_eq_true_eq]; exact ⟨h2, h3⟩⟩)
theorem iB8 {ns : List Nd} {n : Nat} (hn : n < ns.length) : totV (ns.drop n) = (ns.getD n nd0).2.2.1 + totV (ns.drop (n + 1)) := by
 unfold totV; rw [List.drop_eq_getElem_cons hn, List.map_cons, List.sum_cons]; simp [hn]
theorem wB0 {ds : List Dv} {ns : List Nd} (hg : GoodL (ns, ds)) {n : Nat} : ∀ d, n + d ≤ ns.length → totV (ns.drop (n + d)) ≤ totV (ns.drop n)
 | 0, _ => Int.le_refl _
 | d + 1, h => by
   have ih := wB0 hg (n := n) d (by omega); have := iB8 (ns := ns) (n := n + d) (by omega); have := lnZ hg (n := n + d) (by omega); rw [show n + (d + 1) = n + d + 1 by omega]; omega
theorem aC4 {ds : List Dv} {ns : List Nd} (hg : GoodL (ns, ds)) {n : Nat} (hn : n ≤ ns.length) : 0 ≤ totV (ns.drop n) := by
 have := wB0 hg (n := n) (ns.length - n) (by omega); rw [show n + (ns.length - n) = ns.length by omega, List.drop_length] at this; exact this
theorem pC4 {ds : List Dv} {ns : List Nd} (hg : GoodL (ns, ds)) {tg : Int} : ∀ (d n : Nat), n < ns.length → ns.length - n ≤ d → dstV ns [] tg n ≤ totV (ns.drop n)
 | 0, n, hn, h => by omega
 | d + 1, n, hn, h => by
   by_cases h0 : 0 ≤ dstV ns [] tg n
   · by_cases e : (n : Int) = tg
     · rw [bB0 hg (br := []) (tg := tg) hn, brk0, if_neg (by decide), if_pos e]; exact aC4 hg (by omega)
     · obtain ⟨x, h1, h2, h3, h4⟩ := dB1 hg hn e h0; have hx : x ≠ n := by
        unfold goX at h2; rw [Bool.and_eq_true, decide_eq_true_eq] at h2; exact h2.1
       have hf := hg.fwd hn h1 hx; obtain ⟨q, rfl⟩ : ∃ q : Nat, x = q := ⟨x.toNat, by omega⟩; have ih := pC4 hg (tg := tg) d q (by omega) (by omega); have hm := wB0 hg (n := n + 1) (q - (n + 1)) (by omega); rw [show n + 1 + (q - (n + 1)) = q by omega] at hm; rw [iB8 hn]; omega
   · have := aC4 hg (n := n) (by omega); omega
def cwV (ns : List Nd) (tg : Int) (n : Nat) : Int := if ((ns.getD n nd0).2.2.2.2).length = 2 then refW ns n 1 [tg] [true] [] else 0
theorem nB2 {k : Int} (h1 : 1 ≤ k) (h9 : k ≤ 9) (h : strN k = true) : exN k = 1 ∨ exN k = 2 := by
 have : k = 1 ∨ k = 2 ∨ k = 3 ∨ k = 4 ∨ k = 5 ∨ k = 6 ∨ k = 7 ∨ k = 8 ∨ k = 9 := by omega
 rcases this with rfl | rfl | rfl | rfl | rfl | rfl | rfl | rfl | rfl <;> revert h <;> decide
theorem jC9 (ns : List Nd) (tg : Int) (n : Nat) : refW ns n 1 [tg] [true] [] = if extV ns [] n tg < 0 then 0 else extV ns [] n tg := by
 unfold refW; rw [if_neg (by
  rintro ((⟨_, h⟩ | h) | h)
  · exact absurd h (by decide)
  · omega
  · exact absurd h (by show ¬ (1 : Int) < 1; decide))]
 rfl
theorem nC8 {ds : List Dv} {ns : List Nd} (hg : GoodL (ns, ds)) (tg : Int) {n : Nat} (hn : n < ns.length) (hs : strN (ns.getD n nd0).2.1 = true) :
 0 ≤ cwV ns tg n ∧ (cwV ns tg n).toNat < ((ns.getD n nd0).2.2.2.2).length := by
 have enn : (n : Int).toNat = n := Int.toNat_natCast n; have hnd := hg.nd n hn; have hkd := hnd.kd; have hex := hnd.ex; dsimp only at hkd hex; have h12 := nB2 hkd.1 hkd.2 hs; unfold cwV; split
 · rename_i h2; rw [jC9]; have := sC2 ns [] n tg; rw [enn] at this; split <;> omega
 · omega
theorem oD3 {ds : List Dv} {ns : List Nd} (hg : GoodL (ns, ds)) (tg : Int) {n : Nat} (hn : n < ns.length) (hs : strN (ns.getD n nd0).2.1 = true) :
 ∃ m : Nat, m < ns.length ∧ ((ns.getD n nd0).2.2.2.2).getD (cwV ns tg n).toNat 0 = m := by
 obtain ⟨h1, h2⟩ := nC8 hg tg hn hs; have hfw := (hg.nd n hn).fw _ _ (List.getElem?_eq_getElem h2); dsimp only at hfw; refine ⟨((ns.getD n nd0).2.2.2.2[(cwV ns tg n).toNat]).toNat, by omega, ?_⟩; rw [gdE, List.getElem?_eq_getElem h2]; show ((ns.getD n nd0).2.2.2.2[(cwV ns tg n).toNat]) = _; omega
theorem zD6 {ds : List Dv} {ns : List Nd} (hg : GoodL (ns, ds)) {t : Nat} (ht : t < ns.length) (hts : strN (ns.getD t nd0).2.1 = false) {n : Nat} (hn : n < ns.length) (hs : strN (ns.getD n nd0).2.1 = true) (h0 : 0 ≤ dstV ns [] t n) :
 let x := ((ns.getD n nd0).2.2.2.2).getD (cwV ns t n).toNat 0
 (x = t ∨ strN (ns.getD x.toNat nd0).2.1 = true) ∧ dstV ns [] t x = dstV ns [] t n - (ns.getD n nd0).2.2.1 := by
 intro x; have enn : (n : Int).toNat = n := Int.toNat_natCast n; have ett : (t : Int).toNat = t := Int.toNat_natCast t; have hne : ¬ (n : Int) = t := fun e => by
  have : n = t := by omega
  subst this; rw [hs] at hts; cases hts
 obtain ⟨y, hy, hgo, hd0, hd⟩ := dB1 hg hn hne h0; have hyX : exX ns [] n t y = true := by
  unfold goX at hgo; unfold exX; rw [Bool.and_eq_true] at hgo; rw [Bool.and_eq_true, Bool.and_eq_true, enn]; exact ⟨⟨hgo.1, decide_eq_true (by omega)⟩, hgo.2⟩
 have hX : exX ns [] n t x = true := by
  obtain ⟨b1, b2⟩ := nC8 hg t hn hs; have hnd := hg.nd n hn; have hkd := hnd.kd; have hex := hnd.ex; dsimp only at hkd hex; have h12 := nB2 hkd.1 hkd.2 hs; by_cases h2 : ((ns.getD n nd0).2.2.2.2).length = 2
  · have hext : extV ns [] n t = idxV (exX ns [] n t) (ns.getD n nd0).2.2.2.2 := by
     unfold extV; rw [enn, if_pos]; refine ⟨?_, h0, hne⟩; unfold askV; rw [ett, hts]; simp [hn, ht]
    rcases lB3 (exX ns [] n t) (ns.getD n nd0).2.2.2.2 with ⟨_, hno⟩ | ⟨i, hi, he, hp, _⟩
    · rw [hno y hy] at hyX; cases hyX
    · have hcw : cwV ns t n = i := by
       unfold cwV; rw [if_pos h2, jC9, hext, he, if_neg (by omega)]
      show exX ns [] n t (((ns.getD n nd0).2.2.2.2).getD (cwV ns t n).toNat 0) = true; rw [hcw, Int.toNat_natCast, gdE, List.getElem?_eq_getElem hi]; exact hp
  · have hcw : cwV ns t n = 0 := by unfold cwV; rw [if_neg h2]
    have hl : ((ns.getD n nd0).2.2.2.2).length = 1 := by omega
    obtain ⟨z, hz⟩ : ∃ z, (ns.getD n nd0).2.2.2.2 = [z] := List.length_eq_one_iff.1 hl; show exX ns [] n t (((ns.getD n nd0).2.2.2.2).getD (cwV ns t n).toNat 0) = true; rw [hcw, hz]; rw [hz, List.mem_singleton] at hy; subst hy; exact hyX
 unfold exX at hX; rw [Bool.and_eq_true, Bool.and_eq_true, Bool.or_eq_true, decide_eq_true_eq, decide_eq_true_eq, decide_eq_true_eq, enn] at hX; exact ⟨hX.2, hX.1.2⟩
def dcV (ns : List Nd) (tg : Int) (p : Pl) : List Int := decL ns [(0, p)] [tg] [true] [true] [] ns.length
theorem mC9 {ds : List Dv} {ns : List Nd} (hg : GoodL (ns, ds)) (tg : Int) (p : Pl) : ∀ k, k < ns.length → strN (ns.getD k nd0).2.1 = false → (dcV ns tg p).getD k 0 = 0 := fun k hk hs => by
 have ekk : (k : Int).toNat = k := Int.toNat_natCast k; unfold dcV; rw [kA7 _ _ _ _ _ _ _ hk]; unfold cmdV; rw [ekk]; have hkd := (hg.nd k hk).kd; dsimp only at hkd; have h789 : (ns.getD k nd0).2.1 = 7 ∨ (ns.getD k nd0).2.1 = 8 ∨ (ns.getD k nd0).2.1 = 9 := by
  unfold strN at hs; rw [Bool.and_eq_false_iff, decide_eq_false_iff_not, decide_eq_false_iff_not] at hs; omega
 have h2 : ¬ exN (ns.getD k nd0).2.1 = 2 := by
  rcases h789 with h | h | h <;> rw [h] <;> decide
 rcases (qB6 (ns.getD k nd0).2.1 (othF (atS [(0, p)] k 1) 0) (fun b => wntV ns k b [tg] [true] []) (isV [true])).2 h2 with h | ⟨h, _⟩
 · exact h
 · omega
theorem eC9 {ds : List Dv} {ns : List Nd} (hg : GoodL (ns, ds)) (tg : Int) {n w : Nat} (hn : n < ns.length) (hs : strN (ns.getD n nd0).2.1 = true) (hw : w + 1 = lnV ns n) : (dcV ns tg (sP ns n w)).getD n 0 = cwV ns tg n := by
 have enn : (n : Int).toNat = n := Int.toNat_natCast n; have hlast : lastO (sP ns n w) n = some 1 := by
  unfold lastO; have hl : (sP ns n w).1.length = ns.length := by unfold sP; rw [List.length_set, nB1]
  rw [enn, sB0 hn, if_pos rfl, aA2, hl, if_neg (by omega), mA1 (by omega), if_pos (by omega)]
 have hA : atS [((0 : Int), sP ns n w)] n ([((0 : Int), sP ns n w)] : List Hy).length = [1] := by
  show atS [((0 : Int), sP ns n w)] n (0 + 1) = [1]; unfold atS; rw [show ([((0 : Int), sP ns n w)] : List Hy).getD 0 hy0 = (0, sP ns n w) from rfl, hlast]; rfl
 have hnd := hg.nd n hn; have hkd := hnd.kd; have hex := hnd.ex; dsimp only at hkd hex; have h12 := nB2 hkd.1 hkd.2 hs; obtain ⟨r1, r2⟩ := wC7 (ns := ns) (l := [((0 : Int), sP ns n w)]) (n := n) (v := 1) (ts := [tg]) (cl := [true]) (rs := [true]) (br := []) hex hA (by decide); unfold dcV; rw [kA7 _ _ _ _ _ _ _ hn]; unfold cwV; split
 · rename_i h2; exact r1 h2
 · rename_i h2; by_cases h3 : (ns.getD n nd0).2.1 = 3
   · exact (r2 h3).2 (by decide)
   · unfold cmdV; rw [enn]
     rcases (qB6 (ns.getD n nd0).2.1 (othF (atS [((0 : Int), sP ns n w)] n ([((0 : Int), sP ns n w)] : List Hy).length) 0) (fun b => wntV ns n b [tg] [true] []) (isV [true])).2 (by omega) with h | ⟨h, _⟩
     · exact h
     · exact absurd h h3
def OneP (ns : List Nd) (p : Pl) : Prop := (∃ n w, n < ns.length ∧ strN (ns.getD n nd0).2.1 = true ∧ w < lnV ns n ∧ p = sP ns n w) ∨ ∃ m, m < ns.length ∧ strN (ns.getD m nd0).2.1 = false ∧ p = bnP ns m
def OneR (ns : List Nd) (t : Nat) (p : Pl) (r : Int) : Prop := (∃ n w, n < ns.length ∧ strN (ns.getD n nd0).2.1 = true ∧ w < lnV ns n ∧ p = sP ns n w ∧ 0 ≤ dstV ns [] t n ∧ r = dstV ns [] t n - w) ∨ (p = bnP ns t ∧ r ≤ 0)
theorem hB9 {ds : List Dv} {ns : List Nd} (hg : GoodL (ns, ds)) {n : Nat} (hn : n < ns.length) (hs : strN (ns.getD n nd0).2.1 = true) : 0 < lnV ns n := by
 have h := (hg.nd n hn).ln; dsimp only at h; have := h hs; unfold lnV; omega
theorem yC5 {ds : List Dv} {ns : List Nd} (hg : GoodL (ns, ds)) (tg : Int) {p : Pl} (h : OneP ns p) : OneP ns (plantV ns p (dcV ns tg p) []) := by
 have hb := mC9 hg tg p
 rcases h with ⟨n, w, hn, hs, hw, rfl⟩ | ⟨m, hm, hs, rfl⟩
 · by_cases e : w + 1 < lnV ns n
   · exact .inl ⟨n, w + 1, hn, hs, e, uB7 hb hn hs e⟩
   · have hw' : w + 1 = lnV ns n := by omega
     obtain ⟨c0, c1⟩ := nC8 hg tg hn hs; obtain ⟨m, hm, ht⟩ := oD3 hg tg hn hs; have hc := eC9 hg tg hn hs hw'; rw [qB7 hg hb hn hm hs hw' (by rw [hc]; exact c0) (by rw [hc]; exact c1) (by rw [hc]; exact ht)]; by_cases hsm : strN (ns.getD m nd0).2.1 = true
     · rw [if_pos hsm]; exact .inl ⟨m, 0, hm, hsm, hB9 hg hm hsm, rfl⟩
     · rw [if_neg hsm]; exact .inr ⟨m, hm, by simpa using hsm, rfl⟩
 · exact .inr ⟨m, hm, hs, aB8 hb hm⟩
theorem rC2 {ds : List Dv} {ns : List Nd} (hg : GoodL (ns, ds)) {t : Nat} (ht : t < ns.length) (hts : strN (ns.getD t nd0).2.1 = false) {p : Pl} {r : Int} (h : OneR ns t p r) : OneR ns t (plantV ns p (dcV ns t p) []) (r - 1) := by
 have hb := mC9 hg t p
 rcases h with ⟨n, w, hn, hs, hw, rfl, h0, hr⟩ | ⟨rfl, hr⟩
 · by_cases e : w + 1 < lnV ns n
   · exact .inl ⟨n, w + 1, hn, hs, e, uB7 hb hn hs e, h0, by omega⟩
   · have hw' : w + 1 = lnV ns n := by omega
     obtain ⟨c0, c1⟩ := nC8 hg t hn hs; obtain ⟨m, hm, hto⟩ := oD3 hg t hn hs; have hgo := zD6 hg ht hts hn hs h0; dsimp only at hgo; rw [hto, Int.toNat_natCast] at hgo; have hc := eC9 hg t hn hs hw'; have hln : (lnV ns n : Int) = (ns.getD n nd0).2.2.1 := by have := lnZ hg hn; unfold lnV; omega
     rw [qB7 hg hb hn hm hs hw' (by rw [hc]; exact c0) (by rw [hc]; exact c1) (by rw [hc]; exact hto)]; have hdn : (n : Int) ≠ t := fun e => by
      have : n = t := by omega
      subst this; rw [hs] at hts; cases hts
     have hge := (sB1 hg (br := []) (tg := t) hn hdn).resolve_left (by omega); by_cases hsm : strN (ns.getD m nd0).2.1 = true
     · rw [if_pos hsm]; exact .inl ⟨m, 0, hm, hsm, hB9 hg hm hsm, rfl, by omega, by omega⟩
     · rw [if_neg hsm]; have hmt : m = t := by
        rcases hgo.1 with q | q
        · omega
        · exact absurd q hsm
       subst hmt; refine .inr ⟨rfl, ?_⟩; have hz : dstV ns [] (m : Int) m = 0 := by rw [bB0 hg (br := []) (tg := m) hm, brk0, if_neg (by decide), if_pos rfl]
       omega
 · exact .inr ⟨aB8 hb ht, by omega⟩
end Go.Proofs.YtabadacjbkhmkaaGreatDoor
