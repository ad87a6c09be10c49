/- What bars a departure: the reference's. -/
import Derived.Test.YtjhoidgpecgfoaaGreatDgKCToKB
import Derived.Test.YtjhoidgpecgfoaaGreatDgKLToKQ
import Derived.Test.YtjhoidgpecgfoaaGreatEvSimp
import Derived.RangeFuncBox
import Derived.Shelf.Abstract
import Derived.RangeFuncLeaves
import Derived.WalkKit
import Derived.OwnWalkIn
import Derived.TacticsInMore
import Derived.LoopNIn
import Derived.LoopIn
import Derived.Test.YtjhoidgpecgfoaaGreatProg
import Derived.Test.YtjhoidgpecgfoaaGreatDgKD
import Derived.Test.YtjhoidgpecgfoaaGreatDgKOToKf
set_option linter.unusedSimpArgs false
set_option linter.unusedVariables false
set_option maxRecDepth 100000
set_option maxHeartbeats 4000000
namespace Go.Proofs.YtjhoidgpecgfoaaGreat
open Go.Ev

def con20 : Con := { ps := [.d false (.sl yDP), .d true yFL, .d false (.int .i64), .d false (.sl yHH), .d false (.sl yCT), .d false (.sl yPM), .d false (.sl yRU)], rs := [.d false (.sl yBR)], pre := fun (x : List Dpt × Flt × Int × List Hhd × List Cnt × List Plm × List Rlg × Unit) => SmC x.2.2.2.2.1 x.2.2.2.2.2.1 ∧ x.2.2.2.1.length ≤ 1000, out := fun (x : List Dpt × Flt × Int × List Hhd × List Cnt × List Plm × List Rlg × Unit) => (barsV x.1 x.2.1 x.2.2.1 x.2.2.2.1 x.2.2.2.2.1 x.2.2.2.2.2.1 x.2.2.2.2.2.2.1, ()), nw := id }
theorem c20 : CtrOk Tryz.prog 20 con20.ctr :=
 con_sound (G := ⟨[(60, con60.ctr), (16, con16.ctr), (61, con61.ctr), (63, con63.ctr), (62, con62.ctr), (64, con64.ctr)], [], [], []⟩) tab_ok (EnvOk.cons c60 has60 (EnvOk.cons c16 has16 (EnvOk.cons c61 has61 (EnvOk.cons c63 has63 (EnvOk.cons c62 has62 (EnvOk.cons c64 has64 EnvOk.nil)))))) rfl Tryz.func20 rfl con20 5192376096652246659656636012413311 (by kernel_rfl) (by decide) (by decide) rfl (by decide) rfl (by
  rintro ⟨(l : List Dpt), ⟨f1, (f2 : Int), f3, (f4 : Int)⟩, (now : Int), (h : List Hhd), (c : List Cnt), (p : List Plm), (r : List Rlg), _⟩ hpre hwf X hT hG hk hK
  obtain ⟨hsm, hhl⟩ : SmC c p ∧ h.length ≤ 1000 := hpre
  (simp -implicitDefEqProofs only [go_sem, Prod.eta, Option.isSome_none, Option.isSome_some, Int.toNat_zero, Nat.reduceAdd, Nat.reduceMul, Nat.reduceSub, Nat.reduceEqDiff, Nat.reduceLT, Nat.reduceLeDiff, Nat.reduceShiftRight, Nat.reduceMod, Nat.reduceBEq, reduceCtorEq, reduceIte, reduceDIte, Int.reduceNeg, Bool.not_eq_true', Bool.not_eq_false', Bool.or_eq_true, Bool.or_eq_false_iff, Bool.and_eq_true, Bool.and_eq_false_iff, decide_eq_true_eq, decide_eq_false_iff_not, Classical.not_not, not_or, maxLen, con20, con60, con16, con61, con63, con62, con64, hT, hG, hk, hK, Tryz.results20] at hwf ⊢); (try simp (disch := decide +kernel) only [drawn, true_and, and_true])
  clear hwf
  obtain ⟨F, hF⟩ : ∃ F : Flt, F = (f1, f2, f3, f4) := ⟨_, rfl⟩
  have hFp : concV (f1, f2, f3, f4) c p = concV F c p := by rw [hF]
  obtain ⟨P, hP⟩ : ∃ P : List Plt, concV F c p = P := ⟨_, rfl⟩
  have hPl : P.length ≤ 1001000 := by rw [← hP]; exact concV_len hsm
  have hcl := hsm.1
  have eta3 : ∀ x : Plt, (x.1, x.2.1, x.2.2) = x := fun _ => rfl
  have hA1 := fl1 (g := brH) brH_len h
  have hA2 := fl1 (g := brU p) (brU_len p) P
  have hA3 := fl1 (g := brA r) (brA_len r) P
  obtain ⟨S, hS⟩ : ∃ S : List Bar, brS (stateV l (f1, f2, f3, f4) now) = S := ⟨_, rfl⟩
  have hSl : S.length ≤ 1 := by rw [← hS]; exact brS_len _
  have hS0 : S = if ¬ stateV l (f1, f2, f3, f4) now = 0 then [(1, stateV l (f1, f2, f3, f4) now, (0, 0, 0))] else [] := hS.symm
  have hF2 : barsV l (f1, f2, f3, f4) now h c p r = S ++ h.flatMap brH ++ P.flatMap (brU p) ++ P.flatMap (brA r) ++ c.flatMap (brC F) := by
   rw [← hP, ← hS, hF]; rfl
  refine fun _ => ⟨fun hs => ?_, fun hs => ?_⟩
  all_goals (
   refine evk_loop ⟨{ i : Nat // i ≤ h.length }, 1000, fun q => [(4, .one (.sl yCT c false)), (5, .one (.sl yPM p false)), (6, .one (.sl yRU r false)), (8, .one (.loc 70 0)), (15, .one (.row 71)), (3, .one (.sl yHH h false)), (17, .one (.int .i64 q.1))], fun q => [(70, .cells 24 [.str f1, .int .i64 f2, .str f3, .int .i64 f4]), (71, .row 67 yBR (S ++ (h.take q.1).flatMap brH))], fun q => h.length - q.1⟩ ⟨0, by omega⟩ ?_ ?_
   · simp only [go_sem, Prod.eta, Option.isSome_none, Option.isSome_some, Int.toNat_zero, Nat.reduceAdd, Nat.reduceMul, Nat.reduceSub, Nat.reduceEqDiff, Nat.reduceLT, Nat.reduceLeDiff, Nat.reduceShiftRight, Nat.reduceMod, Nat.reduceBEq, reduceCtorEq, reduceIte, reduceDIte, Int.reduceNeg]
     try simp only [List.take_zero, List.flatMap_nil, List.append_nil]
     try (first | rw [hS0, if_pos hs] | rw [hS0, if_neg (fun q => q hs)])
     try (first | rfl | exact ⟨rfl, rfl⟩ | (and_intros <;> first | trivial | rfl | omega))
   · rintro ⟨i0, (hi0 : i0 ≤ h.length)⟩
     have hb0 := fl1 (g := brH) (by intro x; first | exact brH_len x | exact brU_len p x | exact brA_len r x | exact brC_len F x) (h.take i0)
     have hc0 : (h.take i0).length ≤ h.length := by rw [List.length_take]; omega
     (simp -implicitDefEqProofs only [go_sem, Prod.eta, Option.isSome_none, Option.isSome_some, Int.toNat_zero, Nat.reduceAdd, Nat.reduceMul, Nat.reduceSub, Nat.reduceEqDiff, Nat.reduceLT, Nat.reduceLeDiff, Nat.reduceShiftRight, Nat.reduceMod, Nat.reduceBEq, reduceCtorEq, reduceIte, reduceDIte, Int.reduceNeg, Bool.not_eq_true', Bool.not_eq_false', Bool.or_eq_true, Bool.or_eq_false_iff, Bool.and_eq_true, Bool.and_eq_false_iff, decide_eq_true_eq, decide_eq_false_iff_not, Classical.not_not, not_or, maxLen, con20, con60, con16, con61, con63, con62, con64, hT, hG, hk, hK, Tryz.results20]); (try simp (disch := decide +kernel) only [drawn, true_and, and_true])
     obtain ⟨o0, ho0⟩ : ∃ o, h.getD i0 hh0 = o := ⟨_, rfl⟩
     have eo0 : h.getD (i0 : Int).toNat (0, 0, 0, false, [], [], []) = o0 := ho0
     have hps0 : i0 < h.length → (h.take (i0 + 1)).flatMap brH = (h.take i0).flatMap brH ++ brH o0 := fun h => by rw [flat_take _ hh0 h, ho0]
     simp only [eo0]
     try simp only [eta3]
     (repeat' (with_reducible (first | refine And.intro ?_ ?_ | intro _))) <;> (try (first | with_reducible (first | done | assumption | omega | contradiction) | decide))
     all_goals first
      | (have hq : o0.2.2.2.1 = true := by assumption
         have eb : brH o0 = _ := if_pos hq
         refine fin_lp ⟨i0 + 1, by omega⟩ ?_ (by dsimp only; omega)
         simp only [go_sem, Prod.eta, Option.isSome_none, Option.isSome_some, Int.toNat_zero, Nat.reduceAdd, Nat.reduceMul, Nat.reduceSub, Nat.reduceEqDiff, Nat.reduceLT, Nat.reduceLeDiff, Nat.reduceShiftRight, Nat.reduceMod, Nat.reduceBEq, reduceCtorEq, reduceIte, reduceDIte, Int.reduceNeg]
         rw [hps0 (by omega), eb, ← List.append_assoc]
         try (first | rfl | exact ⟨rfl, rfl⟩ | (and_intros <;> first | trivial | rfl | omega))
         done)
      | (have hq : o0.2.2.2.1 = false := by assumption
         have eb : brH o0 = _ := if_neg (by rw [hq]; simp)
         refine fin_lp ⟨i0 + 1, by omega⟩ ?_ (by dsimp only; omega)
         simp only [go_sem, Prod.eta, Option.isSome_none, Option.isSome_some, Int.toNat_zero, Nat.reduceAdd, Nat.reduceMul, Nat.reduceSub, Nat.reduceEqDiff, Nat.reduceLT, Nat.reduceLeDiff, Nat.reduceShiftRight, Nat.reduceMod, Nat.reduceBEq, reduceCtorEq, reduceIte, reduceDIte, Int.reduceNeg]
         rw [hps0 (by omega), eb, List.append_nil]
         try (first | rfl | exact ⟨rfl, rfl⟩ | (and_intros <;> first | trivial | rfl | omega))
         done)
      | (simp only [List.length_append]; omega)
      | (have ei : h.take i0 = h := List.take_of_length_le (by omega)
         rw [ei]
         simp only [hFp, hP]
         refine evk_loop ⟨{ i : Nat // i ≤ P.length }, 1000, fun q => [(4, .one (.sl yCT c false)), (5, .one (.sl yPM p false)), (6, .one (.sl yRU r false)), (8, .one (.loc 70 0)), (15, .one (.row 71)), (18, .one (.sl yPL P false)), (59, .one (.sl yPL P false)), (60, .one (.int .i64 P.length)), (61, .one (.int .i64 q.1))], fun q => [(70, .cells 24 [.str f1, .int .i64 f2, .str f3, .int .i64 f4]), (71, .row 67 yBR (S ++ h.flatMap brH ++ (P.take q.1).flatMap (brU p)))], fun q => P.length - q.1⟩ ⟨0, by omega⟩ ?_ ?_
         · simp only [go_sem, Prod.eta, Option.isSome_none, Option.isSome_some, Int.toNat_zero, Nat.reduceAdd, Nat.reduceMul, Nat.reduceSub, Nat.reduceEqDiff, Nat.reduceLT, Nat.reduceLeDiff, Nat.reduceShiftRight, Nat.reduceMod, Nat.reduceBEq, reduceCtorEq, reduceIte, reduceDIte, Int.reduceNeg]
           try simp only [List.take_zero, List.flatMap_nil, List.append_nil]
           try (first | rfl | exact ⟨rfl, rfl⟩ | (and_intros <;> first | trivial | rfl | omega))
         · rintro ⟨i1, (hi1 : i1 ≤ P.length)⟩
           have hb1 := fl1 (g := (brU p)) (by intro x; first | exact brH_len x | exact brU_len p x | exact brA_len r x | exact brC_len F x) (P.take i1)
           have hc1 : (P.take i1).length ≤ P.length := by rw [List.length_take]; omega
           (simp -implicitDefEqProofs only [go_sem, Prod.eta, Option.isSome_none, Option.isSome_some, Int.toNat_zero, Nat.reduceAdd, Nat.reduceMul, Nat.reduceSub, Nat.reduceEqDiff, Nat.reduceLT, Nat.reduceLeDiff, Nat.reduceShiftRight, Nat.reduceMod, Nat.reduceBEq, reduceCtorEq, reduceIte, reduceDIte, Int.reduceNeg, Bool.not_eq_true', Bool.not_eq_false', Bool.or_eq_true, Bool.or_eq_false_iff, Bool.and_eq_true, Bool.and_eq_false_iff, decide_eq_true_eq, decide_eq_false_iff_not, Classical.not_not, not_or, maxLen, con20, con60, con16, con61, con63, con62, con64, hT, hG, hk, hK, Tryz.results20]); (try simp (disch := decide +kernel) only [drawn, true_and, and_true])
           obtain ⟨o1, ho1⟩ : ∃ o, P.getD i1 pl0 = o := ⟨_, rfl⟩
           have eo1 : P.getD (i1 : Int).toNat (0, 0, 0) = o1 := ho1
           have hps1 : i1 < P.length → (P.take (i1 + 1)).flatMap (brU p) = (P.take i1).flatMap (brU p) ++ (brU p) o1 := fun h => by rw [flat_take _ pl0 h, ho1]
           simp only [eo1]
           try simp only [eta3]
           (repeat' (with_reducible (first | refine And.intro ?_ ?_ | intro _))) <;> (try (first | with_reducible (first | done | assumption | omega | contradiction) | decide))
           all_goals first
            | (have hq : uncV p o1 = true := by assumption
               have eb : (brU p) o1 = _ := if_pos hq
               refine fin_lp ⟨i1 + 1, by omega⟩ ?_ (by dsimp only; omega)
               simp only [go_sem, Prod.eta, Option.isSome_none, Option.isSome_some, Int.toNat_zero, Nat.reduceAdd, Nat.reduceMul, Nat.reduceSub, Nat.reduceEqDiff, Nat.reduceLT, Nat.reduceLeDiff, Nat.reduceShiftRight, Nat.reduceMod, Nat.reduceBEq, reduceCtorEq, reduceIte, reduceDIte, Int.reduceNeg]
               rw [hps1 (by omega), eb, ← List.append_assoc]
               try (first | rfl | exact ⟨rfl, rfl⟩ | (and_intros <;> first | trivial | rfl | omega))
               done)
            | (have hq : uncV p o1 = false := by assumption
               have eb : (brU p) o1 = _ := if_neg (by rw [hq]; simp)
               refine fin_lp ⟨i1 + 1, by omega⟩ ?_ (by dsimp only; omega)
               simp only [go_sem, Prod.eta, Option.isSome_none, Option.isSome_some, Int.toNat_zero, Nat.reduceAdd, Nat.reduceMul, Nat.reduceSub, Nat.reduceEqDiff, Nat.reduceLT, Nat.reduceLeDiff, Nat.reduceShiftRight, Nat.reduceMod, Nat.reduceBEq, reduceCtorEq, reduceIte, reduceDIte, Int.reduceNeg]
               rw [hps1 (by omega), eb, List.append_nil]
               try (first | rfl | exact ⟨rfl, rfl⟩ | (and_intros <;> first | trivial | rfl | omega))
               done)
            | (simp only [List.length_append]; omega)
            | (have ei : P.take i1 = P := List.take_of_length_le (by omega)
               rw [ei]
               refine evk_loop ⟨{ i : Nat // i ≤ P.length }, 1000, fun q => [(4, .one (.sl yCT c false)), (5, .one (.sl yPM p false)), (6, .one (.sl yRU r false)), (8, .one (.loc 70 0)), (15, .one (.row 71)), (74, .one (.sl yPL P false)), (75, .one (.int .i64 P.length)), (76, .one (.int .i64 q.1))], fun q => [(70, .cells 24 [.str f1, .int .i64 f2, .str f3, .int .i64 f4]), (71, .row 67 yBR (S ++ h.flatMap brH ++ P.flatMap (brU p) ++ (P.take q.1).flatMap (brA r)))], fun q => P.length - q.1⟩ ⟨0, by omega⟩ ?_ ?_
               · simp only [go_sem, Prod.eta, Option.isSome_none, Option.isSome_some, Int.toNat_zero, Nat.reduceAdd, Nat.reduceMul, Nat.reduceSub, Nat.reduceEqDiff, Nat.reduceLT, Nat.reduceLeDiff, Nat.reduceShiftRight, Nat.reduceMod, Nat.reduceBEq, reduceCtorEq, reduceIte, reduceDIte, Int.reduceNeg]
                 try simp only [List.take_zero, List.flatMap_nil, List.append_nil]
                 try (first | rfl | exact ⟨rfl, rfl⟩ | (and_intros <;> first | trivial | rfl | omega))
               · rintro ⟨i2, (hi2 : i2 ≤ P.length)⟩
                 have hb2 := fl1 (g := (brA r)) (by intro x; first | exact brH_len x | exact brU_len p x | exact brA_len r x | exact brC_len F x) (P.take i2)
                 have hc2 : (P.take i2).length ≤ P.length := by rw [List.length_take]; omega
                 (simp -implicitDefEqProofs only [go_sem, Prod.eta, Option.isSome_none, Option.isSome_some, Int.toNat_zero, Nat.reduceAdd, Nat.reduceMul, Nat.reduceSub, Nat.reduceEqDiff, Nat.reduceLT, Nat.reduceLeDiff, Nat.reduceShiftRight, Nat.reduceMod, Nat.reduceBEq, reduceCtorEq, reduceIte, reduceDIte, Int.reduceNeg, Bool.not_eq_true', Bool.not_eq_false', Bool.or_eq_true, Bool.or_eq_false_iff, Bool.and_eq_true, Bool.and_eq_false_iff, decide_eq_true_eq, decide_eq_false_iff_not, Classical.not_not, not_or, maxLen, con20, con60, con16, con61, con63, con62, con64, hT, hG, hk, hK, Tryz.results20]); (try simp (disch := decide +kernel) only [drawn, true_and, and_true])
                 obtain ⟨o2, ho2⟩ : ∃ o, P.getD i2 pl0 = o := ⟨_, rfl⟩
                 have eo2 : P.getD (i2 : Int).toNat (0, 0, 0) = o2 := ho2
                 have hps2 : i2 < P.length → (P.take (i2 + 1)).flatMap (brA r) = (P.take i2).flatMap (brA r) ++ (brA r) o2 := fun h => by rw [flat_take _ pl0 h, ho2]
                 simp only [eo2]
                 try simp only [eta3]
                 (repeat' (with_reducible (first | refine And.intro ?_ ?_ | intro _))) <;> (try (first | with_reducible (first | done | assumption | omega | contradiction) | decide))
                 all_goals first
                  | (have hq : mayV r o2 = false := by assumption
                     have eb : (brA r) o2 = _ := if_pos hq
                     refine fin_lp ⟨i2 + 1, by omega⟩ ?_ (by dsimp only; omega)
                     simp only [go_sem, Prod.eta, Option.isSome_none, Option.isSome_some, Int.toNat_zero, Nat.reduceAdd, Nat.reduceMul, Nat.reduceSub, Nat.reduceEqDiff, Nat.reduceLT, Nat.reduceLeDiff, Nat.reduceShiftRight, Nat.reduceMod, Nat.reduceBEq, reduceCtorEq, reduceIte, reduceDIte, Int.reduceNeg]
                     rw [hps2 (by omega), eb, ← List.append_assoc]
                     try (first | rfl | exact ⟨rfl, rfl⟩ | (and_intros <;> first | trivial | rfl | omega))
                     done)
                  | (have hq : mayV r o2 = true := by assumption
                     have eb : (brA r) o2 = _ := if_neg (by rw [hq]; simp)
                     refine fin_lp ⟨i2 + 1, by omega⟩ ?_ (by dsimp only; omega)
                     simp only [go_sem, Prod.eta, Option.isSome_none, Option.isSome_some, Int.toNat_zero, Nat.reduceAdd, Nat.reduceMul, Nat.reduceSub, Nat.reduceEqDiff, Nat.reduceLT, Nat.reduceLeDiff, Nat.reduceShiftRight, Nat.reduceMod, Nat.reduceBEq, reduceCtorEq, reduceIte, reduceDIte, Int.reduceNeg]
                     rw [hps2 (by omega), eb, List.append_nil]
                     try (first | rfl | exact ⟨rfl, rfl⟩ | (and_intros <;> first | trivial | rfl | omega))
                     done)
                  | (simp only [List.length_append]; omega)
                  | (have ei : P.take i2 = P := List.take_of_length_le (by omega)
                     rw [ei]
                     refine evk_loop ⟨{ i : Nat // i ≤ c.length }, 1000, fun q => [(4, .one (.sl yCT c false)), (5, .one (.sl yPM p false)), (6, .one (.sl yRU r false)), (8, .one (.loc 70 0)), (15, .one (.row 71)), (23, .one (.int .i64 q.1))], fun q => [(70, .cells 24 [.str f1, .int .i64 f2, .str f3, .int .i64 f4]), (71, .row 67 yBR (S ++ h.flatMap brH ++ P.flatMap (brU p) ++ P.flatMap (brA r) ++ (c.take q.1).flatMap (brC F)))], fun q => c.length - q.1⟩ ⟨0, by omega⟩ ?_ ?_
                     · simp only [go_sem, Prod.eta, Option.isSome_none, Option.isSome_some, Int.toNat_zero, Nat.reduceAdd, Nat.reduceMul, Nat.reduceSub, Nat.reduceEqDiff, Nat.reduceLT, Nat.reduceLeDiff, Nat.reduceShiftRight, Nat.reduceMod, Nat.reduceBEq, reduceCtorEq, reduceIte, reduceDIte, Int.reduceNeg]
                       try simp only [List.take_zero, List.flatMap_nil, List.append_nil]
                       try (first | rfl | exact ⟨rfl, rfl⟩ | (and_intros <;> first | trivial | rfl | omega))
                     · rintro ⟨i3, (hi3 : i3 ≤ c.length)⟩
                       have hb3 := fl1 (g := (brC F)) (by intro x; first | exact brH_len x | exact brU_len p x | exact brA_len r x | exact brC_len F x) (c.take i3)
                       have hc3 : (c.take i3).length ≤ c.length := by rw [List.length_take]; omega
                       (simp -implicitDefEqProofs only [go_sem, Prod.eta, Option.isSome_none, Option.isSome_some, Int.toNat_zero, Nat.reduceAdd, Nat.reduceMul, Nat.reduceSub, Nat.reduceEqDiff, Nat.reduceLT, Nat.reduceLeDiff, Nat.reduceShiftRight, Nat.reduceMod, Nat.reduceBEq, reduceCtorEq, reduceIte, reduceDIte, Int.reduceNeg, Bool.not_eq_true', Bool.not_eq_false', Bool.or_eq_true, Bool.or_eq_false_iff, Bool.and_eq_true, Bool.and_eq_false_iff, decide_eq_true_eq, decide_eq_false_iff_not, Classical.not_not, not_or, maxLen, con20, con60, con16, con61, con63, con62, con64, hT, hG, hk, hK, Tryz.results20]); (try simp (disch := decide +kernel) only [drawn, true_and, and_true])
                       obtain ⟨o3, ho3⟩ : ∃ o, c.getD i3 ct0 = o := ⟨_, rfl⟩
                       have eo3 : c.getD (i3 : Int).toNat (0, (ByteArray.empty, 0, ByteArray.empty, 0), 0, 0, 0, 0, 0, []) = o3 := ho3
                       have hps3 : i3 < c.length → (c.take (i3 + 1)).flatMap (brC F) = (c.take i3).flatMap (brC F) ++ (brC F) o3 := fun h => by rw [flat_take _ ct0 h, ho3]
                       simp only [eo3]
                       try simp only [eta3]
                       (repeat' (with_reducible (first | refine And.intro ?_ ?_ | intro _))) <;> (try (first | with_reducible (first | done | assumption | omega | contradiction) | decide))
                       all_goals first
                        | (have hq : (o3.2.1.1 = f1 ∧ o3.2.1.2.1 = f2 ∧ o3.2.1.2.2.1 = f3 ∧ o3.2.1.2.2.2 = f4) ∧ overV o3 = true := by assumption
                           have eb : (brC F) o3 = _ := if_pos ⟨(by rw [hF]; exact (fltE o3.2.1 (f1, f2, f3, f4)).mp hq.1), hq.2⟩
                           refine fin_lp ⟨i3 + 1, by omega⟩ ?_ (by dsimp only; omega)
                           simp only [go_sem, Prod.eta, Option.isSome_none, Option.isSome_some, Int.toNat_zero, Nat.reduceAdd, Nat.reduceMul, Nat.reduceSub, Nat.reduceEqDiff, Nat.reduceLT, Nat.reduceLeDiff, Nat.reduceShiftRight, Nat.reduceMod, Nat.reduceBEq, reduceCtorEq, reduceIte, reduceDIte, Int.reduceNeg]
                           rw [hps3 (by omega), eb, ← List.append_assoc]
                           try (first | rfl | exact ⟨rfl, rfl⟩ | (and_intros <;> first | trivial | rfl | omega))
                           done)
                        | (have hq0 : (¬ o3.2.1.1 = f1 ∨ ¬ o3.2.1.2.1 = f2 ∨ ¬ o3.2.1.2.2.1 = f3 ∨ ¬ o3.2.1.2.2.2 = f4) ∨ overV o3 = false := by assumption
                           have hq : ¬ (o3.flt = F ∧ overV o3 = true) := by
                            rintro ⟨h1, h2⟩
                            rcases hq0 with hq0 | hq0
                            · exact absurd (by rw [← hF]; exact h1) ((fltN o3.2.1 (f1, f2, f3, f4)).mp hq0)
                            · rw [hq0] at h2; cases h2
                           have eb : (brC F) o3 = _ := if_neg hq
                           refine fin_lp ⟨i3 + 1, by omega⟩ ?_ (by dsimp only; omega)
                           simp only [go_sem, Prod.eta, Option.isSome_none, Option.isSome_some, Int.toNat_zero, Nat.reduceAdd, Nat.reduceMul, Nat.reduceSub, Nat.reduceEqDiff, Nat.reduceLT, Nat.reduceLeDiff, Nat.reduceShiftRight, Nat.reduceMod, Nat.reduceBEq, reduceCtorEq, reduceIte, reduceDIte, Int.reduceNeg]
                           rw [hps3 (by omega), eb, List.append_nil]
                           try (first | rfl | exact ⟨rfl, rfl⟩ | (and_intros <;> first | trivial | rfl | omega))
                           done)
                        | (simp only [List.length_append]; omega)
                        | (have ei : c.take i3 = c := List.take_of_length_le (by omega)
                           rw [ei, hF2])
                        | fail)
                  | fail)
            | fail)
      | fail))
theorem barE (a b : Bar) : (a.1 = b.1 ∧ a.2.1 = b.2.1 ∧ a.2.2.1 = b.2.2.1 ∧ a.2.2.2.1 = b.2.2.2.1 ∧ a.2.2.2.2 = b.2.2.2.2) = (a = b) := by
 rw [eq_iff_iff]; exact ⟨fun h => Prod.ext h.1 (Prod.ext h.2.1 (Prod.ext h.2.2.1 (Prod.ext h.2.2.2.1 h.2.2.2.2))), fun h => by rw [h]; exact ⟨rfl, rfl, rfl, rfl, rfl⟩⟩
theorem barN (a b : Bar) : (¬ a.1 = b.1 ∨ ¬ a.2.1 = b.2.1 ∨ ¬ a.2.2.1 = b.2.2.1 ∨ ¬ a.2.2.2.1 = b.2.2.2.1 ∨ ¬ a.2.2.2.2 = b.2.2.2.2) = (¬ a = b) := by
 rw [← barE, eq_iff_iff]
 by_cases h1 : a.1 = b.1 <;> by_cases h2 : a.2.1 = b.2.1 <;> by_cases h3 : a.2.2.1 = b.2.2.1 <;> by_cases h4 : a.2.2.2.1 = b.2.2.2.1 <;> by_cases h5 : a.2.2.2.2 = b.2.2.2.2 <;> simp [h1, h2, h3, h4, h5]
instance kdBar1 : DecidableEq (Int × Plt) := instDecidableEqProd
instance kdBar : DecidableEq Bar := instDecidableEqProd
def con19 : Con := { ps := [.d false (.sl yBR), .d false (.sl yBR)], rs := [.d false .bool], pre := fun x => True, out := fun (x : List Bar × List Bar × Unit) => (decide (x.1 = x.2.1), ()), nw := id }
theorem c19 : CtrOk Tryz.prog 19 con19.ctr :=
 con_sound (G := ⟨[], [], [], []⟩) tab_ok EnvOk.nil rfl Tryz.func19 rfl con19 33571891 (by kernel_rfl) (by decide) (by decide) rfl (by decide) rfl (by
  rintro ⟨(a : List Bar), (b : List Bar), _⟩ hpre hwf X hT hG hk hK
  (simp -implicitDefEqProofs only [go_sem, Prod.eta, Option.isSome_none, Option.isSome_some, Int.toNat_zero, Nat.reduceAdd, Nat.reduceMul, Nat.reduceSub, Nat.reduceEqDiff, Nat.reduceLT, Nat.reduceLeDiff, Nat.reduceShiftRight, Nat.reduceMod, Nat.reduceBEq, reduceCtorEq, reduceIte, reduceDIte, Int.reduceNeg, Bool.not_eq_true', Bool.not_eq_false', Bool.or_eq_true, Bool.or_eq_false_iff, Bool.and_eq_true, Bool.and_eq_false_iff, decide_eq_true_eq, decide_eq_false_iff_not, Classical.not_not, not_or, maxLen, con19, hT, hG, hk, hK, Tryz.results19] at hwf ⊢); (try simp (disch := decide +kernel) only [drawn, true_and, and_true])
  clear hwf
  refine fun _ _ => ⟨fun hne => ?_, fun hq => ?_⟩
  · rw [eq_comm, decide_eq_false_iff_not]; intro q; subst q; exact hne rfl
  · have hq : a.length = b.length := by omega
    refine evk_loop ⟨{ i : Nat // i ≤ a.length ∧ a.take i = b.take i }, 1000, fun q => [(0, .one (.sl yBR a false)), (1, .one (.sl yBR b false)), (5, .one (.int .i64 q.1))], fun q => [], fun q => a.length - q.1⟩ ⟨0, by simp, by simp⟩ ?_ ?_
    · simp only [go_sem, Prod.eta, Option.isSome_none, Option.isSome_some, Int.toNat_zero, Nat.reduceAdd, Nat.reduceMul, Nat.reduceSub, Nat.reduceEqDiff, Nat.reduceLT, Nat.reduceLeDiff, Nat.reduceShiftRight, Nat.reduceMod, Nat.reduceBEq, reduceCtorEq, reduceIte, reduceDIte, Int.reduceNeg]
      try (first | rfl | exact ⟨rfl, rfl⟩)
    · rintro ⟨i, (hi : i ≤ a.length), (he : a.take i = b.take i)⟩
      (simp -implicitDefEqProofs only [go_sem, Prod.eta, Option.isSome_none, Option.isSome_some, Int.toNat_zero, Nat.reduceAdd, Nat.reduceMul, Nat.reduceSub, Nat.reduceEqDiff, Nat.reduceLT, Nat.reduceLeDiff, Nat.reduceShiftRight, Nat.reduceMod, Nat.reduceBEq, reduceCtorEq, reduceIte, reduceDIte, Int.reduceNeg, Bool.not_eq_true', Bool.not_eq_false', Bool.or_eq_true, Bool.or_eq_false_iff, Bool.and_eq_true, Bool.and_eq_false_iff, decide_eq_true_eq, decide_eq_false_iff_not, Classical.not_not, not_or, maxLen, con19, hT, hG, hk, hK, Tryz.results19]); (try simp (disch := decide +kernel) only [drawn, true_and, and_true])
      refine fun _ => ⟨fun hlt => ?_, fun hge => ?_⟩
      · have hil : i < a.length := by omega
        have hil2 : i < b.length := by omega
        obtain ⟨o, ho⟩ : ∃ o, a[i] = o := ⟨_, rfl⟩
        obtain ⟨u, hu⟩ : ∃ u, b[i] = u := ⟨_, rfl⟩
        have eo : a.getD (i : Int).toNat (0, 0, 0, 0, 0) = o := by rw [← ho]; simp [hil]
        have eu : b.getD (i : Int).toNat (0, 0, 0, 0, 0) = u := by rw [← hu]; simp [hil2]
        simp only [eo, eu]
        simp only [barE, barN]
        (repeat' (with_reducible (first | refine And.intro ?_ ?_ | intro _))) <;> (try (first | with_reducible (first | done | assumption | omega | contradiction) | decide))
        · have hne : ¬ o = u := by assumption
          rw [eq_comm, decide_eq_false_iff_not]
          intro q
          subst q
          exact hne (ho.symm.trans hu)
        · have hne : o = u := by first | assumption | (apply Decidable.byContradiction; assumption)
          refine fin_lp ⟨i + 1, hil, ?_⟩ ?_ (by dsimp only; omega)
          · show a.take (i + 1) = b.take (i + 1)
            rw [List.take_succ_eq_append_getElem hil, List.take_succ_eq_append_getElem hil2, he, ho, hu, hne]
          · simp only [go_sem, Prod.eta, Option.isSome_none, Option.isSome_some, Int.toNat_zero, Nat.reduceAdd, Nat.reduceMul, Nat.reduceSub, Nat.reduceEqDiff, Nat.reduceLT, Nat.reduceLeDiff, Nat.reduceShiftRight, Nat.reduceMod, Nat.reduceBEq, reduceCtorEq, reduceIte, reduceDIte, Int.reduceNeg]
            try (first | rfl | exact ⟨rfl, rfl⟩ | (and_intros <;> first | rfl | omega))
      · rw [eq_comm, decide_eq_true_eq]
        rw [List.take_of_length_le (by omega), List.take_of_length_le (by omega)] at he
        exact he)
end Go.Proofs.YtjhoidgpecgfoaaGreat

/- Iterators over slices: what a seat shows of their run; what they are gone over as. -/
set_option linter.unusedSimpArgs false
set_option linter.unusedVariables false
namespace Go.Ev
open Go.RowKit

/-- The values of a round: elements' cells, the length, the round. -/
abbrev EncSl := Nat → (Nat → List Value) → Nat → Array Value
def encValues (ag : Bool) : EncSl := fun _ cs j => #[mkV ag (cs j)]
def encAll (ag : Bool) : EncSl := fun _ cs j => #[.int .i64 (j : Int), mkV ag (cs j)]
def encBack (ag : Bool) : EncSl := fun len cs j => #[.int .i64 ((len : Int) - 1 - j), mkV ag (cs (len - 1 - j))]

/-- How a slice is gone over. -/
inductive SlK where
 | back | vals | all
def SlK.enc (ag : Bool) : SlK → EncSl
 | .back => encBack ag
 | .vals => encValues ag
 | .all => encAll ag
def SlK.ar : SlK → Nat
 | .vals => 1
 | _ => 2
/-- The element that a round is handed. -/
def SlK.ix (len j : Nat) : SlK → Nat
 | .back => len - 1 - j
 | _ => j
def SlK.y (t : Ty) (ag : Bool) (xs : List t.den) (j : Nat) : SlK → List AV
 | .back => [.one (.int .i64 ((xs.length : Int) - 1 - j)), avOf ag (expl t (xs.getD (xs.length - 1 - j) t.dflt))]
 | .vals => [avOf ag (expl t (xs.getD j t.dflt))]
 | .all => [.one (.int .i64 (j : Int)), avOf ag (expl t (xs.getD j t.dflt))]
def slG (K : SlK) (t : Ty) (ag : Bool) (u : Heap) (xs : List t.den) : ItE :=
 ⟨True, fun j => K.y t ag xs j, K.ar, u, fun q => q = List.range xs.length, fun j => j < xs.length ∧ Wf t (xs.getD (K.ix xs.length j) t.dflt)⟩
attribute [go_sem] slG SlK.y SlK.ar SlK.ix
end Go.Ev

/- The run of slices.Backward's closure. -/
set_option linter.unusedSimpArgs false
set_option linter.unusedVariables false
namespace Go.Proofs.YtjhoidgpecgfoaaGreat
open Go.Ev Go.RowKit Go.Shelf

attribute [local go_sem] Oper.semAt_some

end Go.Proofs.YtjhoidgpecgfoaaGreat

/- Operations: about each plate, placements; valid ones, their order. -/
set_option linter.unusedSimpArgs false
set_option linter.unusedVariables false
set_option maxRecDepth 100000
set_option maxHeartbeats 8000000
namespace Go.Proofs.YtjhoidgpecgfoaaGreat
open Go.Ev

/-- The plates, in the order in which they come; the operations about each. -/
def abK (l : List Opn) : List Plt := l.foldl (fun ks o => kput (kt := yPL) o.plate ks) []
theorem pl_eq (a b : Plt) : keyEq yPL a b = decide (a = b) := by
 obtain ⟨a1, a2, a3⟩ := a
 obtain ⟨b1, b2, b3⟩ := b
 simp only [keyEq, Prod.mk.injEq]
 rw [Bool.eq_iff_iff]
 simp only [Bool.and_eq_true, decide_eq_true_eq]
theorem kidx_lt {k : Plt} : ∀ {ks : List Plt}, kidx (kt := yPL) k ks < ks.length ↔ k ∈ ks
 | [] => by simp [kidx]
 | a :: l => by
   unfold kidx
   rw [pl_eq]
   by_cases h : k = a
   · rw [if_pos (by simpa using h)]; simp [h]
   · rw [if_neg (by simpa using h), List.length_cons, Nat.succ_lt_succ_iff, kidx_lt, List.mem_cons]
     exact ⟨.inr, fun q => q.resolve_left h⟩
theorem kput_mem {k a : Plt} {ks : List Plt} : a ∈ kput (kt := yPL) k ks ↔ a = k ∨ a ∈ ks := by
 unfold kput
 split
 · rename_i h
   have := kidx_lt.1 h
   exact ⟨.inr, fun q => q.elim (fun e => e ▸ this) id⟩
 · rw [List.mem_append, List.mem_singleton]
   exact ⟨fun q => q.elim .inr .inl, fun q => q.elim .inr .inl⟩
theorem abK_mem (k : Plt) : ∀ l : List Opn, k ∈ abK l ↔ ∃ o ∈ l, o.plate = k := by
 intro l
 have key : ∀ (l : List Opn) (acc : List Plt), k ∈ l.foldl (fun ks o => kput (kt := yPL) o.plate ks) acc ↔ k ∈ acc ∨ ∃ o ∈ l, o.plate = k := by
  intro l
  induction l with
  | nil => intro acc; simp
  | cons x l ih =>
    intro acc
    rw [List.foldl_cons, ih, kput_mem]
    constructor
    · rintro ((h | h) | ⟨o, ho, h⟩)
      · exact .inr ⟨x, by simp, h.symm⟩
      · exact .inl h
      · exact .inr ⟨o, by simp [ho], h⟩
    · rintro (h | ⟨o, ho, h⟩)
      · exact .inl (.inr h)
      · rcases List.mem_cons.1 ho with rfl | ho
        · exact .inl (.inl h.symm)
        · exact .inr ⟨o, ho, h⟩
 have := key l []
 rw [show abK l = l.foldl (fun ks o => kput (kt := yPL) o.plate ks) [] from rfl, this]
 exact ⟨fun h => h.resolve_left (by simp), .inr⟩
theorem kput_nodup {k : Plt} {ks : List Plt} (h : ks.Nodup) : (kput (kt := yPL) k ks).Nodup := by
 unfold kput
 split
 · exact h
 · rename_i q
   have hn : ¬ k ∈ ks := fun e => q (kidx_lt.2 e)
   rw [List.nodup_append]
   exact ⟨h, by simp, fun a ha b hb e => hn (by rw [List.mem_singleton] at hb; rw [← hb, ← e]; exact ha)⟩
theorem abK_nodup (l : List Opn) : (abK l).Nodup := by
 have key : ∀ (l : List Opn) (acc : List Plt), acc.Nodup → (l.foldl (fun ks o => kput (kt := yPL) o.plate ks) acc).Nodup := by
  intro l
  induction l with
  | nil => intro acc h; exact h
  | cons x l ih => intro acc h; exact ih _ (kput_nodup h)
 exact key l [] List.nodup_nil
theorem kput_len {k : Plt} {ks : List Plt} : (kput (kt := yPL) k ks).length ≤ ks.length + 1 := by
 unfold kput; split <;> simp
theorem abK_len (l : List Opn) : (abK l).length ≤ l.length := by
 have key : ∀ (l : List Opn) (acc : List Plt), (l.foldl (fun ks o => kput (kt := yPL) o.plate ks) acc).length ≤ acc.length + l.length := by
  intro l
  induction l with
  | nil => intro acc; simp
  | cons x l ih =>
    intro acc
    have h1 := ih (kput (kt := yPL) x.plate acc)
    have h2 := kput_len (k := x.plate) (ks := acc)
    rw [List.foldl_cons, List.length_cons]
    omega
 have := key l []
 simpa [abK] using this
/-- A list without the elements that are as the one before. -/
def ddU (xs : List Int) : Nat → List Int
 | 0 => []
 | i + 1 => ddU xs i ++ if i ≠ 0 ∧ xs.getD i 0 = xs.getD (i - 1) 0 then [] else [xs.getD i 0]
def compV (xs : List Int) : List Int := ddU xs xs.length
theorem ddU_len (xs : List Int) : ∀ i, (ddU xs i).length ≤ i
 | 0 => Nat.le_refl _
 | i + 1 => by
   have := ddU_len xs i
   rw [ddU, List.length_append]
   split <;> simp <;> omega
/-- The loads at the end, the last one first. -/
def trail (l : List Opn) : List Int := (l.reverse.takeWhile (fun o => decide (o.kind = 1))).map Opn.box
abbrev Plc := Pce × Int × List Int
def o0 : Opn := (0, 0, 0, 0, 0, (0, 0, 0), 0, 0)
def placeV (l : List Opn) : Plc := ((l.getD (l.length - 1) o0).2.2.2.2.2, if (l.getD (l.length - 1) o0).kind = 1 then (l.getD (l.length - 1) o0).box else 0, compV (sortI (trail l)))
def TrN (l : List Opn) (n : Nat) : Prop := n ≤ l.length ∧ ∀ i, i < n → (l.reverse.getD i o0).kind = 1
theorem TrN.zero (l : List Opn) : TrN l 0 := ⟨Nat.zero_le _, fun i h => by omega⟩
theorem TrN.tw : ∀ {r : List Opn} {n : Nat}, n ≤ r.length → (∀ i, i < n → (r.getD i o0).kind = 1) → (n < r.length → (r.getD n o0).kind ≠ 1) → r.takeWhile (fun o => decide (o.kind = 1)) = r.take n
 | [], n, h, _, _ => by simp at h; subst h; rfl
 | a :: r, 0, _, _, h => by
   have : a.kind ≠ 1 := by simpa using h (by simp)
   simp [this]
 | a :: r, n + 1, h, k, q => by
   have h1 : a.kind = 1 := by simpa using k 0 (by omega)
   have := TrN.tw (r := r) (n := n) (by simpa using h) (fun i hi => by simpa using k (i + 1) (by omega)) (fun hi => by simpa using q (by simpa using hi))
   simp [h1, this]
theorem TrN.trail {l : List Opn} {n : Nat} (h : TrN l n) (q : n < l.length → (l.reverse.getD n o0).kind ≠ 1) : trail l = (l.reverse.take n).map Opn.box := by
 unfold Proofs.YtjhoidgpecgfoaaGreat.trail
 rw [TrN.tw (by simpa using h.1) h.2 (fun hi => q (by simpa using hi))]
theorem sortI_len (l : List Int) : (sortI l).length = l.length := (List.mergeSort_perm l _).length_eq
theorem compV_le (l : List Int) : (compV l).length ≤ l.length := ddU_len l _
def con99 : Con := { ps := [.d true yOP], rs := [.d false .bool], pre := fun _ => True, out := fun (x : Opn × Unit) => (okOp x.1, ()), nw := id }
theorem c99 : CtrOk Tryz.prog 99 con99.ctr :=
 con_sound (G := ⟨[(145, con145.ctr)], [], [], []⟩) tab_ok (EnvOk.cons c145 has145 EnvOk.nil) rfl Tryz.func99 rfl con99 7 (by kernel_rfl) (by decide) (by decide) rfl (by decide) rfl (by
  rintro ⟨⟨(a : Int), (b : Int), (c : Int), (d : Int), (e : Int), ⟨(f1 : Int), (f2 : Int), (f3 : Int)⟩, (f4 : Int), (f5 : Int)⟩, _⟩ hpre hwf X hT hG hk hK
  (simp -implicitDefEqProofs only [go_sem, Prod.eta, Option.isSome_none, Option.isSome_some, Int.toNat_zero, Nat.reduceAdd, Nat.reduceMul, Nat.reduceSub, Nat.reduceEqDiff, Nat.reduceLT, Nat.reduceLeDiff, Nat.reduceShiftRight, Nat.reduceMod, Nat.reduceBEq, reduceCtorEq, reduceIte, reduceDIte, Int.reduceNeg, Bool.not_eq_true', Bool.not_eq_false', Bool.or_eq_true, Bool.or_eq_false_iff, Bool.and_eq_true, Bool.and_eq_false_iff, decide_eq_true_eq, decide_eq_false_iff_not, Classical.not_not, not_or, maxLen, con99, con145, hT, hG, hk, hK, Tryz.results99] at hwf ⊢); (try simp (disch := decide +kernel) only [drawn, true_and, and_true])
  unfold okOp inV
  dsimp only
  refine ⟨fun h => ⟨h, fun h2 => ⟨h, h2⟩⟩, ?_⟩
  generalize okPc ((f1, f2, f3), f4, f5) = q
  rw [Bool.eq_iff_iff]
  cases q <;> simp only [Bool.and_eq_true, Bool.or_eq_true, decide_eq_true_eq, Bool.false_eq_true, and_false, and_true] <;> (try omega))
def bfV (a b : Opn) : Bool := decide (a.1 < b.1 ∨ a.1 = b.1 ∧ (a.2.1 < b.2.1 ∨ a.2.1 = b.2.1 ∧ a.2.2.1 < b.2.2.1))
def con100 : Con := { ps := [.d true yOP, .d true yOP], rs := [.d false .bool], pre := fun _ => True, out := fun (x : Opn × Opn × Unit) => (bfV x.1 x.2.1, ()), nw := id }
theorem c100 : CtrOk Tryz.prog 100 con100.ctr :=
 con_sound (G := ⟨[], [], [], []⟩) tab_ok EnvOk.nil rfl Tryz.func100 rfl con100 524831 (by kernel_rfl) (by decide) (by decide) rfl (by decide) rfl (by
  rintro ⟨⟨(a : Int), (b : Int), (c : Int), (d : Int), (e : Int), ⟨(f1 : Int), (f2 : Int), (f3 : Int)⟩, (f4 : Int), (f5 : Int)⟩, ⟨(a' : Int), (b' : Int), (c' : Int), (d' : Int), (e' : Int), ⟨(f1' : Int), (f2' : Int), (f3' : Int)⟩, (f4' : Int), (f5' : Int)⟩, _⟩ hpre hwf X hT hG hk hK
  (simp -implicitDefEqProofs only [go_sem, Prod.eta, Option.isSome_none, Option.isSome_some, Int.toNat_zero, Nat.reduceAdd, Nat.reduceMul, Nat.reduceSub, Nat.reduceEqDiff, Nat.reduceLT, Nat.reduceLeDiff, Nat.reduceShiftRight, Nat.reduceMod, Nat.reduceBEq, reduceCtorEq, reduceIte, reduceDIte, Int.reduceNeg, Bool.not_eq_true', Bool.not_eq_false', Bool.or_eq_true, Bool.or_eq_false_iff, Bool.and_eq_true, Bool.and_eq_false_iff, decide_eq_true_eq, decide_eq_false_iff_not, Classical.not_not, not_or, maxLen, con100, hT, hG, hk, hK, Tryz.results100] at hwf ⊢); (try simp (disch := decide +kernel) only [drawn, true_and, and_true])
  unfold bfV
  (repeat' (with_reducible (first | refine And.intro ?_ ?_ | intro _))) <;> (try (first | with_reducible (first | done | assumption | omega | contradiction) | decide))
  all_goals (dsimp only; rw [decide_eq_decide]; omega))
/-- What is wrong with the operation at a place. -/
def stepErr (l : List Opn) (i : Nat) : Int :=
 if okOp (l.getD i o0) = false then 1 else if 0 < i ∧ bfV (l.getD (i - 1) o0) (l.getD i o0) = false then 9
 else if ∃ k, k < i ∧ (l.getD k o0).2.1 = (l.getD i o0).2.1 ∧ (l.getD i o0).2.2.1 ≤ (l.getD k o0).2.2.1 then 5 else 0
def valV (l : List Opn) : Int := if 360 < l.length then 2 else (((List.range l.length).map (stepErr l)).find? (fun e => decide (e ≠ 0))).getD 0
theorem valV_err {l : List Opn} {i : Nat} (hl : ¬ 360 < l.length) (h : ∀ k, k < i → stepErr l k = 0) (hi : i < l.length) (he : stepErr l i ≠ 0) : valV l = stepErr l i := by
 unfold valV
 rw [if_neg hl]
 have e0 : List.range l.length = List.range i ++ (i :: (List.range l.length).drop (i + 1)) :=
  (List.take_append_drop i (List.range l.length)).symm.trans (by rw [List.take_range, Nat.min_eq_left (by omega), List.drop_eq_getElem_cons (i := i) (by simpa using hi), List.getElem_range])
 obtain ⟨D, hD⟩ : ∃ D, (List.range l.length).drop (i + 1) = D := ⟨_, rfl⟩
 rw [hD] at e0
 have e : (List.range l.length).map (stepErr l) = (List.range i).map (stepErr l) ++ (stepErr l i :: D.map (stepErr l)) := by
  rw [e0, List.map_append, List.map_cons]
 rw [e, List.find?_append]
 have e2 : ((List.range i).map (stepErr l)).find? (fun e => decide (e ≠ 0)) = none := by
  rw [List.find?_eq_none]
  intro x hx
  obtain ⟨k, hk, rfl⟩ := List.mem_map.1 hx
  rw [h k (List.mem_range.1 hk)]
  simp
 rw [e2]
 simp [he]
theorem valV_ok {l : List Opn} (hl : ¬ 360 < l.length) (h : ∀ k, k < l.length → stepErr l k = 0) : valV l = 0 := by
 unfold valV
 rw [if_neg hl]
 have e2 : ((List.range l.length).map (stepErr l)).find? (fun e => decide (e ≠ 0)) = none := by
  rw [List.find?_eq_none]
  intro x hx
  obtain ⟨k, hk, rfl⟩ := List.mem_map.1 hx
  rw [h k (List.mem_range.1 hk)]
  simp
 rw [e2]; rfl
theorem stepErr_zero {l : List Opn} {i : Nat} (h : stepErr l i = 0) : okOp (l.getD i o0) = true ∧ (0 < i → bfV (l.getD (i - 1) o0) (l.getD i o0) = true) ∧ ∀ k, k < i → (l.getD k o0).2.1 = (l.getD i o0).2.1 → (l.getD k o0).2.2.1 < (l.getD i o0).2.2.1 := by
 unfold stepErr at h
 split at h
 · omega
 · rename_i h1
   split at h
   · omega
   · rename_i h2
     split at h
     · omega
     · rename_i h3
       refine ⟨by simpa using h1, fun hi => ?_, fun k hk hd => ?_⟩
       · cases hb : bfV (l.getD (i - 1) o0) (l.getD i o0) with
         | true => rfl
         | false => exact absurd ⟨hi, hb⟩ h2
       · exact Int.not_le.1 fun hle => h3 ⟨k, hk, hd, hle⟩
theorem okOp_bd {o : Opn} (h : okOp o = true) : (0 ≤ o.1 ∧ o.1 ≤ 1048576) ∧ (1 ≤ o.2.1 ∧ o.2.1 ≤ 6) ∧ (1 ≤ o.2.2.1 ∧ o.2.2.1 ≤ 1048576) := by
 unfold okOp inV at h
 simp only [Bool.and_eq_true, decide_eq_true_eq] at h
 omega
theorem stepErr_1 {l : List Opn} {i : Nat} (h : okOp (l.getD i o0) = false) : stepErr l i = 1 := by unfold stepErr; rw [if_pos h]
theorem stepErr_9 {l : List Opn} {i : Nat} (h : okOp (l.getD i o0) = true) (hi : 0 < i) (hb : bfV (l.getD (i - 1) o0) (l.getD i o0) = false) : stepErr l i = 9 := by
 unfold stepErr; rw [if_neg (by rw [h]; exact fun q => by cases q), if_pos ⟨hi, hb⟩]
theorem stepErr_5 {l : List Opn} {i : Nat} (h : okOp (l.getD i o0) = true) (hb : 0 < i → bfV (l.getD (i - 1) o0) (l.getD i o0) = true) (he : ∃ k, k < i ∧ (l.getD k o0).2.1 = (l.getD i o0).2.1 ∧ (l.getD i o0).2.2.1 ≤ (l.getD k o0).2.2.1) : stepErr l i = 5 := by
 unfold stepErr; rw [if_neg (by rw [h]; exact fun q => by cases q), if_neg (fun q => by rw [hb q.1] at q; cases q.2), if_pos he]
theorem stepErr_0 {l : List Opn} {i : Nat} (h : okOp (l.getD i o0) = true) (hb : 0 < i → bfV (l.getD (i - 1) o0) (l.getD i o0) = true) (he : ¬ ∃ k, k < i ∧ (l.getD k o0).2.1 = (l.getD i o0).2.1 ∧ (l.getD i o0).2.2.1 ≤ (l.getD k o0).2.2.1) : stepErr l i = 0 := by
 unfold stepErr; rw [if_neg (by rw [h]; exact fun q => by cases q), if_neg (fun q => by rw [hb q.1] at q; cases q.2), if_neg he]
def con66 : Con := { ps := [.d false (.sl yOP)], rs := [.d false (.int .i64)], pre := fun _ => True, out := fun (x : List Opn × Unit) => (valV x.1, ()), nw := id }
def con43 : Con := { ps := [.d false (.sl yOP)], rs := [.d false (.int .i64)], pre := fun _ => True, out := fun (x : List Opn × Unit) => (valV x.1, ()), nw := id }
theorem c43 : CtrOk Tryz.prog 43 con43.ctr :=
 con_sound (G := ⟨[(100, con100.ctr), (99, con99.ctr)], [], [], []⟩) tab_ok (EnvOk.cons c100 has100 (EnvOk.cons c99 has99 EnvOk.nil)) rfl Tryz.func43 rfl con43 9223372191474124957 (by kernel_rfl) (by decide) (by decide) rfl (by decide) rfl (by
  rintro ⟨(l : List Opn), _⟩ hpre hwf X hT hG hk hK
  (simp -implicitDefEqProofs only [go_sem, Prod.eta, Option.isSome_none, Option.isSome_some, Int.toNat_zero, Nat.reduceAdd, Nat.reduceMul, Nat.reduceSub, Nat.reduceEqDiff, Nat.reduceLT, Nat.reduceLeDiff, Nat.reduceShiftRight, Nat.reduceMod, Nat.reduceBEq, reduceCtorEq, reduceIte, reduceDIte, Int.reduceNeg, Bool.not_eq_true', Bool.not_eq_false', Bool.or_eq_true, Bool.or_eq_false_iff, Bool.and_eq_true, Bool.and_eq_false_iff, decide_eq_true_eq, decide_eq_false_iff_not, Classical.not_not, not_or, maxLen, con43, con100, con99, hT, hG, hk, hK, Tryz.results43] at hwf ⊢); (try simp (disch := decide +kernel) only [drawn, true_and, and_true])
  refine fun _ => ⟨fun h => ?_, fun h => ?_⟩
  · unfold valV; rw [if_pos (by omega)]
  · have hl : ¬ 360 < l.length := by omega
    refine evk_loop ⟨{ i : Nat // i ≤ l.length ∧ ∀ k, k < i → stepErr l k = 0 }, 1000, fun i => [(0, .one (.sl yOP l false)), (2, .one (.int .i64 0)), (3, .one (.int .i64 i.1))], fun i => [], fun i => l.length - i.1⟩ ⟨0, by omega, fun k hk => by omega⟩ ?_ ?_
    · simp only [go_sem, Prod.eta, Option.isSome_none, Option.isSome_some, Int.toNat_zero, Nat.reduceAdd, Nat.reduceMul, Nat.reduceSub, Nat.reduceEqDiff, Nat.reduceLT, Nat.reduceLeDiff, Nat.reduceShiftRight, Nat.reduceMod, Nat.reduceBEq, reduceCtorEq, reduceIte, reduceDIte, Int.reduceNeg]
      rfl
    · rintro ⟨i, (hi : i ≤ l.length), (hz : ∀ k, k < i → stepErr l k = 0)⟩
      have he := valV_err (i := i) hl hz
      (simp -implicitDefEqProofs only [go_sem, Prod.eta, Option.isSome_none, Option.isSome_some, Int.toNat_zero, Nat.reduceAdd, Nat.reduceMul, Nat.reduceSub, Nat.reduceEqDiff, Nat.reduceLT, Nat.reduceLeDiff, Nat.reduceShiftRight, Nat.reduceMod, Nat.reduceBEq, reduceCtorEq, reduceIte, reduceDIte, Int.reduceNeg, Bool.not_eq_true', Bool.not_eq_false', Bool.or_eq_true, Bool.or_eq_false_iff, Bool.and_eq_true, Bool.and_eq_false_iff, decide_eq_true_eq, decide_eq_false_iff_not, Classical.not_not, not_or, maxLen, con43, con100, con99, hT, hG, hk, hK, Tryz.results43]); (try simp (disch := decide +kernel) only [drawn, true_and, and_true])
      obtain ⟨o, ho⟩ : ∃ o, l.getD i o0 = o := ⟨_, rfl⟩
      obtain ⟨p, hp⟩ : ∃ p, l.getD (i - 1) o0 = p := ⟨_, rfl⟩
      have eo : l.getD (i : Int).toNat (0, 0, 0, 0, 0, (0, 0, 0), 0, 0) = o := ho
      have ep : l.getD ((i : Int) - 1).toNat (0, 0, 0, 0, 0, (0, 0, 0), 0, 0) = p := by rw [show ((i : Int) - 1).toNat = i - 1 by omega]; exact hp
      rw [eo, ep]
      refine fun _ => ⟨fun hlt => ⟨⟨by omega, by omega⟩, fun _ _ => ⟨fun h1 => ?_, fun h1 => ?_⟩⟩, fun hge => ?_⟩
      · have hs : stepErr l i = 1 := stepErr_1 (ho ▸ h1)
        rw [he (by omega) (by omega), hs]
      · have hbd := okOp_bd h1
        refine ⟨fun _ => ⟨by omega, by omega⟩, fun _ => ⟨by omega, by omega⟩, fun _ _ => ⟨fun _ => ⟨by omega, by omega⟩, fun _ _ => ⟨fun hb => ?_, fun hb => ?_⟩⟩⟩
        · have hs : stepErr l i = 9 := stepErr_9 (ho ▸ h1) (by omega) (by rw [hp, ho]; exact hb.2)
          rw [he (by omega) (by omega), hs]
        · have hb' : 0 < i → bfV (l.getD (i - 1) o0) (l.getD i o0) = true := fun hi0 => by
           rw [hp, ho]
           rcases hb with hb | hb
           · omega
           · exact hb
          refine evk_loop ⟨{ k : Nat // k ≤ i ∧ ∀ q, q < k → ¬ ((l.getD q o0).2.1 = o.2.1 ∧ o.2.2.1 ≤ (l.getD q o0).2.2.1) }, 2000, fun k => [(0, .one (.sl yOP l false)), (2, .one (.int .i64 0)), (3, .one (.int .i64 i)), (4, .one (.int .i64 k.1))], fun k => [], fun k => i - k.1⟩ ⟨0, by omega, fun k hk => by omega⟩ ?_ ?_
          · simp only [go_sem, Prod.eta, Option.isSome_none, Option.isSome_some, Int.toNat_zero, Nat.reduceAdd, Nat.reduceMul, Nat.reduceSub, Nat.reduceEqDiff, Nat.reduceLT, Nat.reduceLeDiff, Nat.reduceShiftRight, Nat.reduceMod, Nat.reduceBEq, reduceCtorEq, reduceIte, reduceDIte, Int.reduceNeg]
            rfl
          · rintro ⟨k, (hki : k ≤ i), (hkz : ∀ q, q < k → ¬ ((l.getD q o0).2.1 = o.2.1 ∧ o.2.2.1 ≤ (l.getD q o0).2.2.1))⟩
            (simp -implicitDefEqProofs only [go_sem, Prod.eta, Option.isSome_none, Option.isSome_some, Int.toNat_zero, Nat.reduceAdd, Nat.reduceMul, Nat.reduceSub, Nat.reduceEqDiff, Nat.reduceLT, Nat.reduceLeDiff, Nat.reduceShiftRight, Nat.reduceMod, Nat.reduceBEq, reduceCtorEq, reduceIte, reduceDIte, Int.reduceNeg, Bool.not_eq_true', Bool.not_eq_false', Bool.or_eq_true, Bool.or_eq_false_iff, Bool.and_eq_true, Bool.and_eq_false_iff, decide_eq_true_eq, decide_eq_false_iff_not, Classical.not_not, not_or, maxLen, con43, con100, con99, hT, hG, hk, hK, Tryz.results43]); (try simp (disch := decide +kernel) only [drawn, true_and, and_true])
            obtain ⟨u, hu⟩ : ∃ u, l.getD k o0 = u := ⟨_, rfl⟩
            have eu : l.getD (k : Int).toNat (0, 0, 0, 0, 0, (0, 0, 0), 0, 0) = u := hu
            rw [eo, eu]
            (repeat' (with_reducible (first | refine And.intro ?_ ?_ | intro _))) <;> (try (first | with_reducible (first | done | assumption | omega | contradiction) | decide))
            · have hc : u.2.1 = o.2.1 ∧ o.2.2.1 ≤ u.2.2.1 := by assumption
              have hs : stepErr l i = 5 := stepErr_5 (ho ▸ h1) hb' ⟨k, by omega, by rw [hu, ho]; exact hc⟩
              rw [he (by omega) (by omega), hs]
            · have hc : ¬ u.2.1 = o.2.1 ∨ ¬ o.2.2.1 ≤ u.2.2.1 := by assumption
              refine fin_lp ⟨k + 1, by omega, fun q hq => ?_⟩ ?_ (by dsimp only; omega)
              · by_cases e : q = k
                · subst e; rw [hu]; exact fun hh => hc.elim (fun x => x hh.1) (fun x => x hh.2)
                · exact hkz q (by omega)
              · simp only [go_sem, Prod.eta, Option.isSome_none, Option.isSome_some, Int.toNat_zero, Nat.reduceAdd, Nat.reduceMul, Nat.reduceSub, Nat.reduceEqDiff, Nat.reduceLT, Nat.reduceLeDiff, Nat.reduceShiftRight, Nat.reduceMod, Nat.reduceBEq, reduceCtorEq, reduceIte, reduceDIte, Int.reduceNeg]
                and_intros <;> first | rfl | omega
            · have hs : stepErr l i = 0 := stepErr_0 (ho ▸ h1) hb' (by rw [ho]; exact fun ⟨q, hq, hh⟩ => hkz q (by omega) hh)
              refine fin_lp ⟨i + 1, by omega, fun q hq => ?_⟩ ?_ (by dsimp only; omega)
              · by_cases e : q = i
                · subst e; exact hs
                · exact hz q (by omega)
              · simp only [go_sem, Prod.eta, Option.isSome_none, Option.isSome_some, Int.toNat_zero, Nat.reduceAdd, Nat.reduceMul, Nat.reduceSub, Nat.reduceEqDiff, Nat.reduceLT, Nat.reduceLeDiff, Nat.reduceShiftRight, Nat.reduceMod, Nat.reduceBEq, reduceCtorEq, reduceIte, reduceDIte, Int.reduceNeg]
                and_intros <;> first | rfl | omega
      · rw [valV_ok hl (fun k hk => hz k (by omega))])
end Go.Proofs.YtjhoidgpecgfoaaGreat

/- Operations: merging. -/
set_option linter.unusedSimpArgs false
set_option linter.unusedVariables false
set_option maxRecDepth 100000
set_option maxHeartbeats 8000000
namespace Go.Proofs.YtjhoidgpecgfoaaGreat
open Go.Ev

instance decPce : DecidableEq Pce := instDecidableEqProd
instance dec1 : DecidableEq (Int × Pce) := instDecidableEqProd
instance dec2 : DecidableEq (Int × Int × Pce) := instDecidableEqProd
instance dec3 : DecidableEq (Int × Int × Int × Pce) := instDecidableEqProd
instance dec4 : DecidableEq (Int × Int × Int × Int × Pce) := instDecidableEqProd
instance decOpn : DecidableEq Opn := instDecidableEqProd
/-- Two lists of operations, united. -/
def mg : List Opn → List Opn → List Opn
 | [], b => b
 | a, [] => a
 | x :: a, y :: b => if x = y then mg (x :: a) b else if bfV y x = true then y :: mg (x :: a) b else x :: mg a (y :: b)
termination_by a b => a.length + b.length
/-- Two different operations with the same name. -/
def dupBm (a b : List Opn) : Bool := decide (∃ x ∈ a, ∃ y ∈ b, x.2.1 = y.2.1 ∧ x.2.2.1 = y.2.2.1 ∧ x ≠ y)
def mergeV (a b : List Opn) : List Opn × Int :=
 if valV a ≠ 0 then ([], valV a) else if valV b ≠ 0 then ([], valV b) else if dupBm a b = true then ([], 5)
 else if valV (mg a b) ≠ 0 then ([], valV (mg a b)) else (mg a b, 0)
theorem valV_zero {l : List Opn} (h : valV l = 0) : l.length ≤ 360 ∧ ∀ k, k < l.length → stepErr l k = 0 := by
 have hl : ¬ 360 < l.length := fun q => by unfold valV at h; rw [if_pos q] at h; cases h
 refine ⟨by omega, fun k => ?_⟩
 induction k using Nat.strongRecOn with
 | _ k ih =>
   intro hk
   by_cases e : stepErr l k = 0
   · exact e
   · rw [← valV_err hl (fun j hj => ih j hj (by omega)) hk e]; exact h
theorem uniq_name {l : List Opn} (h : valV l = 0) {x y : Opn} (hx : x ∈ l) (hy : y ∈ l) (h1 : x.2.1 = y.2.1) (h2 : x.2.2.1 = y.2.2.1) : x = y := by
 obtain ⟨_, hz⟩ := valV_zero h
 obtain ⟨i, hi, rfl⟩ := List.getElem_of_mem hx
 obtain ⟨j, hj, rfl⟩ := List.getElem_of_mem hy
 have gi : l.getD i o0 = l[i] := by simp [hi]
 have gj : l.getD j o0 = l[j] := by simp [hj]
 rcases Nat.lt_trichotomy i j with e | e | e
 · have := (stepErr_zero (hz j hj)).2.2 i e
   rw [gi, gj] at this
   have := this h1
   omega
 · subst e; rfl
 · have := (stepErr_zero (hz i hi)).2.2 j e
   rw [gi, gj] at this
   have := this h1.symm
   omega
def mgR : List Opn → List Opn → List Opn
 | [], b => b
 | a, [] => a
 | x :: a, y :: b => if bfV x y = true then x :: mgR a (y :: b) else if bfV y x = true then y :: mgR (x :: a) b else x :: mgR a b
termination_by a b => a.length + b.length
theorem bfV_irr (x : Opn) : bfV x x = false := by unfold bfV; rw [decide_eq_false_iff_not]; omega
theorem bfV_asym {x y : Opn} (h : bfV x y = true) : bfV y x = false := by
 unfold bfV at *; rw [decide_eq_true_eq] at h; rw [decide_eq_false_iff_not]; omega
theorem bfV_trans {x y z : Opn} (h : bfV x y = true) (k : bfV y z = true) : bfV x z = true := by
 unfold bfV at *; rw [decide_eq_true_eq] at *; omega
theorem bfV_tot {x y : Opn} (h : bfV x y = false) (k : bfV y x = false) : x.2.1 = y.2.1 ∧ x.2.2.1 = y.2.2.1 := by
 unfold bfV at *; rw [decide_eq_false_iff_not] at *; omega
abbrev Srt (l : List Opn) : Prop := l.Pairwise (fun x y => bfV x y = true)
theorem srt_of {l : List Opn} (h : valV l = 0) : Srt l := by
 obtain ⟨_, hz⟩ := valV_zero h
 refine List.pairwise_iff_getElem.2 ?_
 have key : ∀ n i, (hj : i + n + 1 < l.length) → bfV (l[i]'(by omega)) l[i + n + 1] = true := by
  intro n
  induction n with
  | zero =>
    intro i hj
    have := (stepErr_zero (hz (i + 1) hj)).2.1 (by omega)
    simpa [List.getD_eq_getElem?_getD, hj, show i < l.length by omega] using this
  | succ n ih =>
    intro i hj
    have h1 := ih i (by omega)
    have := (stepErr_zero (hz (i + n + 2) (by omega))).2.1 (by omega)
    have h2 : bfV (l[i + n + 1]'(by omega)) (l[i + n + 2]'(by omega)) = true := by
     simpa [List.getD_eq_getElem?_getD, show i + n + 2 < l.length by omega, show i + n + 1 < l.length by omega] using this
    exact bfV_trans h1 h2
 intro i j hi hj hij
 have := key (j - i - 1) i (by omega)
 simpa [show i + (j - i - 1) + 1 = j by omega] using this
def NoD (a b : List Opn) : Prop := ∀ x ∈ a, ∀ y ∈ b, x.2.1 = y.2.1 → x.2.2.1 = y.2.2.1 → x = y
theorem noD_iff {a b : List Opn} : dupBm a b = false ↔ NoD a b := by
 unfold dupBm NoD
 rw [decide_eq_false_iff_not]
 constructor
 · intro h x hx y hy h1 h2
   exact Classical.byContradiction fun h3 => h ⟨x, hx, y, hy, h1, h2, h3⟩
 · rintro h ⟨x, hx, y, hy, h1, h2, h3⟩
   exact h3 (h x hx y hy h1 h2)
theorem mg_eq_mgR : ∀ (n : Nat) (a b : List Opn), a.length + b.length ≤ n → Srt a → Srt b → NoD a b → mg a b = mgR a b
 | _, [], b, _, _, _, _ => by simp [mg, mgR]
 | _, x :: a, [], _, _, _, _ => by simp [mg, mgR]
 | 0, x :: a, y :: b, h, _, _, _ => by simp at h
 | n + 1, x :: a, y :: b, h, sa, sb, nd => by
   simp only [List.length_cons] at h
   have sa' := (List.pairwise_cons.1 sa)
   have sb' := (List.pairwise_cons.1 sb)
   have n1 : NoD a (y :: b) := fun u hu v hv => nd u (List.mem_cons_of_mem _ hu) v hv
   have n2 : NoD (x :: a) b := fun u hu v hv => nd u hu v (List.mem_cons_of_mem _ hv)
   have n3 : NoD a b := fun u hu v hv => nd u (List.mem_cons_of_mem _ hu) v (List.mem_cons_of_mem _ hv)
   rw [mg, mgR]
   by_cases e : x = y
   · subst e
     rw [if_pos rfl, if_neg (by rw [bfV_irr]; exact fun q => by cases q), if_neg (by rw [bfV_irr]; exact fun q => by cases q)]
     rw [← mg_eq_mgR n a b (by omega) sa'.2 sb'.2 n3]
     cases b with
     | nil => simp [mg]; cases a <;> simp [mg]
     | cons z b =>
       have hz := sb'.1 z (List.mem_cons_self ..)
       rw [mg, if_neg (fun q => by subst q; rw [bfV_irr] at hz; cases hz), if_neg (by rw [bfV_asym hz]; exact fun q => by cases q)]
   · rw [if_neg e]
     by_cases h1 : bfV y x = true
     · rw [if_pos h1, if_neg (by rw [bfV_asym h1]; exact fun q => by cases q), if_pos h1, mg_eq_mgR n (x :: a) b (by simp; omega) sa sb'.2 n2]
     · rw [if_neg h1]
       by_cases h2 : bfV x y = true
       · rw [if_pos h2, mg_eq_mgR n a (y :: b) (by simp; omega) sa'.2 sb n1]
       · obtain ⟨k1, k2⟩ := bfV_tot (by simpa using h2) (by simpa using h1)
         exact absurd (nd x (List.mem_cons_self ..) y (List.mem_cons_self ..) k1 k2) e
end Go.Proofs.YtjhoidgpecgfoaaGreat
