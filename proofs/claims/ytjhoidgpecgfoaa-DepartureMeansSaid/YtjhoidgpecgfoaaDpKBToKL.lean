/- What bars a departure. -/
import Derived.Test.YtjhoidgpecgfoaaDpKOToKC
set_option linter.unusedSimpArgs false
set_option linter.unusedVariables false
set_option maxRecDepth 100000
set_option maxHeartbeats 4000000
namespace Go.Proofs.Ytjhoidgpecgfoaa
open Go.Ev

abbrev Hhd := Int × Int × Int × Bool × List (Pce × Flt) × List Cnt × List Opn
abbrev Bar := Int × Int × Plt
def hh0 : Hhd := (0, 0, 0, false, [], [], [])
def brS (n : Int) : List Bar := if n ≠ 0 then [(1, n, (0, 0, 0))] else []
def brH (x : Hhd) : List Bar := if x.2.2.2.1 = true then [(2, x.1, (0, 0, 0))] else []
def brU (p : List Plm) (x : Plt) : List Bar := if uncV p x = true then [(3, 0, x)] else []
def brA (r : List Rlg) (x : Plt) : List Bar := if mayV r x = false then [(4, reasonV r x, x)] else []
def brC (f : Flt) (o : Cnt) : List Bar := if o.flt = f ∧ overV o = true then [(5, o.num, (0, 0, 0))] else []
/-- What bars a departure. -/
def barsV (l : List Dpt) (f : Flt) (now : Int) (h : List Hhd) (c : List Cnt) (p : List Plm) (r : List Rlg) : List Bar :=
 brS (stateV l f now) ++ h.flatMap brH ++ (concV f c p).flatMap (brU p) ++ (concV f c p).flatMap (brA r) ++ c.flatMap (brC f)
theorem brS_len (n : Int) : (brS n).length ≤ 1 := by unfold brS; split <;> simp
theorem brH_len (x : Hhd) : (brH x).length ≤ 1 := by unfold brH; split <;> simp
theorem brU_len (p : List Plm) (x : Plt) : (brU p x).length ≤ 1 := by unfold brU; split <;> simp
theorem brA_len (p : List Rlg) (x : Plt) : (brA p x).length ≤ 1 := by unfold brA; split <;> simp
theorem brC_len (f : Flt) (x : Cnt) : (brC f x).length ≤ 1 := by unfold brC; split <;> simp
theorem fl1 {α β : Type} {g : α → List β} (h : ∀ x, (g x).length ≤ 1) (l : List α) : (l.flatMap g).length ≤ l.length := by
 have := flat_len g 1 l fun x _ => h x
 omega
theorem concV_len {f : Flt} {c : List Cnt} {p : List Plm} (h : SmC c p) : (concV f c p).length ≤ 1001000 := by
 unfold concV
 have h1 := setP_len (rawA f c ++ p.flatMap (rawP f c))
 have h2 := rawA_len (f := f) h c.length
 rw [List.take_length] at h2
 have h3 := rawP_len f c p
 have h4 := h.2.2.1
 rw [List.length_append] at h1
 omega
def con29 : BCon := { ps := [.d false (.int .i64), .d false (.int .i64), .d true yPL, .bx], rs := [], e := 62, k := .row 86 yBR, pre := fun _ (z : List Bar) => z.length ≤ 100000000, out := fun _ _ => (), nw := fun x _ => x, nx := fun (x : Int × Int × Plt × Unit × Unit) z => z ++ [(x.1, x.2.1, x.2.2.1)] }
theorem c29 : CtrOk Try.prog 29 con29.ctr :=
 box_sound (G := ⟨[], [], [], []⟩) tab_ok EnvOk.nil rfl Try.func29 rfl con29 79 (by kernel_rfl) (by decide) (by decide) rfl (by decide) rfl (by
  rintro ⟨(n : Int), (m : Int), ⟨(p1 : Int), (p2 : Int), (p3 : Int)⟩, _⟩ (z : List Bar) hpre hwf X hT hG hk hK
  have hz : z.length ≤ 100000000 := hpre
  (simp -implicitDefEqProofs only [go_sem, Prod.eta, Option.isSome_none, Option.isSome_some, Int.toNat_zero, Nat.reduceAdd, Nat.reduceMul, Nat.reduceSub, Nat.reduceEqDiff, Nat.reduceLT, Nat.reduceLeDiff, Nat.reduceShiftRight, Nat.reduceMod, Nat.reduceBEq, reduceCtorEq, reduceIte, reduceDIte, Int.reduceNeg, Bool.not_eq_true', Bool.not_eq_false', Bool.or_eq_true, Bool.or_eq_false_iff, Bool.and_eq_true, Bool.and_eq_false_iff, decide_eq_true_eq, decide_eq_false_iff_not, Classical.not_not, not_or, maxLen, con29, hT, hG, hk, hK, Try.results29] at hwf ⊢); (try simp (disch := decide +kernel) only [drawn, true_and, and_true])
  (repeat' (with_reducible (first | refine And.intro ?_ ?_ | intro _))) <;> (try (first | with_reducible (first | done | assumption | omega | contradiction) | decide))
  all_goals rfl)
def con16 : Con := { ps := [.d false (.sl yDP), .d true yFL, .d false (.int .i64), .d false (.sl yHH), .d false (.sl yCT), .d false (.sl yPM), .d false (.sl yRU)], rs := [.d false (.sl yBR)], pre := fun (x : List Dpt × Flt × Int × List Hhd × List Cnt × List Plm × List Rlg × Unit) => SmC x.2.2.2.2.1 x.2.2.2.2.2.1 ∧ x.2.2.2.1.length ≤ 1000, out := fun (x : List Dpt × Flt × Int × List Hhd × List Cnt × List Plm × List Rlg × Unit) => (barsV x.1 x.2.1 x.2.2.1 x.2.2.2.1 x.2.2.2.2.1 x.2.2.2.2.2.1 x.2.2.2.2.2.2.1, ()), nw := id }
theorem c16 : CtrOk Try.prog 16 con16.ctr :=
 con_sound (G := ⟨[(29, con29.ctr), (30, con30.ctr), (31, con31.ctr), (32, con32.ctr), (33, con33.ctr), (14, con14.ctr), (13, con13.ctr)], [], [], []⟩) tab_ok (EnvOk.cons c29 has29 (EnvOk.cons c30 has30 (EnvOk.cons c31 has31 (EnvOk.cons c32 has32 (EnvOk.cons c33 has33 (EnvOk.cons c14 has14 (EnvOk.cons c13 has13 EnvOk.nil))))))) rfl Try.func16 rfl con16 634986180006364451094446981503 (by kernel_rfl) (by decide) (by decide) rfl (by decide) rfl (by
  rintro ⟨(l : List Dpt), ⟨f1, (f2 : Int), f3, (f4 : Int)⟩, (now : Int), (h : List Hhd), (c : List Cnt), (p : List Plm), (r : List Rlg), _⟩ hpre hwf X hT hG hk hK
  obtain ⟨hsm, hhl⟩ : SmC c p ∧ h.length ≤ 1000 := hpre
  (simp -implicitDefEqProofs only [go_sem, Prod.eta, Option.isSome_none, Option.isSome_some, Int.toNat_zero, Nat.reduceAdd, Nat.reduceMul, Nat.reduceSub, Nat.reduceEqDiff, Nat.reduceLT, Nat.reduceLeDiff, Nat.reduceShiftRight, Nat.reduceMod, Nat.reduceBEq, reduceCtorEq, reduceIte, reduceDIte, Int.reduceNeg, Bool.not_eq_true', Bool.not_eq_false', Bool.or_eq_true, Bool.or_eq_false_iff, Bool.and_eq_true, Bool.and_eq_false_iff, decide_eq_true_eq, decide_eq_false_iff_not, Classical.not_not, not_or, maxLen, con16, con29, con30, con31, con32, con33, con14, con13, hT, hG, hk, hK, Try.results16] at hwf ⊢); (try simp (disch := decide +kernel) only [drawn, true_and, and_true])
  clear hwf
  obtain ⟨F, hF⟩ : ∃ F : Flt, F = (f1, f2, f3, f4) := ⟨_, rfl⟩
  have hFp : concV (f1, f2, f3, f4) c p = concV F c p := by rw [hF]
  obtain ⟨P, hP⟩ : ∃ P : List Plt, concV F c p = P := ⟨_, rfl⟩
  have hPl : P.length ≤ 1001000 := by rw [← hP]; exact concV_len hsm
  have hcl := hsm.1
  have eta3 : ∀ x : Plt, (x.1, x.2.1, x.2.2) = x := fun _ => rfl
  have hA1 := fl1 (g := brH) brH_len h
  have hA2 := fl1 (g := brU p) (brU_len p) P
  have hA3 := fl1 (g := brA r) (brA_len r) P
  obtain ⟨S, hS⟩ : ∃ S : List Bar, brS (stateV l (f1, f2, f3, f4) now) = S := ⟨_, rfl⟩
  have hSl : S.length ≤ 1 := by rw [← hS]; exact brS_len _
  have hS0 : S = if ¬ stateV l (f1, f2, f3, f4) now = 0 then [(1, stateV l (f1, f2, f3, f4) now, (0, 0, 0))] else [] := hS.symm
  have hF2 : barsV l (f1, f2, f3, f4) now h c p r = S ++ h.flatMap brH ++ P.flatMap (brU p) ++ P.flatMap (brA r) ++ c.flatMap (brC F) := by
   rw [← hP, ← hS, hF]; rfl
  refine fun _ => ⟨fun hs _ => ?_, fun hs _ => ?_⟩
  all_goals (
   refine evk_loop ⟨{ i : Nat // i ≤ h.length }, 1000, fun q => [(4, .one (.sl yCT c false)), (5, .one (.sl yPM p false)), (6, .one (.sl yRU r false)), (8, .one (.loc 70 0)), (15, .one (.loc 72 0)), (16, .one (.fn 29 [.loc 72 0])), (38, .one (.sl yHH h false)), (39, .one (.int .i64 h.length)), (40, .one (.int .i64 q.1))], fun q => [(70, .cells 39 [.str f1, .int .i64 f2, .str f3, .int .i64 f4]), (72, .cells 62 [.row 73]), (73, .row 86 yBR (S ++ (h.take q.1).flatMap brH))], fun q => h.length - q.1⟩ ⟨0, by omega⟩ ?_ ?_
   · simp only [go_sem, Prod.eta, Option.isSome_none, Option.isSome_some, Int.toNat_zero, Nat.reduceAdd, Nat.reduceMul, Nat.reduceSub, Nat.reduceEqDiff, Nat.reduceLT, Nat.reduceLeDiff, Nat.reduceShiftRight, Nat.reduceMod, Nat.reduceBEq, reduceCtorEq, reduceIte, reduceDIte, Int.reduceNeg]
     try simp only [List.take_zero, List.flatMap_nil, List.append_nil]
     try (first | rw [hS0, if_pos hs] | rw [hS0, if_neg (fun q => q hs)])
     try (first | rfl | exact ⟨rfl, rfl⟩ | (and_intros <;> first | trivial | rfl | omega))
   · rintro ⟨i0, (hi0 : i0 ≤ h.length)⟩
     have hb0 := fl1 (g := brH) (by intro x; first | exact brH_len x | exact brU_len p x | exact brA_len r x | exact brC_len F x) (h.take i0)
     have hc0 : (h.take i0).length ≤ h.length := by rw [List.length_take]; omega
     (simp -implicitDefEqProofs only [go_sem, Prod.eta, Option.isSome_none, Option.isSome_some, Int.toNat_zero, Nat.reduceAdd, Nat.reduceMul, Nat.reduceSub, Nat.reduceEqDiff, Nat.reduceLT, Nat.reduceLeDiff, Nat.reduceShiftRight, Nat.reduceMod, Nat.reduceBEq, reduceCtorEq, reduceIte, reduceDIte, Int.reduceNeg, Bool.not_eq_true', Bool.not_eq_false', Bool.or_eq_true, Bool.or_eq_false_iff, Bool.and_eq_true, Bool.and_eq_false_iff, decide_eq_true_eq, decide_eq_false_iff_not, Classical.not_not, not_or, maxLen, con16, con29, con30, con31, con32, con33, con14, con13, hT, hG, hk, hK, Try.results16]); (try simp (disch := decide +kernel) only [drawn, true_and, and_true])
     obtain ⟨o0, ho0⟩ : ∃ o, h.getD i0 hh0 = o := ⟨_, rfl⟩
     have eo0 : h.getD (i0 : Int).toNat (0, 0, 0, false, [], [], []) = o0 := ho0
     have hps0 : i0 < h.length → (h.take (i0 + 1)).flatMap brH = (h.take i0).flatMap brH ++ brH o0 := fun h => by rw [flat_take _ hh0 h, ho0]
     rw [eo0]
     try simp only [eta3]
     (repeat' (with_reducible (first | refine And.intro ?_ ?_ | intro _))) <;> (try (first | with_reducible (first | done | assumption | omega | contradiction) | decide))
     all_goals first
      | (have hq : o0.2.2.2.1 = true := by assumption
         have eb : brH o0 = _ := if_pos hq
         refine fin_lp ⟨i0 + 1, by omega⟩ ?_ (by dsimp only; omega)
         simp only [go_sem, Prod.eta, Option.isSome_none, Option.isSome_some, Int.toNat_zero, Nat.reduceAdd, Nat.reduceMul, Nat.reduceSub, Nat.reduceEqDiff, Nat.reduceLT, Nat.reduceLeDiff, Nat.reduceShiftRight, Nat.reduceMod, Nat.reduceBEq, reduceCtorEq, reduceIte, reduceDIte, Int.reduceNeg]
         rw [hps0 (by omega), eb, ← List.append_assoc]
         try (first | rfl | exact ⟨rfl, rfl⟩ | (and_intros <;> first | trivial | rfl | omega))
         done)
      | (have hq : o0.2.2.2.1 = false := by assumption
         have eb : brH o0 = _ := if_neg (by rw [hq]; simp)
         refine fin_lp ⟨i0 + 1, by omega⟩ ?_ (by dsimp only; omega)
         simp only [go_sem, Prod.eta, Option.isSome_none, Option.isSome_some, Int.toNat_zero, Nat.reduceAdd, Nat.reduceMul, Nat.reduceSub, Nat.reduceEqDiff, Nat.reduceLT, Nat.reduceLeDiff, Nat.reduceShiftRight, Nat.reduceMod, Nat.reduceBEq, reduceCtorEq, reduceIte, reduceDIte, Int.reduceNeg]
         rw [hps0 (by omega), eb, List.append_nil]
         try (first | rfl | exact ⟨rfl, rfl⟩ | (and_intros <;> first | trivial | rfl | omega))
         done)
      | (simp only [List.length_append]; omega)
      | (have ei : h.take i0 = h := List.take_of_length_le (by omega)
         rw [ei]
         simp only [hFp, hP]
         refine evk_loop ⟨{ i : Nat // i ≤ P.length }, 1000, fun q => [(4, .one (.sl yCT c false)), (5, .one (.sl yPM p false)), (6, .one (.sl yRU r false)), (8, .one (.loc 70 0)), (15, .one (.loc 72 0)), (16, .one (.fn 29 [.loc 72 0])), (20, .one (.sl yPL P false)), (56, .one (.sl yPL P false)), (57, .one (.int .i64 P.length)), (58, .one (.int .i64 q.1))], fun q => [(70, .cells 39 [.str f1, .int .i64 f2, .str f3, .int .i64 f4]), (72, .cells 62 [.row 73]), (73, .row 86 yBR (S ++ h.flatMap brH ++ (P.take q.1).flatMap (brU p)))], fun q => P.length - q.1⟩ ⟨0, by omega⟩ ?_ ?_
         · simp only [go_sem, Prod.eta, Option.isSome_none, Option.isSome_some, Int.toNat_zero, Nat.reduceAdd, Nat.reduceMul, Nat.reduceSub, Nat.reduceEqDiff, Nat.reduceLT, Nat.reduceLeDiff, Nat.reduceShiftRight, Nat.reduceMod, Nat.reduceBEq, reduceCtorEq, reduceIte, reduceDIte, Int.reduceNeg]
           try simp only [List.take_zero, List.flatMap_nil, List.append_nil]
           try (first | rfl | exact ⟨rfl, rfl⟩ | (and_intros <;> first | trivial | rfl | omega))
         · rintro ⟨i1, (hi1 : i1 ≤ P.length)⟩
           have hb1 := fl1 (g := (brU p)) (by intro x; first | exact brH_len x | exact brU_len p x | exact brA_len r x | exact brC_len F x) (P.take i1)
           have hc1 : (P.take i1).length ≤ P.length := by rw [List.length_take]; omega
           (simp -implicitDefEqProofs only [go_sem, Prod.eta, Option.isSome_none, Option.isSome_some, Int.toNat_zero, Nat.reduceAdd, Nat.reduceMul, Nat.reduceSub, Nat.reduceEqDiff, Nat.reduceLT, Nat.reduceLeDiff, Nat.reduceShiftRight, Nat.reduceMod, Nat.reduceBEq, reduceCtorEq, reduceIte, reduceDIte, Int.reduceNeg, Bool.not_eq_true', Bool.not_eq_false', Bool.or_eq_true, Bool.or_eq_false_iff, Bool.and_eq_true, Bool.and_eq_false_iff, decide_eq_true_eq, decide_eq_false_iff_not, Classical.not_not, not_or, maxLen, con16, con29, con30, con31, con32, con33, con14, con13, hT, hG, hk, hK, Try.results16]); (try simp (disch := decide +kernel) only [drawn, true_and, and_true])
           obtain ⟨o1, ho1⟩ : ∃ o, P.getD i1 pl0 = o := ⟨_, rfl⟩
           have eo1 : P.getD (i1 : Int).toNat (0, 0, 0) = o1 := ho1
           have hps1 : i1 < P.length → (P.take (i1 + 1)).flatMap (brU p) = (P.take i1).flatMap (brU p) ++ (brU p) o1 := fun h => by rw [flat_take _ pl0 h, ho1]
           rw [eo1]
           try simp only [eta3]
           (repeat' (with_reducible (first | refine And.intro ?_ ?_ | intro _))) <;> (try (first | with_reducible (first | done | assumption | omega | contradiction) | decide))
           all_goals first
            | (have hq : uncV p o1 = true := by assumption
               have eb : (brU p) o1 = _ := if_pos hq
               refine fin_lp ⟨i1 + 1, by omega⟩ ?_ (by dsimp only; omega)
               simp only [go_sem, Prod.eta, Option.isSome_none, Option.isSome_some, Int.toNat_zero, Nat.reduceAdd, Nat.reduceMul, Nat.reduceSub, Nat.reduceEqDiff, Nat.reduceLT, Nat.reduceLeDiff, Nat.reduceShiftRight, Nat.reduceMod, Nat.reduceBEq, reduceCtorEq, reduceIte, reduceDIte, Int.reduceNeg]
               rw [hps1 (by omega), eb, ← List.append_assoc]
               try (first | rfl | exact ⟨rfl, rfl⟩ | (and_intros <;> first | trivial | rfl | omega))
               done)
            | (have hq : uncV p o1 = false := by assumption
               have eb : (brU p) o1 = _ := if_neg (by rw [hq]; simp)
               refine fin_lp ⟨i1 + 1, by omega⟩ ?_ (by dsimp only; omega)
               simp only [go_sem, Prod.eta, Option.isSome_none, Option.isSome_some, Int.toNat_zero, Nat.reduceAdd, Nat.reduceMul, Nat.reduceSub, Nat.reduceEqDiff, Nat.reduceLT, Nat.reduceLeDiff, Nat.reduceShiftRight, Nat.reduceMod, Nat.reduceBEq, reduceCtorEq, reduceIte, reduceDIte, Int.reduceNeg]
               rw [hps1 (by omega), eb, List.append_nil]
               try (first | rfl | exact ⟨rfl, rfl⟩ | (and_intros <;> first | trivial | rfl | omega))
               done)
            | (simp only [List.length_append]; omega)
            | (have ei : P.take i1 = P := List.take_of_length_le (by omega)
               rw [ei]
               refine evk_loop ⟨{ i : Nat // i ≤ P.length }, 1000, fun q => [(4, .one (.sl yCT c false)), (5, .one (.sl yPM p false)), (6, .one (.sl yRU r false)), (8, .one (.loc 70 0)), (15, .one (.loc 72 0)), (16, .one (.fn 29 [.loc 72 0])), (69, .one (.sl yPL P false)), (70, .one (.int .i64 P.length)), (71, .one (.int .i64 q.1))], fun q => [(70, .cells 39 [.str f1, .int .i64 f2, .str f3, .int .i64 f4]), (72, .cells 62 [.row 73]), (73, .row 86 yBR (S ++ h.flatMap brH ++ P.flatMap (brU p) ++ (P.take q.1).flatMap (brA r)))], fun q => P.length - q.1⟩ ⟨0, by omega⟩ ?_ ?_
               · simp only [go_sem, Prod.eta, Option.isSome_none, Option.isSome_some, Int.toNat_zero, Nat.reduceAdd, Nat.reduceMul, Nat.reduceSub, Nat.reduceEqDiff, Nat.reduceLT, Nat.reduceLeDiff, Nat.reduceShiftRight, Nat.reduceMod, Nat.reduceBEq, reduceCtorEq, reduceIte, reduceDIte, Int.reduceNeg]
                 try simp only [List.take_zero, List.flatMap_nil, List.append_nil]
                 try (first | rfl | exact ⟨rfl, rfl⟩ | (and_intros <;> first | trivial | rfl | omega))
               · rintro ⟨i2, (hi2 : i2 ≤ P.length)⟩
                 have hb2 := fl1 (g := (brA r)) (by intro x; first | exact brH_len x | exact brU_len p x | exact brA_len r x | exact brC_len F x) (P.take i2)
                 have hc2 : (P.take i2).length ≤ P.length := by rw [List.length_take]; omega
                 (simp -implicitDefEqProofs only [go_sem, Prod.eta, Option.isSome_none, Option.isSome_some, Int.toNat_zero, Nat.reduceAdd, Nat.reduceMul, Nat.reduceSub, Nat.reduceEqDiff, Nat.reduceLT, Nat.reduceLeDiff, Nat.reduceShiftRight, Nat.reduceMod, Nat.reduceBEq, reduceCtorEq, reduceIte, reduceDIte, Int.reduceNeg, Bool.not_eq_true', Bool.not_eq_false', Bool.or_eq_true, Bool.or_eq_false_iff, Bool.and_eq_true, Bool.and_eq_false_iff, decide_eq_true_eq, decide_eq_false_iff_not, Classical.not_not, not_or, maxLen, con16, con29, con30, con31, con32, con33, con14, con13, hT, hG, hk, hK, Try.results16]); (try simp (disch := decide +kernel) only [drawn, true_and, and_true])
                 obtain ⟨o2, ho2⟩ : ∃ o, P.getD i2 pl0 = o := ⟨_, rfl⟩
                 have eo2 : P.getD (i2 : Int).toNat (0, 0, 0) = o2 := ho2
                 have hps2 : i2 < P.length → (P.take (i2 + 1)).flatMap (brA r) = (P.take i2).flatMap (brA r) ++ (brA r) o2 := fun h => by rw [flat_take _ pl0 h, ho2]
                 rw [eo2]
                 try simp only [eta3]
                 (repeat' (with_reducible (first | refine And.intro ?_ ?_ | intro _))) <;> (try (first | with_reducible (first | done | assumption | omega | contradiction) | decide))
                 all_goals first
                  | (have hq : mayV r o2 = false := by assumption
                     have eb : (brA r) o2 = _ := if_pos hq
                     refine fin_lp ⟨i2 + 1, by omega⟩ ?_ (by dsimp only; omega)
                     simp only [go_sem, Prod.eta, Option.isSome_none, Option.isSome_some, Int.toNat_zero, Nat.reduceAdd, Nat.reduceMul, Nat.reduceSub, Nat.reduceEqDiff, Nat.reduceLT, Nat.reduceLeDiff, Nat.reduceShiftRight, Nat.reduceMod, Nat.reduceBEq, reduceCtorEq, reduceIte, reduceDIte, Int.reduceNeg]
                     rw [hps2 (by omega), eb, ← List.append_assoc]
                     try (first | rfl | exact ⟨rfl, rfl⟩ | (and_intros <;> first | trivial | rfl | omega))
                     done)
                  | (have hq : mayV r o2 = true := by assumption
                     have eb : (brA r) o2 = _ := if_neg (by rw [hq]; simp)
                     refine fin_lp ⟨i2 + 1, by omega⟩ ?_ (by dsimp only; omega)
                     simp only [go_sem, Prod.eta, Option.isSome_none, Option.isSome_some, Int.toNat_zero, Nat.reduceAdd, Nat.reduceMul, Nat.reduceSub, Nat.reduceEqDiff, Nat.reduceLT, Nat.reduceLeDiff, Nat.reduceShiftRight, Nat.reduceMod, Nat.reduceBEq, reduceCtorEq, reduceIte, reduceDIte, Int.reduceNeg]
                     rw [hps2 (by omega), eb, List.append_nil]
                     try (first | rfl | exact ⟨rfl, rfl⟩ | (and_intros <;> first | trivial | rfl | omega))
                     done)
                  | (simp only [List.length_append]; omega)
                  | (have ei : P.take i2 = P := List.take_of_length_le (by omega)
                     rw [ei]
                     refine evk_loop ⟨{ i : Nat // i ≤ c.length }, 1000, fun q => [(4, .one (.sl yCT c false)), (5, .one (.sl yPM p false)), (6, .one (.sl yRU r false)), (8, .one (.loc 70 0)), (15, .one (.loc 72 0)), (16, .one (.fn 29 [.loc 72 0])), (86, .one (.sl yCT c false)), (87, .one (.int .i64 c.length)), (88, .one (.int .i64 q.1))], fun q => [(70, .cells 39 [.str f1, .int .i64 f2, .str f3, .int .i64 f4]), (72, .cells 62 [.row 73]), (73, .row 86 yBR (S ++ h.flatMap brH ++ P.flatMap (brU p) ++ P.flatMap (brA r) ++ (c.take q.1).flatMap (brC F)))], fun q => c.length - q.1⟩ ⟨0, by omega⟩ ?_ ?_
                     · simp only [go_sem, Prod.eta, Option.isSome_none, Option.isSome_some, Int.toNat_zero, Nat.reduceAdd, Nat.reduceMul, Nat.reduceSub, Nat.reduceEqDiff, Nat.reduceLT, Nat.reduceLeDiff, Nat.reduceShiftRight, Nat.reduceMod, Nat.reduceBEq, reduceCtorEq, reduceIte, reduceDIte, Int.reduceNeg]
                       try simp only [List.take_zero, List.flatMap_nil, List.append_nil]
                       try (first | rfl | exact ⟨rfl, rfl⟩ | (and_intros <;> first | trivial | rfl | omega))
                     · rintro ⟨i3, (hi3 : i3 ≤ c.length)⟩
                       have hb3 := fl1 (g := (brC F)) (by intro x; first | exact brH_len x | exact brU_len p x | exact brA_len r x | exact brC_len F x) (c.take i3)
                       have hc3 : (c.take i3).length ≤ c.length := by rw [List.length_take]; omega
                       (simp -implicitDefEqProofs only [go_sem, Prod.eta, Option.isSome_none, Option.isSome_some, Int.toNat_zero, Nat.reduceAdd, Nat.reduceMul, Nat.reduceSub, Nat.reduceEqDiff, Nat.reduceLT, Nat.reduceLeDiff, Nat.reduceShiftRight, Nat.reduceMod, Nat.reduceBEq, reduceCtorEq, reduceIte, reduceDIte, Int.reduceNeg, Bool.not_eq_true', Bool.not_eq_false', Bool.or_eq_true, Bool.or_eq_false_iff, Bool.and_eq_true, Bool.and_eq_false_iff, decide_eq_true_eq, decide_eq_false_iff_not, Classical.not_not, not_or, maxLen, con16, con29, con30, con31, con32, con33, con14, con13, hT, hG, hk, hK, Try.results16]); (try simp (disch := decide +kernel) only [drawn, true_and, and_true])
                       obtain ⟨o3, ho3⟩ : ∃ o, c.getD i3 ct0 = o := ⟨_, rfl⟩
                       have eo3 : c.getD (i3 : Int).toNat (0, (ByteArray.empty, 0, ByteArray.empty, 0), 0, 0, 0, 0, 0, []) = o3 := ho3
                       have hps3 : i3 < c.length → (c.take (i3 + 1)).flatMap (brC F) = (c.take i3).flatMap (brC F) ++ (brC F) o3 := fun h => by rw [flat_take _ ct0 h, ho3]
                       rw [eo3]
                       try simp only [eta3]
                       (repeat' (with_reducible (first | refine And.intro ?_ ?_ | intro _))) <;> (try (first | with_reducible (first | done | assumption | omega | contradiction) | decide))
                       all_goals first
                        | (have hq : (o3.2.1.1 = f1 ∧ o3.2.1.2.1 = f2 ∧ o3.2.1.2.2.1 = f3 ∧ o3.2.1.2.2.2 = f4) ∧ overV o3 = true := by first | assumption | exact ⟨by assumption, by assumption⟩ | exact ⟨⟨by assumption, by assumption, by assumption, by assumption⟩, by assumption⟩ | (rename_i hx; exact ⟨⟨hx.1, hx.2.1, hx.2.2.1, hx.2.2.2.1⟩, hx.2.2.2.2⟩)
                           have eb : (brC F) o3 = _ := if_pos ⟨(by rw [hF]; exact (fltE o3.2.1 (f1, f2, f3, f4)).mp hq.1), hq.2⟩
                           refine fin_lp ⟨i3 + 1, by omega⟩ ?_ (by dsimp only; omega)
                           simp only [go_sem, Prod.eta, Option.isSome_none, Option.isSome_some, Int.toNat_zero, Nat.reduceAdd, Nat.reduceMul, Nat.reduceSub, Nat.reduceEqDiff, Nat.reduceLT, Nat.reduceLeDiff, Nat.reduceShiftRight, Nat.reduceMod, Nat.reduceBEq, reduceCtorEq, reduceIte, reduceDIte, Int.reduceNeg]
                           rw [hps3 (by omega), eb, ← List.append_assoc]
                           try (first | rfl | exact ⟨rfl, rfl⟩ | (and_intros <;> first | trivial | rfl | omega))
                           done)
                        | (have hq : ¬ (o3.flt = F ∧ overV o3 = true) := by
                            rw [hF, ← fltE]
                            first | (rename_i hx; rcases hx with hx | hx; exact fun h => (by rcases hx with q | q | q | q <;> simp_all); exact fun h => by simp_all) | (rename_i hx; exact fun h => by simp_all) | simp_all
                           have eb : (brC F) o3 = _ := if_neg hq
                           refine fin_lp ⟨i3 + 1, by omega⟩ ?_ (by dsimp only; omega)
                           simp only [go_sem, Prod.eta, Option.isSome_none, Option.isSome_some, Int.toNat_zero, Nat.reduceAdd, Nat.reduceMul, Nat.reduceSub, Nat.reduceEqDiff, Nat.reduceLT, Nat.reduceLeDiff, Nat.reduceShiftRight, Nat.reduceMod, Nat.reduceBEq, reduceCtorEq, reduceIte, reduceDIte, Int.reduceNeg]
                           rw [hps3 (by omega), eb, List.append_nil]
                           try (first | rfl | exact ⟨rfl, rfl⟩ | (and_intros <;> first | trivial | rfl | omega))
                           done)
                        | (simp only [List.length_append]; omega)
                        | (have ei : c.take i3 = c := List.take_of_length_le (by omega)
                           rw [ei, hF2]))))))
end Go.Proofs.Ytjhoidgpecgfoaa

/- What the statements about departures share. -/
set_option linter.unusedSimpArgs false
set_option linter.unusedVariables false
set_option maxRecDepth 100000
set_option maxHeartbeats 8000000
namespace Go.Proofs.Ytjhoidgpecgfoaa
open Go.Ev

attribute [local go_sem] List.set_cons_succ List.set_cons_zero List.getD_cons_succ List.getD_cons_zero List.set_nil
def con7 : RCon := { ps := [.p 67 ySR, .d false (.int .i64)], rs := [.o 37 yRU], pre := fun (x : Src × Int × Unit) => 0 ≤ x.1.2 ∧ 0 ≤ x.2.1 ∧ x.2.1 ≤ 1000, rel := fun (x : Src × Int × Unit) (y : List Rlg × Unit) (z : Src × Int × Unit) => 0 ≤ z.1.2 ∧ (y.1.length : Int) ≤ x.2.1 }
theorem c7 : RCtrOk Try.prog 7 con7.rctr :=
 rcon_sound (G := ⟨[(8, con8.ctr), (19, con19.ctr)], [], [], []⟩) tab_ok (EnvOk.cons c8 has8 (EnvOk.cons c19 has19 EnvOk.nil)) rfl Try.func7 rfl con7 83894899 (by kernel_rfl) (by decide) (by decide) rfl (by decide) rfl (by
  rintro ⟨⟨(s : List Int), (a : Int)⟩, (n : Int), _⟩ hpre hwf X hT hG hk hK
  obtain ⟨h1, h2, h3⟩ : 0 ≤ a ∧ 0 ≤ n ∧ n ≤ 1000 := hpre
  (simp -implicitDefEqProofs only [go_sem, Prod.eta, Option.isSome_none, Option.isSome_some, Int.toNat_zero, Nat.reduceAdd, Nat.reduceMul, Nat.reduceSub, Nat.reduceEqDiff, Nat.reduceLT, Nat.reduceLeDiff, Nat.reduceShiftRight, Nat.reduceMod, Nat.reduceBEq, reduceCtorEq, reduceIte, reduceDIte, Int.reduceNeg, Bool.not_eq_true', Bool.not_eq_false', Bool.or_eq_true, Bool.or_eq_false_iff, Bool.and_eq_true, Bool.and_eq_false_iff, decide_eq_true_eq, decide_eq_false_iff_not, Classical.not_not, not_or, maxLen, con7, con8, con19, hT, hG, hk, hK, Try.results7] at hwf ⊢); (try simp (disch := decide +kernel) only [drawn, true_and, and_true])
  refine evk_loop ⟨{ q : Src × List Rlg × Nat // 0 ≤ q.1.2 ∧ q.2.1.length ≤ q.2.2 ∧ (q.2.2 : Int) ≤ n }, 1000, fun q => [(0, .one (.loc 0 0)), (1, .one (.int .i64 n)), (5, .one (.row 64)), (6, .one (.int .i64 q.1.2.2))],
   fun q => [(0, .cells 67 [.sl (.int .i64) q.1.1.1 false, .int .i64 q.1.1.2]), (64, .row 37 yRU q.1.2.1)], fun q => n.toNat - q.1.2.2⟩ ⟨((s, a), [], 0), h1, Nat.le_refl _, h2⟩ ?_ ?_
  · simp only [go_sem, Prod.eta, Option.isSome_none, Option.isSome_some, Int.toNat_zero, Nat.reduceAdd, Nat.reduceMul, Nat.reduceSub, Nat.reduceEqDiff, Nat.reduceLT, Nat.reduceLeDiff, Nat.reduceShiftRight, Nat.reduceMod, Nat.reduceBEq, reduceCtorEq, reduceIte, reduceDIte, Int.reduceNeg]
    try (first | rfl | exact ⟨rfl, rfl⟩ | (and_intros <;> first | trivial | rfl | omega))
  · rintro ⟨⟨⟨s, a⟩, l, i⟩, (h1 : 0 ≤ a), (hl : l.length ≤ i), (hi : (i : Int) ≤ n)⟩
    (simp -implicitDefEqProofs only [go_sem, Prod.eta, Option.isSome_none, Option.isSome_some, Int.toNat_zero, Nat.reduceAdd, Nat.reduceMul, Nat.reduceSub, Nat.reduceEqDiff, Nat.reduceLT, Nat.reduceLeDiff, Nat.reduceShiftRight, Nat.reduceMod, Nat.reduceBEq, reduceCtorEq, reduceIte, reduceDIte, Int.reduceNeg, Bool.not_eq_true', Bool.not_eq_false', Bool.or_eq_true, Bool.or_eq_false_iff, Bool.and_eq_true, Bool.and_eq_false_iff, decide_eq_true_eq, decide_eq_false_iff_not, Classical.not_not, not_or, maxLen, con7, con8, con19, hT, hG, hk, hK, Try.results7]); (try simp (disch := decide +kernel) only [drawn, true_and, and_true])
    have p1 : 0 ≤ (Src.step (s, a)).snd := step_pos h1
    have p2 : 0 ≤ (Src.step (s, a)).step.snd := step_pos p1
    have r1 := goMod_bd (Src.raw (s, a)) 4 (by omega)
    have r2 := goMod_bd (Src.step (s, a)).raw 8 (by omega)
    have r3 := goMod_bd (Src.step (s, a)).raw 5 (by omega)
    (repeat' (with_reducible (first | refine And.intro ?_ ?_ | intro _))) <;> (try (first | with_reducible (first | done | assumption | omega | contradiction) | decide))
    all_goals first
     | (have hv : goMod (Src.raw (s, a)) 4 = 1 := by assumption
        refine fin_lp ⟨((Src.step (s, a)).step, l ++ [(platesV i, false, 0, 1 + goMod (Src.step (s, a)).raw 8)], i + 1), p2, (by rw [List.length_append, List.length_singleton]; show l.length + 1 ≤ i + 1; omega), (by show ((i + 1 : Nat) : Int) ≤ n; omega)⟩ ?_ (by dsimp only; omega)
        simp only [go_sem, Prod.eta, Option.isSome_none, Option.isSome_some, Int.toNat_zero, Nat.reduceAdd, Nat.reduceMul, Nat.reduceSub, Nat.reduceEqDiff, Nat.reduceLT, Nat.reduceLeDiff, Nat.reduceShiftRight, Nat.reduceMod, Nat.reduceBEq, reduceCtorEq, reduceIte, reduceDIte, Int.reduceNeg]
        try (first | rfl | exact ⟨rfl, rfl⟩ | (and_intros <;> first | trivial | rfl | omega))
        done)
     | (refine fin_lp ⟨((Src.step (s, a)).step, l ++ [(platesV i, true, 1 + goMod (Src.step (s, a)).raw 5, 0)], i + 1), p2, (by rw [List.length_append, List.length_singleton]; show l.length + 1 ≤ i + 1; omega), (by show ((i + 1 : Nat) : Int) ≤ n; omega)⟩ ?_ (by dsimp only; omega)
        simp only [go_sem, Prod.eta, Option.isSome_none, Option.isSome_some, Int.toNat_zero, Nat.reduceAdd, Nat.reduceMul, Nat.reduceSub, Nat.reduceEqDiff, Nat.reduceLT, Nat.reduceLeDiff, Nat.reduceShiftRight, Nat.reduceMod, Nat.reduceBEq, reduceCtorEq, reduceIte, reduceDIte, Int.reduceNeg]
        try (first | rfl | exact ⟨rfl, rfl⟩ | (and_intros <;> first | trivial | rfl | omega))
        done)
     | (refine fin_lp ⟨(Src.step (s, a), l, i + 1), p1, (by show l.length ≤ i + 1; omega), (by show ((i + 1 : Nat) : Int) ≤ n; omega)⟩ ?_ (by dsimp only; omega)
        simp only [go_sem, Prod.eta, Option.isSome_none, Option.isSome_some, Int.toNat_zero, Nat.reduceAdd, Nat.reduceMul, Nat.reduceSub, Nat.reduceEqDiff, Nat.reduceLT, Nat.reduceLeDiff, Nat.reduceShiftRight, Nat.reduceMod, Nat.reduceBEq, reduceCtorEq, reduceIte, reduceDIte, Int.reduceNeg]
        try (first | rfl | exact ⟨rfl, rfl⟩ | (and_intros <;> first | trivial | rfl | omega))
        done)
     | exact ⟨(l, ()), ((s, a), n, ()), ⟨h1, (by show (l.length : Int) ≤ n; omega)⟩, rfl, rfl, rfl⟩
     | fail)
def dayD (i : Nat) : Dpt := (fltsV i, ⟨#[76, 72, 82]⟩, 10, 40, 50, 0, 0)
def dayL (i : Nat) : List Dpt := (List.range i).map dayD
theorem dayL_succ (i : Nat) : dayL (i + 1) = dayL i ++ [dayD i] := by unfold dayL; rw [List.range_succ, List.map_append]; rfl
theorem dayL_len (i : Nat) : (dayL i).length = i := by unfold dayL; simp
def dayV : List Dpt := dayL 3
def con5 : Con := { ps := [], rs := [.o 41 yDP], pre := fun _ => True, out := fun _ => (dayV, ()), nw := id }
theorem c5 : CtrOk Try.prog 5 con5.ctr :=
 con_sound (G := ⟨[(11, con11.ctr)], [], [], []⟩) tab_ok (EnvOk.cons c11 has11 EnvOk.nil) rfl Try.func5 rfl con5 23 (by kernel_rfl) (by decide) (by decide) rfl (by decide) rfl (by
  rintro ⟨⟩ hpre hwf X hT hG hk hK
  (simp -implicitDefEqProofs only [go_sem, Prod.eta, Option.isSome_none, Option.isSome_some, Int.toNat_zero, Nat.reduceAdd, Nat.reduceMul, Nat.reduceSub, Nat.reduceEqDiff, Nat.reduceLT, Nat.reduceLeDiff, Nat.reduceShiftRight, Nat.reduceMod, Nat.reduceBEq, reduceCtorEq, reduceIte, reduceDIte, Int.reduceNeg, Bool.not_eq_true', Bool.not_eq_false', Bool.or_eq_true, Bool.or_eq_false_iff, Bool.and_eq_true, Bool.and_eq_false_iff, decide_eq_true_eq, decide_eq_false_iff_not, Classical.not_not, not_or, maxLen, con5, con11, hT, hG, hk, hK, Try.results5] at hwf ⊢); (try simp (disch := decide +kernel) only [drawn, true_and, and_true])
  refine evk_loop ⟨{ i : Nat // i ≤ 3 }, 1000, fun q => [(1, .one (.row 64)), (2, .one (.int .i64 q.1))], fun q => [(64, .row 41 yDP (dayL q.1))], fun q => 3 - q.1⟩ ⟨0, by omega⟩ ?_ ?_
  · simp only [go_sem, Prod.eta, Option.isSome_none, Option.isSome_some, Int.toNat_zero, Nat.reduceAdd, Nat.reduceMul, Nat.reduceSub, Nat.reduceEqDiff, Nat.reduceLT, Nat.reduceLeDiff, Nat.reduceShiftRight, Nat.reduceMod, Nat.reduceBEq, reduceCtorEq, reduceIte, reduceDIte, Int.reduceNeg]
    try (first | rfl | exact ⟨rfl, rfl⟩ | (and_intros <;> first | trivial | rfl | omega))
  · rintro ⟨i, (hi : i ≤ 3)⟩
    (simp -implicitDefEqProofs only [go_sem, Prod.eta, Option.isSome_none, Option.isSome_some, Int.toNat_zero, Nat.reduceAdd, Nat.reduceMul, Nat.reduceSub, Nat.reduceEqDiff, Nat.reduceLT, Nat.reduceLeDiff, Nat.reduceShiftRight, Nat.reduceMod, Nat.reduceBEq, reduceCtorEq, reduceIte, reduceDIte, Int.reduceNeg, Bool.not_eq_true', Bool.not_eq_false', Bool.or_eq_true, Bool.or_eq_false_iff, Bool.and_eq_true, Bool.and_eq_false_iff, decide_eq_true_eq, decide_eq_false_iff_not, Classical.not_not, not_or, maxLen, con5, con11, hT, hG, hk, hK, Try.results5]); (try simp (disch := decide +kernel) only [drawn, true_and, and_true])
    (repeat' (with_reducible (first | refine And.intro ?_ ?_ | intro _))) <;> (try (first | with_reducible (first | done | assumption | omega | contradiction) | decide))
    all_goals first
     | (refine fin_lp ⟨i + 1, by omega⟩ ?_ (by dsimp only; omega)
        simp only [go_sem, Prod.eta, Option.isSome_none, Option.isSome_some, Int.toNat_zero, Nat.reduceAdd, Nat.reduceMul, Nat.reduceSub, Nat.reduceEqDiff, Nat.reduceLT, Nat.reduceLeDiff, Nat.reduceShiftRight, Nat.reduceMod, Nat.reduceBEq, reduceCtorEq, reduceIte, reduceDIte, Int.reduceNeg]
        rw [dayL_succ]
        try (first | rfl | exact ⟨rfl, rfl⟩ | (and_intros <;> first | trivial | rfl | omega))
        done)
     | (rw [show i = 3 by omega]; rfl)
     | (simp only [dayL_len]; omega)
     | fail)
def heldC (i : Nat) : Cnt := ((i : Int) + 1, fltsV 0, 31, 9000, 50, (i : Int) + 1, 0, [])
def heldV (n : Nat) : List Cnt := (List.range n).map heldC
theorem heldV_succ (i : Nat) : heldV (i + 1) = heldV i ++ [heldC i] := by unfold heldV; rw [List.range_succ, List.map_append]; rfl
theorem heldV_len (i : Nat) : (heldV i).length = i := by unfold heldV; simp
def con34 : Con := { ps := [.d false (.int .i64)], rs := [.o 54 yCT], pre := fun (x : Int × Unit) => 0 ≤ x.1 ∧ x.1 ≤ 1000, out := fun (x : Int × Unit) => (heldV x.1.toNat, ()), nw := id }
theorem c34 : CtrOk Try.prog 34 con34.ctr :=
 con_sound (G := ⟨[(11, con11.ctr)], [], [], []⟩) tab_ok (EnvOk.cons c11 has11 EnvOk.nil) rfl Try.func34 rfl con34 157 (by kernel_rfl) (by decide) (by decide) rfl (by decide) rfl (by
  rintro ⟨(n : Int), _⟩ hpre hwf X hT hG hk hK
  obtain ⟨h1, h2⟩ : 0 ≤ n ∧ n ≤ 1000 := hpre
  (simp -implicitDefEqProofs only [go_sem, Prod.eta, Option.isSome_none, Option.isSome_some, Int.toNat_zero, Nat.reduceAdd, Nat.reduceMul, Nat.reduceSub, Nat.reduceEqDiff, Nat.reduceLT, Nat.reduceLeDiff, Nat.reduceShiftRight, Nat.reduceMod, Nat.reduceBEq, reduceCtorEq, reduceIte, reduceDIte, Int.reduceNeg, Bool.not_eq_true', Bool.not_eq_false', Bool.or_eq_true, Bool.or_eq_false_iff, Bool.and_eq_true, Bool.and_eq_false_iff, decide_eq_true_eq, decide_eq_false_iff_not, Classical.not_not, not_or, maxLen, con34, con11, hT, hG, hk, hK, Try.results34] at hwf ⊢); (try simp (disch := decide +kernel) only [drawn, true_and, and_true])
  refine evk_loop ⟨{ i : Nat // (i : Int) ≤ n }, 1000, fun q => [(0, .one (.int .i64 n)), (3, .one (.row 64)), (4, .one (.int .i64 (q.1 + 1)))], fun q => [(64, .row 54 yCT (heldV q.1))], fun q => n.toNat - q.1⟩ ⟨0, h1⟩ ?_ ?_
  · simp only [go_sem, Prod.eta, Option.isSome_none, Option.isSome_some, Int.toNat_zero, Nat.reduceAdd, Nat.reduceMul, Nat.reduceSub, Nat.reduceEqDiff, Nat.reduceLT, Nat.reduceLeDiff, Nat.reduceShiftRight, Nat.reduceMod, Nat.reduceBEq, reduceCtorEq, reduceIte, reduceDIte, Int.reduceNeg]
    try (first | rfl | exact ⟨rfl, rfl⟩ | (and_intros <;> first | trivial | rfl | omega))
  · rintro ⟨i, (hi : (i : Int) ≤ n)⟩
    (simp -implicitDefEqProofs only [go_sem, Prod.eta, Option.isSome_none, Option.isSome_some, Int.toNat_zero, Nat.reduceAdd, Nat.reduceMul, Nat.reduceSub, Nat.reduceEqDiff, Nat.reduceLT, Nat.reduceLeDiff, Nat.reduceShiftRight, Nat.reduceMod, Nat.reduceBEq, reduceCtorEq, reduceIte, reduceDIte, Int.reduceNeg, Bool.not_eq_true', Bool.not_eq_false', Bool.or_eq_true, Bool.or_eq_false_iff, Bool.and_eq_true, Bool.and_eq_false_iff, decide_eq_true_eq, decide_eq_false_iff_not, Classical.not_not, not_or, maxLen, con34, con11, hT, hG, hk, hK, Try.results34]); (try simp (disch := decide +kernel) only [drawn, true_and, and_true])
    (repeat' (with_reducible (first | refine And.intro ?_ ?_ | intro _))) <;> (try (first | with_reducible (first | done | assumption | omega | contradiction) | decide))
    all_goals first
     | (refine fin_lp ⟨i + 1, (by show ((i + 1 : Nat) : Int) ≤ n; omega)⟩ ?_ (by dsimp only; omega)
        simp only [go_sem, Prod.eta, Option.isSome_none, Option.isSome_some, Int.toNat_zero, Nat.reduceAdd, Nat.reduceMul, Nat.reduceSub, Nat.reduceEqDiff, Nat.reduceLT, Nat.reduceLeDiff, Nat.reduceShiftRight, Nat.reduceMod, Nat.reduceBEq, reduceCtorEq, reduceIte, reduceDIte, Int.reduceNeg]
        rw [heldV_succ]
        try (first | rfl | exact ⟨rfl, rfl⟩ | (and_intros <;> first | trivial | rfl | omega))
        done)
     | (rw [show n.toNat = i by omega]; done)
     | (rw [show n.toNat = i by omega]; rfl)
     | (simp only [heldV_len]; omega)
     | fail)
def con15 : Con := { ps := [.d false (.sl yBR)], rs := [.d false .bool], pre := fun _ => True, out := fun (x : List Bar × Unit) => (decide (x.1.length = 0), ()), nw := id }
theorem c15 : CtrOk Try.prog 15 con15.ctr :=
 con_sound (G := ⟨[], [], [], []⟩) tab_ok EnvOk.nil rfl Try.func15 rfl con15 5 (by kernel_rfl) (by decide) (by decide) rfl (by decide) rfl (by
  rintro ⟨(l : List Bar), _⟩ hpre hwf X hT hG hk hK
  (simp -implicitDefEqProofs only [go_sem, Prod.eta, Option.isSome_none, Option.isSome_some, Int.toNat_zero, Nat.reduceAdd, Nat.reduceMul, Nat.reduceSub, Nat.reduceEqDiff, Nat.reduceLT, Nat.reduceLeDiff, Nat.reduceShiftRight, Nat.reduceMod, Nat.reduceBEq, reduceCtorEq, reduceIte, reduceDIte, Int.reduceNeg, Bool.not_eq_true', Bool.not_eq_false', Bool.or_eq_true, Bool.or_eq_false_iff, Bool.and_eq_true, Bool.and_eq_false_iff, decide_eq_true_eq, decide_eq_false_iff_not, Classical.not_not, not_or, maxLen, con15, hT, hG, hk, hK, Try.results15] at hwf ⊢); (try simp (disch := decide +kernel) only [drawn, true_and, and_true])
  (repeat' (with_reducible (first | refine And.intro ?_ ?_ | intro _))) <;> (try (first | with_reducible (first | done | assumption | omega | contradiction) | decide))
  all_goals first | done | rfl | (rw [decide_eq_decide]; omega) | fail)
def con17 : Con := { ps := [], rs := [.d false .bool], pre := fun _ => True, out := fun _ => (true, ()), nw := id }
theorem c17 : CtrOk Try.prog 17 con17.ctr :=
 con_sound (G := ⟨[(34, con34.ctr), (5, con5.ctr), (16, con16.ctr), (15, con15.ctr), (19, con19.ctr), (11, con11.ctr)], [], [], []⟩) tab_ok (EnvOk.cons c34 has34 (EnvOk.cons c5 has5 (EnvOk.cons c16 has16 (EnvOk.cons c15 has15 (EnvOk.cons c19 has19 (EnvOk.cons c11 has11 EnvOk.nil)))))) rfl Try.func17 rfl con17 15 (by kernel_rfl) (by decide) (by decide) rfl (by decide) rfl (by
  rintro ⟨⟩ hpre hwf X hT hG hk hK
  (simp -implicitDefEqProofs only [go_sem, Prod.eta, Option.isSome_none, Option.isSome_some, Int.toNat_zero, Nat.reduceAdd, Nat.reduceMul, Nat.reduceSub, Nat.reduceEqDiff, Nat.reduceLT, Nat.reduceLeDiff, Nat.reduceShiftRight, Nat.reduceMod, Nat.reduceBEq, reduceCtorEq, reduceIte, reduceDIte, Int.reduceNeg, Bool.not_eq_true', Bool.not_eq_false', Bool.or_eq_true, Bool.or_eq_false_iff, Bool.and_eq_true, Bool.and_eq_false_iff, decide_eq_true_eq, decide_eq_false_iff_not, Classical.not_not, not_or, maxLen, con17, con34, con5, con16, con15, con19, con11, hT, hG, hk, hK, Try.results17] at hwf ⊢); (try simp (disch := decide +kernel) only [drawn, true_and, and_true])
  have e1 : heldV (Int.toNat 1) = [heldC 0] := rfl
  simp only [e1, List.getD_cons_zero, List.set_cons_zero]
  have hb : barsV dayV (fltsV 0) 40 [(1, 1, 0, false, [], [], []), (2, 1, 0, true, [], [], [])] [((heldC 0).1, (heldC 0).2.1, (heldC 0).2.2.1, (heldC 0).2.2.2.1, (heldC 0).2.2.2.2.1, (heldC 0).2.2.2.2.2.1, (heldC 0).2.2.2.2.2.2.1, [(platesV 1, 5, 0)])] [] [] = [(2, 2, 0, 0, 0), (4, 1, platesV 1)] := by decide +kernel
  simp only [hb, List.getD_cons_zero, List.getD_cons_succ, List.length_cons, List.length_nil]
  (repeat' (with_reducible (first | refine And.intro ?_ ?_ | intro _))) <;> (try (first | with_reducible (first | done | assumption | omega | contradiction) | decide))
  all_goals first
   | rfl
   | (refine ⟨by simp, fun o ho => ?_, by simp, fun y hy => by cases hy⟩; rw [List.mem_singleton.1 ho]; decide)
   | decide
   | fail)
end Go.Proofs.Ytjhoidgpecgfoaa
