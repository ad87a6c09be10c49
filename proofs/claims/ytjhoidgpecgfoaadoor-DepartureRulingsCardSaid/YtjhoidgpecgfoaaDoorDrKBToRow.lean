/- What bars a departure. -/
import Derived.Test.YtjhoidgpecgfoaaDoorDrKOToKC
import Derived.Test.YtjhoidgpecgfoaaDoorEvTab
import Derived.OpenShut
import Derived.JoinedCond
import Derived.Below
import Derived.ChangeSame
import Derived.ChangeArms
import Derived.WideKeyArgs
set_option linter.unusedSimpArgs false
set_option linter.unusedVariables false
set_option maxRecDepth 100000
set_option maxHeartbeats 4000000
namespace Go.Proofs.YtjhoidgpecgfoaaDoor
open Go.Ev

abbrev Hhd := Int × Int × Int × Bool × List (Pce × Flt) × List Cnt × List Opn
abbrev Bar := Int × Int × Plt
def hh0 : Hhd := (0, 0, 0, false, [], [], [])
def br0 : Bar := (0, 0, (0, 0, 0))
def brS (n : Int) : List Bar := if n ≠ 0 then [(1, n, (0, 0, 0))] else []
def brH (x : Hhd) : List Bar := if x.2.2.2.1 = true then [(2, x.1, (0, 0, 0))] else []
def brU (p : List Plm) (x : Plt) : List Bar := if uncV p x = true then [(3, 0, x)] else []
def brA (r : List Rlg) (x : Plt) : List Bar := if mayV r x = false then [(4, reasonV r x, x)] else []
def brC (f : Flt) (o : Cnt) : List Bar := if o.flt = f ∧ overV o = true then [(5, o.num, (0, 0, 0))] else []
/-- What bars a departure. -/
def barsV (l : List Dpt) (f : Flt) (now : Int) (h : List Hhd) (c : List Cnt) (p : List Plm) (r : List Rlg) : List Bar :=
 brS (stateV l f now) ++ h.flatMap brH ++ (concV f c p).flatMap (brU p) ++ (concV f c p).flatMap (brA r) ++ c.flatMap (brC f)
theorem brS_len (n : Int) : (brS n).length ≤ 1 := by unfold brS; split <;> simp
theorem brH_len (x : Hhd) : (brH x).length ≤ 1 := by unfold brH; split <;> simp
theorem brU_len (p : List Plm) (x : Plt) : (brU p x).length ≤ 1 := by unfold brU; split <;> simp
theorem brA_len (p : List Rlg) (x : Plt) : (brA p x).length ≤ 1 := by unfold brA; split <;> simp
theorem brC_len (f : Flt) (x : Cnt) : (brC f x).length ≤ 1 := by unfold brC; split <;> simp
theorem fl1 {α β : Type} {g : α → List β} (h : ∀ x, (g x).length ≤ 1) (l : List α) : (l.flatMap g).length ≤ l.length := by
 have := flat_len g 1 l fun x _ => h x
 omega
theorem concV_len {f : Flt} {c : List Cnt} {p : List Plm} (h : SmC c p) : (concV f c p).length ≤ 1001000 := by
 unfold concV
 have h1 := setP_len (rawA f c ++ p.flatMap (rawP f c))
 have h2 := rawA_len (f := f) h c.length
 rw [List.take_length] at h2
 have h3 := rawP_len f c p
 have h4 := h.2.2.1
 rw [List.length_append] at h1
 omega
def con32 : BCon := { ps := [.d false (.int .i64), .d false (.int .i64), .d true yPL, .bx], rs := [], e := 53, k := .row 57 yBR, pre := fun _ (z : List Bar) => z.length ≤ 100000000, out := fun _ _ => (), nw := fun x _ => x, nx := fun (x : Int × Int × Plt × Unit × Unit) z => z ++ [(x.1, x.2.1, x.2.2.1)] }
theorem c32 : CtrOk Tryd.prog 32 con32.ctr :=
 box_sound (G := ⟨[], [], [], [], []⟩) tab_ok EnvOk.nil rfl Tryd.func32 rfl con32 79 (by kernel_rfl) (by decide) (by decide) rfl (by decide) rfl (by
  rintro ⟨(n : Int), (m : Int), ⟨(p1 : Int), (p2 : Int), (p3 : Int)⟩, _⟩ (z : List Bar) hpre hwf X hT hG hk hK
  have hz : z.length ≤ 100000000 := hpre
  (simp -implicitDefEqProofs (maxSteps := 4000000) only [go_sem, Bool.not_eq_true', Bool.not_eq_false', Bool.or_eq_true, Bool.or_eq_false_iff, Bool.and_eq_true, Bool.and_eq_false_iff, decide_eq_true_eq, decide_eq_false_iff_not, Classical.not_not, not_or, maxLen, con32, hT, hG, hk, hK, Tryd.results32] at hwf ⊢); (try simp (disch := decide +kernel) only [drawn, true_and, and_true])
  (repeat' (with_reducible (first | refine And.intro ?_ ?_ | intro _))) <;> (try (first | with_reducible (first | done | assumption | omega | contradiction) | decide))
  all_goals rfl)
def con14 : Con := { ps := [.d false (.sl yDP), .d true yFL, .d false (.int .i64), .d false (.sl yHH), .d false (.sl yCT), .d false (.sl yPM), .d false (.sl yRU)], rs := [.d false (.sl yBR)], pre := fun (x : List Dpt × Flt × Int × List Hhd × List Cnt × List Plm × List Rlg × Unit) => SmC x.2.2.2.2.1 x.2.2.2.2.2.1 ∧ x.2.2.2.1.length ≤ 1000, out := fun (x : List Dpt × Flt × Int × List Hhd × List Cnt × List Plm × List Rlg × Unit) => (barsV x.1 x.2.1 x.2.2.1 x.2.2.2.1 x.2.2.2.2.1 x.2.2.2.2.2.1 x.2.2.2.2.2.2.1, ()), nw := id }
theorem c14 : CtrOk Tryd.prog 14 con14.ctr :=
 con_sound (G := ⟨[(32, con32.ctr), (33, con33.ctr), (13, con13.ctr), (34, con34.ctr), (36, con36.ctr), (35, con35.ctr), (37, con37.ctr)], [], [], [], []⟩) tab_ok (EnvOk.cons c32 has32 (EnvOk.cons c33 has33 (EnvOk.cons c13 has13 (EnvOk.cons c34 has34 (EnvOk.cons c36 has36 (EnvOk.cons c35 has35 (EnvOk.cons c37 has37 EnvOk.nil))))))) rfl Tryd.func14 rfl con14 634986180006364451094446981503 (by kernel_rfl) (by decide) (by decide) rfl (by decide) rfl (by
  rintro ⟨(l : List Dpt), ⟨f1, (f2 : Int), f3, (f4 : Int)⟩, (now : Int), (h : List Hhd), (c : List Cnt), (p : List Plm), (r : List Rlg), _⟩ hpre hwf X hT hG hk hK
  obtain ⟨hsm, hhl⟩ : SmC c p ∧ h.length ≤ 1000 := hpre
  (simp -implicitDefEqProofs (maxSteps := 4000000) only [go_sem, Bool.not_eq_true', Bool.not_eq_false', Bool.or_eq_true, Bool.or_eq_false_iff, Bool.and_eq_true, Bool.and_eq_false_iff, decide_eq_true_eq, decide_eq_false_iff_not, Classical.not_not, not_or, maxLen, con14, con32, con33, con13, con34, con36, con35, con37, hT, hG, hk, hK, Tryd.results14] at hwf ⊢); (try simp (disch := decide +kernel) only [drawn, true_and, and_true])
  clear hwf
  obtain ⟨F, hF⟩ : ∃ F : Flt, F = (f1, f2, f3, f4) := ⟨_, rfl⟩
  have hFp : concV (f1, f2, f3, f4) c p = concV F c p := by rw [hF]
  obtain ⟨P, hP⟩ : ∃ P : List Plt, concV F c p = P := ⟨_, rfl⟩
  have hPl : P.length ≤ 1001000 := by rw [← hP]; exact concV_len hsm
  have hcl := hsm.1
  have eta3 : ∀ x : Plt, (x.1, x.2.1, x.2.2) = x := fun _ => rfl
  have hA1 := fl1 (g := brH) brH_len h
  have hA2 := fl1 (g := brU p) (brU_len p) P
  have hA3 := fl1 (g := brA r) (brA_len r) P
  obtain ⟨S, hS⟩ : ∃ S : List Bar, brS (stateV l (f1, f2, f3, f4) now) = S := ⟨_, rfl⟩
  have hSl : S.length ≤ 1 := by rw [← hS]; exact brS_len _
  have hS0 : S = if ¬ stateV l (f1, f2, f3, f4) now = 0 then [(1, stateV l (f1, f2, f3, f4) now, (0, 0, 0))] else [] := hS.symm
  have hF2 : barsV l (f1, f2, f3, f4) now h c p r = S ++ h.flatMap brH ++ P.flatMap (brU p) ++ P.flatMap (brA r) ++ c.flatMap (brC F) := by
   rw [← hP, ← hS, hF]; rfl
  refine fun _ => ⟨fun hs _ => ?_, fun hs _ => ?_⟩
  all_goals (
   refine evk_loop ⟨{ i : Nat // i ≤ h.length }, 1000, fun q => [(4, .one (.sl yCT c false)), (5, .one (.sl yPM p false)), (6, .one (.sl yRU r false)), (8, .one (.loc 70 0)), (15, .one (.loc 72 0)), (16, .one (.fn 32 [.loc 72 0])), (38, .one (.sl yHH h false)), (39, .one (.int .i64 h.length)), (40, .one (.int .i64 q.1))], fun q => [(70, .cells 36 [.str f1, .int .i64 f2, .str f3, .int .i64 f4]), (72, .cells 53 [.row 73]), (73, .row 57 yBR (S ++ (h.take q.1).flatMap brH))], fun q => h.length - q.1⟩ ⟨0, by omega⟩ ?_ ?_
   · simp only [go_sem]
     try simp only [List.take_zero, List.flatMap_nil, List.append_nil]
     try (first | rw [hS0, if_pos hs] | rw [hS0, if_neg (fun q => q hs)])
     try (first | rfl | exact ⟨rfl, rfl⟩ | (and_intros <;> first | trivial | rfl | omega))
   · rintro ⟨i0, (hi0 : i0 ≤ h.length)⟩
     have hb0 := fl1 (g := brH) (by intro x; first | exact brH_len x | exact brU_len p x | exact brA_len r x | exact brC_len F x) (h.take i0)
     have hc0 : (h.take i0).length ≤ h.length := by rw [List.length_take]; omega
     (simp -implicitDefEqProofs (maxSteps := 4000000) only [go_sem, Bool.not_eq_true', Bool.not_eq_false', Bool.or_eq_true, Bool.or_eq_false_iff, Bool.and_eq_true, Bool.and_eq_false_iff, decide_eq_true_eq, decide_eq_false_iff_not, Classical.not_not, not_or, maxLen, con14, con32, con33, con13, con34, con36, con35, con37, hT, hG, hk, hK, Tryd.results14]); (try simp (disch := decide +kernel) only [drawn, true_and, and_true])
     obtain ⟨o0, ho0⟩ : ∃ o, h.getD i0 hh0 = o := ⟨_, rfl⟩
     have eo0 : h.getD (i0 : Int).toNat (0, 0, 0, false, [], [], []) = o0 := ho0
     have hps0 : i0 < h.length → (h.take (i0 + 1)).flatMap brH = (h.take i0).flatMap brH ++ brH o0 := fun h => by rw [flat_take _ hh0 h, ho0]
     rw [eo0]
     try simp only [eta3]
     (repeat' (with_reducible (first | refine And.intro ?_ ?_ | intro _))) <;> (try (first | with_reducible (first | done | assumption | omega | contradiction) | decide))
     all_goals first
      | (have hq : o0.2.2.2.1 = true := by assumption
         have eb : brH o0 = _ := if_pos hq
         refine fin_lp ⟨i0 + 1, by omega⟩ ?_ (by dsimp only; omega)
         simp only [go_sem]
         rw [hps0 (by omega), eb, ← List.append_assoc]
         try (first | rfl | exact ⟨rfl, rfl⟩ | (and_intros <;> first | trivial | rfl | omega))
         done)
      | (have hq : o0.2.2.2.1 = false := by assumption
         have eb : brH o0 = _ := if_neg (by rw [hq]; simp)
         refine fin_lp ⟨i0 + 1, by omega⟩ ?_ (by dsimp only; omega)
         simp only [go_sem]
         rw [hps0 (by omega), eb, List.append_nil]
         try (first | rfl | exact ⟨rfl, rfl⟩ | (and_intros <;> first | trivial | rfl | omega))
         done)
      | (simp only [List.length_append]; omega)
      | (have ei : h.take i0 = h := List.take_of_length_le (by omega)
         rw [ei]
         simp only [hFp, hP]
         refine evk_loop ⟨{ i : Nat // i ≤ P.length }, 1000, fun q => [(4, .one (.sl yCT c false)), (5, .one (.sl yPM p false)), (6, .one (.sl yRU r false)), (8, .one (.loc 70 0)), (15, .one (.loc 72 0)), (16, .one (.fn 32 [.loc 72 0])), (20, .one (.sl yPL P false)), (56, .one (.sl yPL P false)), (57, .one (.int .i64 P.length)), (58, .one (.int .i64 q.1))], fun q => [(70, .cells 36 [.str f1, .int .i64 f2, .str f3, .int .i64 f4]), (72, .cells 53 [.row 73]), (73, .row 57 yBR (S ++ h.flatMap brH ++ (P.take q.1).flatMap (brU p)))], fun q => P.length - q.1⟩ ⟨0, by omega⟩ ?_ ?_
         · simp only [go_sem]
           try simp only [List.take_zero, List.flatMap_nil, List.append_nil]
           try (first | rfl | exact ⟨rfl, rfl⟩ | (and_intros <;> first | trivial | rfl | omega))
         · rintro ⟨i1, (hi1 : i1 ≤ P.length)⟩
           have hb1 := fl1 (g := (brU p)) (by intro x; first | exact brH_len x | exact brU_len p x | exact brA_len r x | exact brC_len F x) (P.take i1)
           have hc1 : (P.take i1).length ≤ P.length := by rw [List.length_take]; omega
           (simp -implicitDefEqProofs (maxSteps := 4000000) only [go_sem, Bool.not_eq_true', Bool.not_eq_false', Bool.or_eq_true, Bool.or_eq_false_iff, Bool.and_eq_true, Bool.and_eq_false_iff, decide_eq_true_eq, decide_eq_false_iff_not, Classical.not_not, not_or, maxLen, con14, con32, con33, con13, con34, con36, con35, con37, hT, hG, hk, hK, Tryd.results14]); (try simp (disch := decide +kernel) only [drawn, true_and, and_true])
           obtain ⟨o1, ho1⟩ : ∃ o, P.getD i1 pl0 = o := ⟨_, rfl⟩
           have eo1 : P.getD (i1 : Int).toNat (0, 0, 0) = o1 := ho1
           have hps1 : i1 < P.length → (P.take (i1 + 1)).flatMap (brU p) = (P.take i1).flatMap (brU p) ++ (brU p) o1 := fun h => by rw [flat_take _ pl0 h, ho1]
           rw [eo1]
           try simp only [eta3]
           (repeat' (with_reducible (first | refine And.intro ?_ ?_ | intro _))) <;> (try (first | with_reducible (first | done | assumption | omega | contradiction) | decide))
           all_goals first
            | (have hq : uncV p o1 = true := by assumption
               have eb : (brU p) o1 = _ := if_pos hq
               refine fin_lp ⟨i1 + 1, by omega⟩ ?_ (by dsimp only; omega)
               simp only [go_sem]
               rw [hps1 (by omega), eb, ← List.append_assoc]
               try (first | rfl | exact ⟨rfl, rfl⟩ | (and_intros <;> first | trivial | rfl | omega))
               done)
            | (have hq : uncV p o1 = false := by assumption
               have eb : (brU p) o1 = _ := if_neg (by rw [hq]; simp)
               refine fin_lp ⟨i1 + 1, by omega⟩ ?_ (by dsimp only; omega)
               simp only [go_sem]
               rw [hps1 (by omega), eb, List.append_nil]
               try (first | rfl | exact ⟨rfl, rfl⟩ | (and_intros <;> first | trivial | rfl | omega))
               done)
            | (simp only [List.length_append]; omega)
            | (have ei : P.take i1 = P := List.take_of_length_le (by omega)
               rw [ei]
               refine evk_loop ⟨{ i : Nat // i ≤ P.length }, 1000, fun q => [(4, .one (.sl yCT c false)), (5, .one (.sl yPM p false)), (6, .one (.sl yRU r false)), (8, .one (.loc 70 0)), (15, .one (.loc 72 0)), (16, .one (.fn 32 [.loc 72 0])), (69, .one (.sl yPL P false)), (70, .one (.int .i64 P.length)), (71, .one (.int .i64 q.1))], fun q => [(70, .cells 36 [.str f1, .int .i64 f2, .str f3, .int .i64 f4]), (72, .cells 53 [.row 73]), (73, .row 57 yBR (S ++ h.flatMap brH ++ P.flatMap (brU p) ++ (P.take q.1).flatMap (brA r)))], fun q => P.length - q.1⟩ ⟨0, by omega⟩ ?_ ?_
               · simp only [go_sem]
                 try simp only [List.take_zero, List.flatMap_nil, List.append_nil]
                 try (first | rfl | exact ⟨rfl, rfl⟩ | (and_intros <;> first | trivial | rfl | omega))
               · rintro ⟨i2, (hi2 : i2 ≤ P.length)⟩
                 have hb2 := fl1 (g := (brA r)) (by intro x; first | exact brH_len x | exact brU_len p x | exact brA_len r x | exact brC_len F x) (P.take i2)
                 have hc2 : (P.take i2).length ≤ P.length := by rw [List.length_take]; omega
                 (simp -implicitDefEqProofs (maxSteps := 4000000) only [go_sem, Bool.not_eq_true', Bool.not_eq_false', Bool.or_eq_true, Bool.or_eq_false_iff, Bool.and_eq_true, Bool.and_eq_false_iff, decide_eq_true_eq, decide_eq_false_iff_not, Classical.not_not, not_or, maxLen, con14, con32, con33, con13, con34, con36, con35, con37, hT, hG, hk, hK, Tryd.results14]); (try simp (disch := decide +kernel) only [drawn, true_and, and_true])
                 obtain ⟨o2, ho2⟩ : ∃ o, P.getD i2 pl0 = o := ⟨_, rfl⟩
                 have eo2 : P.getD (i2 : Int).toNat (0, 0, 0) = o2 := ho2
                 have hps2 : i2 < P.length → (P.take (i2 + 1)).flatMap (brA r) = (P.take i2).flatMap (brA r) ++ (brA r) o2 := fun h => by rw [flat_take _ pl0 h, ho2]
                 rw [eo2]
                 try simp only [eta3]
                 (repeat' (with_reducible (first | refine And.intro ?_ ?_ | intro _))) <;> (try (first | with_reducible (first | done | assumption | omega | contradiction) | decide))
                 all_goals first
                  | (have hq : mayV r o2 = false := by assumption
                     have eb : (brA r) o2 = _ := if_pos hq
                     refine fin_lp ⟨i2 + 1, by omega⟩ ?_ (by dsimp only; omega)
                     simp only [go_sem]
                     rw [hps2 (by omega), eb, ← List.append_assoc]
                     try (first | rfl | exact ⟨rfl, rfl⟩ | (and_intros <;> first | trivial | rfl | omega))
                     done)
                  | (have hq : mayV r o2 = true := by assumption
                     have eb : (brA r) o2 = _ := if_neg (by rw [hq]; simp)
                     refine fin_lp ⟨i2 + 1, by omega⟩ ?_ (by dsimp only; omega)
                     simp only [go_sem]
                     rw [hps2 (by omega), eb, List.append_nil]
                     try (first | rfl | exact ⟨rfl, rfl⟩ | (and_intros <;> first | trivial | rfl | omega))
                     done)
                  | (simp only [List.length_append]; omega)
                  | (have ei : P.take i2 = P := List.take_of_length_le (by omega)
                     rw [ei]
                     refine evk_loop ⟨{ i : Nat // i ≤ c.length }, 1000, fun q => [(4, .one (.sl yCT c false)), (5, .one (.sl yPM p false)), (6, .one (.sl yRU r false)), (8, .one (.loc 70 0)), (15, .one (.loc 72 0)), (16, .one (.fn 32 [.loc 72 0])), (86, .one (.sl yCT c false)), (87, .one (.int .i64 c.length)), (88, .one (.int .i64 q.1))], fun q => [(70, .cells 36 [.str f1, .int .i64 f2, .str f3, .int .i64 f4]), (72, .cells 53 [.row 73]), (73, .row 57 yBR (S ++ h.flatMap brH ++ P.flatMap (brU p) ++ P.flatMap (brA r) ++ (c.take q.1).flatMap (brC F)))], fun q => c.length - q.1⟩ ⟨0, by omega⟩ ?_ ?_
                     · simp only [go_sem]
                       try simp only [List.take_zero, List.flatMap_nil, List.append_nil]
                       try (first | rfl | exact ⟨rfl, rfl⟩ | (and_intros <;> first | trivial | rfl | omega))
                     · rintro ⟨i3, (hi3 : i3 ≤ c.length)⟩
                       have hb3 := fl1 (g := (brC F)) (by intro x; first | exact brH_len x | exact brU_len p x | exact brA_len r x | exact brC_len F x) (c.take i3)
                       have hc3 : (c.take i3).length ≤ c.length := by rw [List.length_take]; omega
                       (simp -implicitDefEqProofs (maxSteps := 4000000) only [go_sem, Bool.not_eq_true', Bool.not_eq_false', Bool.or_eq_true, Bool.or_eq_false_iff, Bool.and_eq_true, Bool.and_eq_false_iff, decide_eq_true_eq, decide_eq_false_iff_not, Classical.not_not, not_or, maxLen, con14, con32, con33, con13, con34, con36, con35, con37, hT, hG, hk, hK, Tryd.results14]); (try simp (disch := decide +kernel) only [drawn, true_and, and_true])
                       obtain ⟨o3, ho3⟩ : ∃ o, c.getD i3 ct0 = o := ⟨_, rfl⟩
                       have eo3 : c.getD (i3 : Int).toNat (0, (ByteArray.empty, 0, ByteArray.empty, 0), 0, 0, 0, 0, 0, []) = o3 := ho3
                       have hps3 : i3 < c.length → (c.take (i3 + 1)).flatMap (brC F) = (c.take i3).flatMap (brC F) ++ (brC F) o3 := fun h => by rw [flat_take _ ct0 h, ho3]
                       rw [eo3]
                       try simp only [eta3]
                       (repeat' (with_reducible (first | refine And.intro ?_ ?_ | intro _))) <;> (try (first | with_reducible (first | done | assumption | omega | contradiction) | decide))
                       all_goals first
                        | (have hq : (o3.2.1.1 = f1 ∧ o3.2.1.2.1 = f2 ∧ o3.2.1.2.2.1 = f3 ∧ o3.2.1.2.2.2 = f4) ∧ overV o3 = true := by first | assumption | exact ⟨by assumption, by assumption⟩ | exact ⟨⟨by assumption, by assumption, by assumption, by assumption⟩, by assumption⟩ | (rename_i hx; exact ⟨⟨hx.1, hx.2.1, hx.2.2.1, hx.2.2.2.1⟩, hx.2.2.2.2⟩)
                           have eb : (brC F) o3 = _ := if_pos ⟨(by rw [hF]; exact (fltE o3.2.1 (f1, f2, f3, f4)).mp hq.1), hq.2⟩
                           refine fin_lp ⟨i3 + 1, by omega⟩ ?_ (by dsimp only; omega)
                           simp only [go_sem]
                           rw [hps3 (by omega), eb, ← List.append_assoc]
                           try (first | rfl | exact ⟨rfl, rfl⟩ | (and_intros <;> first | trivial | rfl | omega))
                           done)
                        | (have hq : ¬ (o3.flt = F ∧ overV o3 = true) := by
                            rw [hF, ← fltE]
                            first | (rename_i hx; rcases hx with hx | hx; exact fun h => (by rcases hx with q | q | q | q <;> simp_all); exact fun h => by simp_all) | (rename_i hx; exact fun h => by simp_all) | simp_all
                           have eb : (brC F) o3 = _ := if_neg hq
                           refine fin_lp ⟨i3 + 1, by omega⟩ ?_ (by dsimp only; omega)
                           simp only [go_sem]
                           rw [hps3 (by omega), eb, List.append_nil]
                           try (first | rfl | exact ⟨rfl, rfl⟩ | (and_intros <;> first | trivial | rfl | omega))
                           done)
                        | (simp only [List.length_append]; omega)
                        | (have ei : c.take i3 = c := List.take_of_length_le (by omega)
                           rw [ei, hF2]))))))
end Go.Proofs.YtjhoidgpecgfoaaDoor

/- Containers: lists of them, continued. -/
set_option linter.unusedSimpArgs false
set_option linter.unusedVariables false
set_option maxRecDepth 100000
set_option maxHeartbeats 4000000
namespace Go.Proofs.YtjhoidgpecgfoaaDoor
open Go.Ev

instance kdPlt : DecidableEq Plt := instDecidableEqProd
instance kdPce : DecidableEq Pce := instDecidableEqProd
instance kdF1 : DecidableEq (ByteArray × Int) := instDecidableEqProd
instance kdF2 : DecidableEq (Int × ByteArray × Int) := instDecidableEqProd
instance kdFlt : DecidableEq Flt := instDecidableEqProd
instance kdC1 : DecidableEq (Int × List Pce) := instDecidableEqProd
instance kdC2 : DecidableEq (Int × Int × List Pce) := instDecidableEqProd
instance kdC3 : DecidableEq (Int × Int × Int × List Pce) := instDecidableEqProd
instance kdC4 : DecidableEq (Int × Int × Int × Int × List Pce) := instDecidableEqProd
instance kdC5 : DecidableEq (Int × Int × Int × Int × Int × List Pce) := instDecidableEqProd
instance kdC6 : DecidableEq (Flt × Int × Int × Int × Int × Int × List Pce) := instDecidableEqProd
instance kdCnt : DecidableEq Cnt := instDecidableEqProd
end Go.Proofs.YtjhoidgpecgfoaaDoor

/- Valid containers, in plain words. -/
set_option linter.unusedSimpArgs false
set_option linter.unusedVariables false
set_option maxRecDepth 100000
set_option maxHeartbeats 4000000
namespace Go.Proofs.YtjhoidgpecgfoaaDoor
open Go.Ev

theorem pw_getD {α : Type} {R : α → α → Prop} (d : α) {l : List α} : l.Pairwise R ↔ ∀ i j, i < j → j < l.length → R (l.getD i d) (l.getD j d) := by
 rw [List.pairwise_iff_getElem]
 constructor
 · intro h i j hij hj
   have := h i j (by omega) hj hij
   simpa [List.getD_eq_getElem?_getD, hj, (by omega : i < l.length)] using this
 · intro h i j hi hj hij
   have := h i j hij hj
   simpa [List.getD_eq_getElem?_getD, hj, hi] using this
structure PcsOk (l : List Pce) : Prop where
 ok : ∀ x ∈ l, okPc x = true
 srt : l.Pairwise (fun a b => pltC a.1 b.1 < 0)
structure CtsOk (l : List Cnt) : Prop where
 len : l.length ≤ 24
 ok : ∀ c ∈ l, propC c = true ∧ c.pcs.length ≤ 60 ∧ PcsOk c.pcs
 num : l.Pairwise (fun a b => a.num < b.num)
 pos : l.Pairwise (fun a b => b.pos ≠ 0 → a.pos = b.pos → a.flt ≠ b.flt)
 pl : l.Pairwise (fun a b => ∀ x ∈ a.pcs, ∀ y ∈ b.pcs, x.1 ≠ y.1)
/-- Containers with other pieces. -/
def setPcs (c : Cnt) (p : List Pce) : Cnt := (c.1, c.2.1, c.2.2.1, c.2.2.2.1, c.2.2.2.2.1, c.2.2.2.2.2.1, c.2.2.2.2.2.2.1, p)
theorem putSls_ct (xs : List Cnt) (yss : List (List Pce)) : putSls yPC yCT xs yss = (xs.zip yss).map (fun q => setPcs q.1 q.2) := by
 unfold putSls
 refine congrArg (fun f => List.map f (xs.zip yss)) (funext fun q => ?_)
 obtain ⟨⟨n, ⟨a1, a2, a3, a4⟩, c, lm, t, p, r, l⟩, ys⟩ := q
 rfl
theorem fltsV_ok (n : Int) : fltOk (fltsV n) = true := by
 have hb := goMod_bd n 27 (by omega)
 have key : ∀ k : Nat, k < 27 → fltOk (strs3.getD ((k : Int) / 9).toNat ByteArray.empty, 1 + (k : Int) / 3 % 3, ByteArray.empty, 1 + (k : Int) % 3) = true := by decide +kernel
 have := key (goMod n 27).toNat (by omega)
 unfold fltsV
 rw [show ((goMod n 27).toNat : Int) = goMod n 27 by omega] at this
 exact this
theorem platesV_lt {a b : Int} (h0 : 0 ≤ a) (h1 : a < b) (h2 : b < 1000) : pltC (platesV a) (platesV b) < 0 := by
 have e : ∀ x : Int, 0 ≤ x → x < 1000 → goMod x 1000 = x := fun x hx hx2 => by
  unfold goMod
  rw [if_neg (by omega), Int.tmod_eq_emod_of_nonneg hx, if_neg (by omega)]; omega
 unfold platesV
 rw [e a h0 (by omega), e b (by omega) h2]
 have ea1 : a.tdiv 500 = a / 500 := Int.tdiv_eq_ediv_of_nonneg h0
 have ea2 : a.tdiv 100 = a / 100 := Int.tdiv_eq_ediv_of_nonneg h0
 have ea3 : a.tmod 100 = a % 100 := Int.tmod_eq_emod_of_nonneg h0
 have ea4 : (a / 100).tmod 5 = a / 100 % 5 := Int.tmod_eq_emod_of_nonneg (by omega)
 have eb1 : b.tdiv 500 = b / 500 := Int.tdiv_eq_ediv_of_nonneg (by omega)
 have eb2 : b.tdiv 100 = b / 100 := Int.tdiv_eq_ediv_of_nonneg (by omega)
 have eb3 : b.tmod 100 = b % 100 := Int.tmod_eq_emod_of_nonneg (by omega)
 have eb4 : (b / 100).tmod 5 = b / 100 % 5 := Int.tmod_eq_emod_of_nonneg (by omega)
 rw [ea1, ea2, ea3, ea4, eb1, eb2, eb3, eb4]
 unfold pltC lexC cmpV
 dsimp only
 (repeat' split) <;> omega
end Go.Proofs.YtjhoidgpecgfoaaDoor

/- What the statements about departures share. -/
set_option linter.unusedSimpArgs false
set_option linter.unusedVariables false
set_option maxRecDepth 100000
set_option maxHeartbeats 8000000
namespace Go.Proofs.YtjhoidgpecgfoaaDoor
open Go.Ev

attribute [local go_sem] List.set_cons_succ List.set_cons_zero List.getD_cons_succ List.getD_cons_zero List.set_nil
def dayD (i : Nat) : Dpt := (fltsV i, ⟨#[76, 72, 82]⟩, 10, 40, 50, 0, 0)
def dayL (i : Nat) : List Dpt := (List.range i).map dayD
theorem dayL_succ (i : Nat) : dayL (i + 1) = dayL i ++ [dayD i] := by unfold dayL; rw [List.range_succ, List.map_append]; rfl
theorem dayL_len (i : Nat) : (dayL i).length = i := by unfold dayL; simp
def dayV : List Dpt := dayL 3
def con5 : Con := { ps := [], rs := [.o 67 yDP], pre := fun _ => True, out := fun _ => (dayV, ()), nw := id }
theorem c5 : CtrOk Tryd.prog 5 con5.ctr :=
 con_sound (G := ⟨[(11, con11.ctr)], [], [], [], []⟩) tab_ok (EnvOk.cons c11 has11 EnvOk.nil) rfl Tryd.func5 rfl con5 23 (by kernel_rfl) (by decide) (by decide) rfl (by decide) rfl (by
  rintro ⟨⟩ hpre hwf X hT hG hk hK
  (simp -implicitDefEqProofs (maxSteps := 4000000) only [go_sem, Bool.not_eq_true', Bool.not_eq_false', Bool.or_eq_true, Bool.or_eq_false_iff, Bool.and_eq_true, Bool.and_eq_false_iff, decide_eq_true_eq, decide_eq_false_iff_not, Classical.not_not, not_or, maxLen, con5, con11, hT, hG, hk, hK, Tryd.results5] at hwf ⊢); (try simp (disch := decide +kernel) only [drawn, true_and, and_true])
  refine evk_loop ⟨{ i : Nat // i ≤ 3 }, 1000, fun q => [(1, .one (.row 64)), (2, .one (.int .i64 q.1))], fun q => [(64, .row 67 yDP (dayL q.1))], fun q => 3 - q.1⟩ ⟨0, by omega⟩ ?_ ?_
  · simp only [go_sem]
    try (first | rfl | exact ⟨rfl, rfl⟩ | (and_intros <;> first | trivial | rfl | omega))
  · rintro ⟨i, (hi : i ≤ 3)⟩
    (simp -implicitDefEqProofs (maxSteps := 4000000) only [go_sem, Bool.not_eq_true', Bool.not_eq_false', Bool.or_eq_true, Bool.or_eq_false_iff, Bool.and_eq_true, Bool.and_eq_false_iff, decide_eq_true_eq, decide_eq_false_iff_not, Classical.not_not, not_or, maxLen, con5, con11, hT, hG, hk, hK, Tryd.results5]); (try simp (disch := decide +kernel) only [drawn, true_and, and_true])
    (repeat' (with_reducible (first | refine And.intro ?_ ?_ | intro _))) <;> (try (first | with_reducible (first | done | assumption | omega | contradiction) | decide))
    all_goals first
     | (refine fin_lp ⟨i + 1, by omega⟩ ?_ (by dsimp only; omega)
        simp only [go_sem]
        rw [dayL_succ]
        try (first | rfl | exact ⟨rfl, rfl⟩ | (and_intros <;> first | trivial | rfl | omega))
        done)
     | (rw [show i = 3 by omega]; rfl)
     | (simp only [dayL_len]; omega)
     | fail)
def heldC (i : Nat) : Cnt := ((i : Int) + 1, fltsV 0, 31, 9000, 50, (i : Int) + 1, 0, [])
def heldV (n : Nat) : List Cnt := (List.range n).map heldC
theorem heldV_succ (i : Nat) : heldV (i + 1) = heldV i ++ [heldC i] := by unfold heldV; rw [List.range_succ, List.map_append]; rfl
theorem heldV_len (i : Nat) : (heldV i).length = i := by unfold heldV; simp
def con40 : Con := { ps := [.d false (.int .i64)], rs := [.o 74 yCT], pre := fun (x : Int × Unit) => 0 ≤ x.1 ∧ x.1 ≤ 1000, out := fun (x : Int × Unit) => (heldV x.1.toNat, ()), nw := id }
theorem c40 : CtrOk Tryd.prog 40 con40.ctr :=
 con_sound (G := ⟨[(11, con11.ctr)], [], [], [], []⟩) tab_ok (EnvOk.cons c11 has11 EnvOk.nil) rfl Tryd.func40 rfl con40 157 (by kernel_rfl) (by decide) (by decide) rfl (by decide) rfl (by
  rintro ⟨(n : Int), _⟩ hpre hwf X hT hG hk hK
  obtain ⟨h1, h2⟩ : 0 ≤ n ∧ n ≤ 1000 := hpre
  (simp -implicitDefEqProofs (maxSteps := 4000000) only [go_sem, Bool.not_eq_true', Bool.not_eq_false', Bool.or_eq_true, Bool.or_eq_false_iff, Bool.and_eq_true, Bool.and_eq_false_iff, decide_eq_true_eq, decide_eq_false_iff_not, Classical.not_not, not_or, maxLen, con40, con11, hT, hG, hk, hK, Tryd.results40] at hwf ⊢); (try simp (disch := decide +kernel) only [drawn, true_and, and_true])
  refine evk_loop ⟨{ i : Nat // (i : Int) ≤ n }, 1000, fun q => [(0, .one (.int .i64 n)), (3, .one (.row 64)), (4, .one (.int .i64 (q.1 + 1)))], fun q => [(64, .row 74 yCT (heldV q.1))], fun q => n.toNat - q.1⟩ ⟨0, h1⟩ ?_ ?_
  · simp only [go_sem]
    try (first | rfl | exact ⟨rfl, rfl⟩ | (and_intros <;> first | trivial | rfl | omega))
  · rintro ⟨i, (hi : (i : Int) ≤ n)⟩
    (simp -implicitDefEqProofs (maxSteps := 4000000) only [go_sem, Bool.not_eq_true', Bool.not_eq_false', Bool.or_eq_true, Bool.or_eq_false_iff, Bool.and_eq_true, Bool.and_eq_false_iff, decide_eq_true_eq, decide_eq_false_iff_not, Classical.not_not, not_or, maxLen, con40, con11, hT, hG, hk, hK, Tryd.results40]); (try simp (disch := decide +kernel) only [drawn, true_and, and_true])
    (repeat' (with_reducible (first | refine And.intro ?_ ?_ | intro _))) <;> (try (first | with_reducible (first | done | assumption | omega | contradiction) | decide))
    all_goals first
     | (refine fin_lp ⟨i + 1, (by show ((i + 1 : Nat) : Int) ≤ n; omega)⟩ ?_ (by dsimp only; omega)
        simp only [go_sem]
        rw [heldV_succ]
        try (first | rfl | exact ⟨rfl, rfl⟩ | (and_intros <;> first | trivial | rfl | omega))
        done)
     | (rw [show n.toNat = i by omega]; done)
     | (rw [show n.toNat = i by omega]; rfl)
     | (simp only [heldV_len]; omega)
     | fail)
def con41 : Con := { ps := [.d false (.sl yBR)], rs := [.d false .bool], pre := fun _ => True, out := fun (x : List Bar × Unit) => (decide (x.1.length = 0), ()), nw := id }
theorem c41 : CtrOk Tryd.prog 41 con41.ctr :=
 con_sound (G := ⟨[], [], [], [], []⟩) tab_ok EnvOk.nil rfl Tryd.func41 rfl con41 5 (by kernel_rfl) (by decide) (by decide) rfl (by decide) rfl (by
  rintro ⟨(l : List Bar), _⟩ hpre hwf X hT hG hk hK
  (simp -implicitDefEqProofs (maxSteps := 4000000) only [go_sem, Bool.not_eq_true', Bool.not_eq_false', Bool.or_eq_true, Bool.or_eq_false_iff, Bool.and_eq_true, Bool.and_eq_false_iff, decide_eq_true_eq, decide_eq_false_iff_not, Classical.not_not, not_or, maxLen, con41, hT, hG, hk, hK, Tryd.results41] at hwf ⊢); (try simp (disch := decide +kernel) only [drawn, true_and, and_true])
  (repeat' (with_reducible (first | refine And.intro ?_ ?_ | intro _))) <;> (try (first | with_reducible (first | done | assumption | omega | contradiction) | decide))
  all_goals first | done | rfl | (rw [decide_eq_decide]; omega) | fail)
def con17 : Con := { ps := [], rs := [.d false .bool], pre := fun _ => True, out := fun _ => (true, ()), nw := id }
theorem c17 : CtrOk Tryd.prog 17 con17.ctr :=
 con_sound (G := ⟨[(40, con40.ctr), (5, con5.ctr), (14, con14.ctr), (41, con41.ctr), (9, con9.ctr), (11, con11.ctr)], [], [], [], []⟩) tab_ok (EnvOk.cons c40 has40 (EnvOk.cons c5 has5 (EnvOk.cons c14 has14 (EnvOk.cons c41 has41 (EnvOk.cons c9 has9 (EnvOk.cons c11 has11 EnvOk.nil)))))) rfl Tryd.func17 rfl con17 15 (by kernel_rfl) (by decide) (by decide) rfl (by decide) rfl (by
  rintro ⟨⟩ hpre hwf X hT hG hk hK
  (simp -implicitDefEqProofs (maxSteps := 4000000) only [go_sem, Bool.not_eq_true', Bool.not_eq_false', Bool.or_eq_true, Bool.or_eq_false_iff, Bool.and_eq_true, Bool.and_eq_false_iff, decide_eq_true_eq, decide_eq_false_iff_not, Classical.not_not, not_or, maxLen, con17, con40, con5, con14, con41, con9, con11, hT, hG, hk, hK, Tryd.results17] at hwf ⊢); (try simp (disch := decide +kernel) only [drawn, true_and, and_true])
  have e1 : heldV (Int.toNat 1) = [heldC 0] := rfl
  simp only [e1, List.getD_cons_zero, List.set_cons_zero]
  have hb : barsV dayV (fltsV 0) 40 [(1, 1, 0, false, [], [], []), (2, 1, 0, true, [], [], [])] [((heldC 0).1, (heldC 0).2.1, (heldC 0).2.2.1, (heldC 0).2.2.2.1, (heldC 0).2.2.2.2.1, (heldC 0).2.2.2.2.2.1, (heldC 0).2.2.2.2.2.2.1, [(platesV 1, 5, 0)])] [] [] = [(2, 2, 0, 0, 0), (4, 1, platesV 1)] := by decide +kernel
  simp only [hb, List.getD_cons_zero, List.getD_cons_succ, List.length_cons, List.length_nil]
  (repeat' (with_reducible (first | refine And.intro ?_ ?_ | intro _))) <;> (try (first | with_reducible (first | done | assumption | omega | contradiction) | decide))
  all_goals first
   | rfl
   | (refine ⟨by simp, fun o ho => ?_, by simp, fun y hy => by cases hy⟩; rw [List.mem_singleton.1 ho]; decide)
   | decide
   | fail)
end Go.Proofs.YtjhoidgpecgfoaaDoor

/- Authority: the boarding status, grants and refusals. -/
set_option linter.unusedSimpArgs false
set_option linter.unusedVariables false
set_option maxRecDepth 100000
set_option maxHeartbeats 8000000
namespace Go.Proofs.YtjhoidgpecgfoaaDoor
open Go.Ev

abbrev Mnf := Flt × Int × List Int × List Int
abbrev Lgg := Flt × ByteArray × ByteArray
abbrev Bg := Plt × Lgg × Lgg × List Lgg × Int × Int × Int × Bool × ByteArray × ByteArray × Int × ByteArray × Bool
abbrev Fcs := Bool × Bg × Int × Bool
abbrev Dcs := Bool × Int × Int
def mn0 : Mnf := ((ByteArray.empty, 0, ByteArray.empty, 0), 0, [], [])
def con57 : Con := { ps := [.d false (.sl (.int .i64)), .d false (.int .i64)], rs := [.d false (.int .i64)], pre := fun _ => True, out := fun (x : List Int × Int × Unit) => (idxV (fun y => decide (x.2.1 = y)) x.1, ()), nw := id }
theorem c57 : CtrOk Tryd.prog 57 con57.ctr :=
 con_sound (G := ⟨[], [], [], [], []⟩) tab_ok EnvOk.nil rfl Tryd.func57 rfl con57 66483 (by kernel_rfl) (by decide) (by decide) rfl (by decide) rfl (by
  rintro ⟨(l : List Int), (v : Int), _⟩ hpre hwf X hT hG hk hK
  (simp -implicitDefEqProofs (maxSteps := 4000000) only [go_sem, Bool.not_eq_true', Bool.not_eq_false', Bool.or_eq_true, Bool.or_eq_false_iff, Bool.and_eq_true, Bool.and_eq_false_iff, decide_eq_true_eq, decide_eq_false_iff_not, Classical.not_not, not_or, maxLen, con57, hT, hG, hk, hK, Tryd.results57] at hwf ⊢); (try simp (disch := decide +kernel) only [drawn, true_and, and_true])
  clear hwf
  refine fun _ => evk_loop ⟨{ i : Nat // i ≤ l.length ∧ ∀ k, k < i → (fun y : Int => decide (v = y)) (l.getD k 0) = false }, 1000, fun q => [(0, .one (.sl (.int .i64) l false)), (1, .one (.int .i64 v)), (4, .one (.int .i64 0)), (7, .one (.int .i64 l.length)), (8, .one (.int .i64 q.1))], fun q => [], fun q => l.length - q.1⟩ ⟨0, by omega, fun k hk => by omega⟩ ?_ ?_
  · simp only [go_sem]
    try (first | rfl | exact ⟨rfl, rfl⟩ | (and_intros <;> first | trivial | rfl | omega))
  · rintro ⟨i, (hi : i ≤ l.length), hz⟩
    (simp -implicitDefEqProofs (maxSteps := 4000000) only [go_sem, Bool.not_eq_true', Bool.not_eq_false', Bool.or_eq_true, Bool.or_eq_false_iff, Bool.and_eq_true, Bool.and_eq_false_iff, decide_eq_true_eq, decide_eq_false_iff_not, Classical.not_not, not_or, maxLen, con57, hT, hG, hk, hK, Tryd.results57]); (try simp (disch := decide +kernel) only [drawn, true_and, and_true])
    (repeat' (with_reducible (first | refine And.intro ?_ ?_ | intro _))) <;> (try (first | with_reducible (first | done | assumption | omega | contradiction) | decide))
    all_goals first
     | omega
     | (refine (idxV_at (d := 0) hz (by omega) ?_).symm
        exact decide_eq_true (by assumption))
     | (refine fin_lp ⟨i + 1, by omega, lt_succ hz (decide_eq_false (by assumption))⟩ ?_ (by dsimp only; omega)
        simp only [go_sem]
        try (first | rfl | exact ⟨rfl, rfl⟩ | (and_intros <;> first | trivial | rfl | omega))
        done)
     | exact (idxV_none (d := 0) fun k hk => hz k (by omega)).symm)
def con44 : Con := { ps := [.d false (.sl (.int .i64)), .d false (.int .i64)], rs := [.d false .bool], pre := fun _ => True, out := fun (x : List Int × Int × Unit) => (decide (idxV (fun y => decide (x.2.1 = y)) x.1 ≥ 0), ()), nw := id }
theorem c44 : CtrOk Tryd.prog 44 con44.ctr :=
 con_sound (G := ⟨[(57, con57.ctr)], [], [], [], []⟩) tab_ok (EnvOk.cons c57 has57 EnvOk.nil) rfl Tryd.func44 rfl con44 19 (by kernel_rfl) (by decide) (by decide) rfl (by decide) rfl (by
  rintro ⟨(l : List Int), (v : Int), _⟩ hpre hwf X hT hG hk hK
  (simp -implicitDefEqProofs (maxSteps := 4000000) only [go_sem, Bool.not_eq_true', Bool.not_eq_false', Bool.or_eq_true, Bool.or_eq_false_iff, Bool.and_eq_true, Bool.and_eq_false_iff, decide_eq_true_eq, decide_eq_false_iff_not, Classical.not_not, not_or, maxLen, con44, con57, hT, hG, hk, hK, Tryd.results44] at hwf ⊢); (try simp (disch := decide +kernel) only [drawn, true_and, and_true]))
def con24 : Con := { ps := [.d false (.int .i64)], rs := [.d true (.pair .bool (.pair (.int .i64) (.int .i64)))], pre := fun _ => True, out := fun (x : Int × Unit) => ((false, 0, x.1), ()), nw := id }
theorem c24 : CtrOk Tryd.prog 24 con24.ctr :=
 con_sound (G := ⟨[], [], [], [], []⟩) tab_ok EnvOk.nil rfl Tryd.func24 rfl con24 5 (by kernel_rfl) (by decide) (by decide) rfl (by decide) rfl (by
  rintro ⟨(r : Int), _⟩ hpre hwf X hT hG hk hK
  (simp -implicitDefEqProofs (maxSteps := 4000000) only [go_sem, Bool.not_eq_true', Bool.not_eq_false', Bool.or_eq_true, Bool.or_eq_false_iff, Bool.and_eq_true, Bool.and_eq_false_iff, decide_eq_true_eq, decide_eq_false_iff_not, Classical.not_not, not_or, maxLen, con24, hT, hG, hk, hK, Tryd.results24] at hwf ⊢); (try simp (disch := decide +kernel) only [drawn, true_and, and_true]))
def con25 : Con := { ps := [.d false (.int .i64)], rs := [.d true (.pair .bool (.pair (.int .i64) (.int .i64)))], pre := fun _ => True, out := fun (x : Int × Unit) => ((true, x.1, 0), ()), nw := id }
theorem c25 : CtrOk Tryd.prog 25 con25.ctr :=
 con_sound (G := ⟨[], [], [], [], []⟩) tab_ok EnvOk.nil rfl Tryd.func25 rfl con25 5 (by kernel_rfl) (by decide) (by decide) rfl (by decide) rfl (by
  rintro ⟨(r : Int), _⟩ hpre hwf X hT hG hk hK
  (simp -implicitDefEqProofs (maxSteps := 4000000) only [go_sem, Bool.not_eq_true', Bool.not_eq_false', Bool.or_eq_true, Bool.or_eq_false_iff, Bool.and_eq_true, Bool.and_eq_false_iff, decide_eq_true_eq, decide_eq_false_iff_not, Classical.not_not, not_or, maxLen, con25, hT, hG, hk, hK, Tryd.results25] at hwf ⊢); (try simp (disch := decide +kernel) only [drawn, true_and, and_true]))
/-- The status that a manifest gives a seat. -/
def stV : List Mnf → Flt → Int → Int → Int
 | [], _, _, s => s
 | m :: l, f, n, s => if m.1 ≠ f then stV l f n s else if idxV (fun y => decide (n = y)) m.2.2.1 ≥ 0 then 4 else if idxV (fun y => decide (n = y)) m.2.2.2 ≥ 0 then 5 else s
def con26 : Con := { ps := [.d false (.sl (.pair yFL (.pair (.int .i64) (.pair (.sl (.int .i64)) (.sl (.int .i64)))))), .d true yFL, .d false (.int .i64), .d false (.int .i64)], rs := [.d false (.int .i64)], pre := fun _ => True, out := fun (x : List Mnf × Flt × Int × Int × Unit) => (stV x.1 x.2.1 x.2.2.1 x.2.2.2.1, ()), nw := id }
theorem c26 : CtrOk Tryd.prog 26 con26.ctr :=
 con_sound (G := ⟨[(44, con44.ctr)], [], [], [], []⟩) tab_ok (EnvOk.cons c44 has44 EnvOk.nil) rfl Tryd.func26 rfl con26 70286639 (by kernel_rfl) (by decide) (by decide) rfl (by decide) rfl (by
  rintro ⟨(l : List Mnf), ⟨f1, (f2 : Int), f3, (f4 : Int)⟩, (n : Int), (s : Int), _⟩ hpre hwf X hT hG hk hK
  obtain ⟨R, hR⟩ : ∃ R, stV l (f1, f2, f3, f4) n s = R := ⟨_, rfl⟩
  (simp -implicitDefEqProofs (maxSteps := 4000000) only [go_sem, Bool.not_eq_true', Bool.not_eq_false', Bool.or_eq_true, Bool.or_eq_false_iff, Bool.and_eq_true, Bool.and_eq_false_iff, decide_eq_true_eq, decide_eq_false_iff_not, Classical.not_not, not_or, maxLen, con26, con44, hT, hG, hk, hK, Tryd.results26] at hwf ⊢); (try simp (disch := decide +kernel) only [drawn, true_and, and_true])
  clear hwf
  refine fun _ => evk_loop ⟨{ i : Nat // i ≤ l.length ∧ stV (l.drop i) (f1, f2, f3, f4) n s = R }, 1000, fun q => [(2, .one (.int .i64 n)), (3, .one (.int .i64 s)), (5, .one (.loc 70 0)), (8, .one (.int .i64 0)), (11, .one (.sl (.pair yFL (.pair (.int .i64) (.pair (.sl (.int .i64)) (.sl (.int .i64))))) l false)), (12, .one (.int .i64 l.length)), (13, .one (.int .i64 q.1))], fun q => [(70, .cells 36 [.str f1, .int .i64 f2, .str f3, .int .i64 f4])], fun q => l.length - q.1⟩ ⟨0, by omega, hR⟩ ?_ ?_
  · simp only [go_sem]
    try (first | rfl | exact ⟨rfl, rfl⟩ | (and_intros <;> first | trivial | rfl | omega))
  · rintro ⟨i, (hi : i ≤ l.length), (hz : stV (l.drop i) (f1, f2, f3, f4) n s = R)⟩
    (simp -implicitDefEqProofs (maxSteps := 4000000) only [go_sem, Bool.not_eq_true', Bool.not_eq_false', Bool.or_eq_true, Bool.or_eq_false_iff, Bool.and_eq_true, Bool.and_eq_false_iff, decide_eq_true_eq, decide_eq_false_iff_not, Classical.not_not, not_or, maxLen, con26, con44, hT, hG, hk, hK, Tryd.results26]); (try simp (disch := decide +kernel) only [drawn, true_and, and_true])
    have hst : (i : Int) < (l.length : Int) → R = if (l.getD i mn0).1 ≠ (f1, f2, f3, f4) then stV (l.drop (i + 1)) (f1, f2, f3, f4) n s else if idxV (fun y => decide (n = y)) (l.getD i mn0).2.2.1 ≥ 0 then 4 else if idxV (fun y => decide (n = y)) (l.getD i mn0).2.2.2 ≥ 0 then 5 else s := fun h => by
     have h' : i < l.length := by omega
     rw [← hz, List.drop_eq_getElem_cons h', stV, getD_lt h']
    obtain ⟨o, ho⟩ : ∃ o, l.getD i mn0 = o := ⟨_, rfl⟩
    have eo : l.getD (i : Int).toNat ((ByteArray.empty, 0, ByteArray.empty, 0), 0, [], []) = o := ho
    try simp only [eo]
    rw [ho] at hst
    try rw [hR]
    (repeat' (with_reducible (first | refine And.intro ?_ ?_ | intro _))) <;> (try (first | with_reducible (first | done | assumption | omega | contradiction) | decide))
    all_goals first
     | (have h : o.1.1 = f1 ∧ o.1.2.1 = f2 ∧ o.1.2.2.1 = f3 ∧ o.1.2.2.2 = f4 := by assumption
        rw [hst (by omega), if_neg (fun e => e ((fltE o.1 (f1, f2, f3, f4)).mp h))]
        first
         | (rw [if_pos (by assumption)]; done)
         | (rw [if_neg (by assumption), if_pos (by assumption)]; done)
         | (rw [if_neg (by assumption), if_neg (by assumption)]; done))
     | (have h : ¬ o.1.1 = f1 ∨ ¬ o.1.2.1 = f2 ∨ ¬ o.1.2.2.1 = f3 ∨ ¬ o.1.2.2.2 = f4 := by assumption
        refine fin_lp ⟨i + 1, by omega, by rw [hst (by omega), if_pos ((fltN o.1 (f1, f2, f3, f4)).mp h)]⟩ (by simp only [go_sem]; first | rfl | ((repeat' apply And.intro) <;> first | rfl | assumption | omega)) (by dsimp only; omega)
        done)
     | (rw [← hz, List.drop_eq_nil_of_le (by omega)]; rfl))
end Go.Proofs.YtjhoidgpecgfoaaDoor

/- The rows: what the arguments read as; a law's contract gives its row. -/
set_option linter.unusedSimpArgs false
set_option linter.unusedVariables false
namespace Go.Ev
open Go.RowKit Go.WideShapes Go.ChangeShapes

/-- A type of the program is a type of plain data. -/
def tyB (P : Program) : Nat → TypeId → Ty → Bool
 | 0, _, _ => false
 | d + 1, t, u => decide (P.cellsOf t = u.n) && decide (0 < u.n) && (match P.underlying t with
   | some (.struct fs) => tyFs (tyB P d) fs.toList 0 u
   | some (.int k) => (match u with | .int k' => decide (k = k') | _ => false)
   | some .bool => (match u with | .bool => true | _ => false)
   | some .string => (match u with | .str => true | _ => false)
   | some (.slice e) => (match u with | .sl v => tyB P d e v | _ => false)
   | _ => false)
where tyFs (f : TypeId → Ty → Bool) : List Field → Nat → Ty → Bool
 | [], _, _ => false
 | [x], off, u => decide (x.offset = off) && f x.type u
 | x :: y :: xs, off, .pair a b => decide (x.offset = off) && f x.type a && tyFs f (y :: xs) (off + a.n) b
 | _, _, _ => false

/-- The size of data. -/
def sz : (t : Ty) → t.den → Nat
 | .int _, _ => 1
 | .bool, _ => 1
 | .str, s => s.size + 1
 | .unit, _ => 0
 | .sl t, xs => (xs.map (sz t)).sum + 1
 | .pair a b, p => sz a p.1 + sz b p.2

structure Bulk {H : Type} (B : DataW H → Nat) (BA : List (DataW H) → Nat) : Prop where
 lit : ∀ l, 1 ≤ B (.lit l)
 str : ∀ b, b.length + 1 ≤ B (.lit (.string b))
 nil : 1 ≤ B .nil
 sl : ∀ a b, BA a + 1 ≤ B (.slice a b)
 agg : ∀ a, BA a ≤ B (.agg a)
 cons : ∀ d r, BA (d :: r) = B d + BA r

section
variable {H : Type} {enc : TypeId × Value → H} {P : Program} {w : World} {B : DataW H → Nat} {BA : List (DataW H) → Nat}

theorem mapM_at {α β : Type} {f : α → Option β} : ∀ {l : List α} {r : List β}, l.mapM f = some r → r.length = l.length ∧ ∀ (i : Nat) (x : α) (y : β), l[i]? = some x → r[i]? = some y → f x = some y
 | [], r, h => by simp at h; subst h; exact ⟨rfl, fun i x y h => by simp at h⟩
 | a :: l, r, h => by
   rw [List.mapM_cons] at h
   cases hf : f a with
   | none => rw [hf] at h; cases h
   | some b =>
     rw [hf] at h
     cases hl : l.mapM f with
     | none => simp only [hl] at h; cases h
     | some bs =>
       simp only [hl] at h
       cases h
       obtain ⟨h1, h2⟩ := mapM_at hl
       refine ⟨by simp [h1], fun i x y hx hy => ?_⟩
       cases i with
       | zero => simp at hx hy; subst hx; subst hy; exact hf
       | succ i => simp at hx hy; exact h2 i x y hx hy

theorem cells?_spec {a : Addr} {n : Nat} {cs : List Value} (h : w.cells? 0 a n = some cs) : cs.length = n ∧ ∀ j u, cs[j]? = some u → w.cell? (a.add j) = some u := by
 unfold World.cells? at h
 rw [if_pos (Nat.zero_le _)] at h
 obtain ⟨h1, h2⟩ := mapM_at h
 refine ⟨by simpa using h1, fun j u hu => ?_⟩
 have hj : j < cs.length := (List.getElem?_eq_some_iff.1 hu).1
 have hjn : j < n := by simp at h1; omega
 exact h2 j j u (by simp [hjn]) hu

theorem sum_le {B : DataW H → Nat} {BA : List (DataW H) → Nat} (hB : Bulk B BA) {t : Ty} : ∀ (ys : List t.den) (ds : List (DataW H)), ys.length = ds.length → (∀ (i : Nat) (y : t.den) (d : DataW H), ys[i]? = some y → ds[i]? = some d → sz t y ≤ B d) → (ys.map (sz t)).sum ≤ BA ds
 | [], ds, _, _ => by simp
 | y :: ys, [], h, _ => by simp at h
 | y :: ys, d :: ds, h, hs => by
   have h0 := hs 0 y d rfl rfl
   have := sum_le hB ys ds (by simpa using h) (fun i y d hy hd => hs (i + 1) y d (by simpa using hy) (by simpa using hd))
   simp only [List.map_cons, List.sum_cons, hB.cons]
   omega

theorem roAll_mk {α : Type} {r : α → List Value → Prop} : ∀ (ys : List α) (cs : List (List Value)), ys.length = cs.length → (∀ (i : Nat) (y : α) (c : List Value), ys[i]? = some y → cs[i]? = some c → r y c) → roAll r ys cs.flatten
 | [], [], _, _ => rfl
 | [], _ :: _, h, _ => by simp at h
 | _ :: _, [], h, _ => by simp at h
 | y :: ys, c :: cs, h, hr => ⟨c, cs.flatten, by simp, hr 0 y c rfl rfl, roAll_mk ys cs (by simpa using h) (fun i z d hz hd => hr (i + 1) z d (by simpa using hz) (by simpa using hd))⟩

theorem pickQ {α : Type} {Q : Nat → α → Prop} : ∀ (n : Nat), (∀ i, i < n → ∃ y, Q i y) → ∃ ys : List α, ys.length = n ∧ ∀ (i : Nat) (y : α), ys[i]? = some y → Q i y
 | 0, _ => ⟨[], rfl, fun i y h => by simp at h⟩
 | n + 1, h => by
   obtain ⟨ys, h1, h2⟩ := pickQ n (fun i hi => h i (by omega))
   obtain ⟨y, hy⟩ := h n (by omega)
   refine ⟨ys ++ [y], by simp [h1], fun i z hz => ?_⟩
   by_cases e : i < n
   · rw [List.getElem?_append_left (by omega)] at hz; exact h2 i z hz
   · have hlt := (List.getElem?_eq_some_iff.1 hz).1
     have : i = n := by simp at hlt; omega
     subst this
     rw [List.getElem?_append_right (by omega), h1] at hz
     simp at hz; subst hz; exact hy

theorem pick_rows {α : Type} (f : Nat → Option α) : ∀ (n : Nat), (∀ i, i < n → ∃ y, f i = some y) → ∃ ys : List α, ys.length = n ∧ ∀ i, i < n → f i = ys[i]?
 | 0, _ => ⟨[], rfl, fun i hi => by omega⟩
 | n + 1, h => by
   obtain ⟨ys, h1, h2⟩ := pick_rows f n (fun i hi => h i (by omega))
   obtain ⟨y, hy⟩ := h n (by omega)
   refine ⟨ys ++ [y], by simp [h1], fun i hi => ?_⟩
   by_cases e : i = n
   · subst e; rw [hy, List.getElem?_append_right (by omega), h1]; simp
   · rw [h2 i (by omega), List.getElem?_append_left (by omega)]

theorem flatten_at {n : Nat} : ∀ (cs : List (List Value)), (∀ c ∈ cs, c.length = n) → ∀ (j : Nat) (u : Value), cs.flatten[j]? = some u → ∃ i q c, cs[i]? = some c ∧ c[q]? = some u ∧ j = i * n + q
 | [], _, j, u, h => by simp at h
 | c :: cs, hl, j, u, h => by
   rw [List.flatten_cons] at h
   by_cases hj : j < c.length
   · rw [List.getElem?_append_left hj] at h
     exact ⟨0, j, c, rfl, h, by omega⟩
   · rw [List.getElem?_append_right (by omega)] at h
     obtain ⟨i, q, d, h1, h2, h3⟩ := flatten_at cs (fun d hd => hl d (by simp [hd])) _ u h
     have := hl c (by simp)
     exact ⟨i + 1, q, d, by simpa using h1, h2, by rw [Nat.add_mul]; omega⟩

theorem add_add (a : Addr) (i j : Nat) (h : a.spot = none) : (a.add i).add j = a.add (i + j) := by
 obtain ⟨b, o, s⟩ := a
 simp only at h
 subst h
 simp [add_none, Nat.add_assoc]

/-- DATA THAT CAN BE READ. -/
theorem trod_ro (hB : Bulk B BA) : ∀ (fuel d : Nat) (t : TypeId) (u : Ty) (cs : List Value) (x : DataW H × List MemPlace), tyB P d t u = true → DataW.trod enc P w 0 (fun _ => true) true fuel t cs = some x → ∃ y : u.den, ro w (fun _ => False) u y cs ∧ sz u y ≤ B x.1
 | 0, d, t, u, cs, x, _, h => by simp [DataW.trod] at h
 | fuel + 1, 0, t, u, cs, x, ht, h => by cases ht
 | fuel + 1, d + 1, t, u, cs, x, ht, h => by
   simp only [tyB, Bool.and_eq_true, decide_eq_true_eq] at ht
   obtain ⟨⟨hn, hpos⟩, ht⟩ := ht
   cases hu : P.underlying t with
   | none => rw [hu] at ht; cases ht
   | some de =>
     rw [hu] at ht
     cases de <;> simp only at ht <;> try (cases ht; done)
     case bool =>
      cases u <;> simp only at ht <;> try (cases ht; done)
      obtain ⟨b, rfl, rfl⟩ := DataW.trod_bool hu h
      exact ⟨b, rfl, hB.lit _⟩
     case string =>
      cases u <;> simp only at ht <;> try (cases ht; done)
      obtain ⟨s, rfl, rfl, hs⟩ := DataW.trod_string hu h
      exact ⟨s, ⟨rfl, hs⟩, by have := hB.str s.data.toList; simpa [sz] using this⟩
     case int k =>
      cases u <;> simp only at ht <;> try (cases ht; done)
      simp only [decide_eq_true_eq] at ht
      subst ht
      obtain ⟨n, rfl, rfl, hs⟩ := DataW.trod_int hu h
      refine ⟨n, ⟨rfl, ?_⟩, hB.lit _⟩
      simpa [Lit.wf, InR] using hs
     case slice e =>
      cases u <;> simp only at ht <;> try (cases ht; done)
      rename_i v
      have hcell : P.cellsOf e = v.n ∧ 0 < v.n := by
       cases d with
       | zero => cases ht
       | succ d => simp only [tyB, Bool.and_eq_true, decide_eq_true_eq] at ht; exact ht.1
      rcases DataW.trod_slice hu h with ⟨rfl, rfl⟩ | ⟨a, len, cap, elems, rest, n, e1, rfl, rfl, _, hlc, hcm, hel, helem, hsp, _⟩
      · exact ⟨[], ⟨none, 0, 0, rfl, rfl, Nat.le_refl _, by simp [maxLen], .inl rfl⟩, by simpa [sz] using hB.nil⟩
      · cases e1
        obtain ⟨hrl, hrest⟩ := hsp rfl
        have hspot : 0 < cap → a.spot = none := by
         intro hc
         have key : ∀ i y, (w.cells? 0 (a.add (i * P.cellsOf e)) (P.cellsOf e)).bind (DataW.trod enc P w 0 (fun _ => true) true fuel e) = some y → i = 0 → a.spot = none := by
          rintro i y hy rfl
          rw [Nat.zero_mul] at hy
          cases hcs : w.cells? 0 (a.add 0) (P.cellsOf e) with
          | none => rw [hcs] at hy; cases hy
          | some c0 =>
            obtain ⟨g1, g2⟩ := cells?_spec hcs
            have hp : 0 < c0.length := by omega
            have g3 := g2 0 c0[0] (by simp [hp])
            simp only [Addr.add, if_true] at g3
            unfold World.cell? at g3
            split at g3
            · split at g3
              · cases g3
              · rename_i hs; simpa using hs
            · cases g3
         by_cases hl : 0 < len
         · have := helem 0 hl
           rw [List.getElem?_eq_getElem (by omega)] at this
           exact key 0 _ this rfl
         · have := hrest 0 (by omega)
           rw [List.getElem?_eq_getElem (by omega)] at this
           exact key _ _ this (by omega)
        -- the elements
        have hex : ∀ i, i < len → ∃ c, w.cells? 0 (a.add (i * P.cellsOf e)) (P.cellsOf e) = some c := fun i hi => by
         have := helem i hi
         rw [List.getElem?_eq_getElem (by omega)] at this
         cases hc : w.cells? 0 (a.add (i * P.cellsOf e)) (P.cellsOf e) with
         | none => rw [hc] at this; cases this
         | some c => exact ⟨c, rfl⟩
        obtain ⟨css, hcl, hcs⟩ := pick_rows _ len hex
        have hrow : ∀ (i : Nat) (c : List Value), css[i]? = some c → ∃ y : v.den, ro w (fun _ => False) v y c ∧ ∃ q, elems[i]? = some q ∧ sz v y ≤ B q.1 := by
         intro i c hc
         have hi : i < len := by have := (List.getElem?_eq_some_iff.1 hc).1; omega
         have h1 := helem i hi
         rw [hcs i hi, hc] at h1
         simp only [Option.bind_some] at h1
         rw [List.getElem?_eq_getElem (by omega)] at h1
         obtain ⟨y, g1, g2⟩ := trod_ro hB fuel d e v c _ ht h1
         exact ⟨y, g1, _, List.getElem?_eq_getElem (by omega), g2⟩
        obtain ⟨ys, hyl, hyat⟩ := pickQ (Q := fun i (y : v.den) => ∀ c, css[i]? = some c → ro w (fun _ => False) v y c ∧ ∃ q, elems[i]? = some q ∧ sz v y ≤ B q.1) len (fun i hi => by
         obtain ⟨y, g⟩ := hrow i css[i] (List.getElem?_eq_getElem (by omega))
         exact ⟨y, fun c hc => by
          have : css[i] = c := by rw [List.getElem?_eq_getElem (by omega)] at hc; exact Option.some.inj hc
          rw [← this]; exact g⟩)
        have hro : roAll (ro w (fun _ => False) v) ys css.flatten := roAll_mk ys css (by omega) (fun i y c hy hc => (hyat i y hy c hc).1)
        refine ⟨ys, ⟨some a, len, cap, rfl, hyl.symm, hlc, hcm, ?_⟩, ?_⟩
        · by_cases hc0 : cap = 0
          · exact .inl hc0
          · have hs := hspot (by omega)
            refine .inr ⟨a.block, a.off, css.flatten, by obtain ⟨b, o, s⟩ := a; simp only at hs; subst hs; rfl, hro, fun j q hq => ⟨fun h => h, ?_⟩⟩
            obtain ⟨i, r, c, g1, g2, g3⟩ := flatten_at (n := v.n) css (fun c hc => by
             obtain ⟨i, hi, rfl⟩ := List.mem_iff_getElem.1 hc
             have := hcs i (by omega)
             rw [List.getElem?_eq_getElem hi] at this
             rw [(cells?_spec this).1]; exact hcell.1) j q hq
            have hi : i < len := by have := (List.getElem?_eq_some_iff.1 g1).1; omega
            have := hcs i hi
            rw [g1] at this
            have := (cells?_spec this).2 r q g2
            rw [add_add _ _ _ hs] at this
            obtain ⟨b, o, s⟩ := a
            simp only at hs; subst hs
            rw [add_none] at this
            rw [g3, ← hcell.1]
            exact this
        · have := sum_le hB ys (elems.map (·.1)) (by simp; omega) (fun i y q hy hq => by
           have hi : i < len := by have := (List.getElem?_eq_some_iff.1 hy).1; omega
           obtain ⟨_, z, g1, g2⟩ := hyat i y hy css[i] (List.getElem?_eq_getElem (by omega))
           rw [List.getElem?_map, g1] at hq
           simp at hq; subst hq; exact g2)
          have h2 := hB.sl (elems.map (·.1)) (rest.map (·.1))
          simp only [sz]
          omega
     case struct fs =>
      obtain ⟨xs, n, e1, rfl, hcl, hxl, hf⟩ := DataW.trod_struct hu h
      cases e1
      -- field by field
      have key : ∀ (fl : List Field) (off : Nat) (u : Ty) (i : Nat), tyB.tyFs (tyB P d) fl off u = true → (∀ (j : Nat) (f : Field), fl[j]? = some f → fs[i + j]? = some f) → i + fl.length = fs.size → off + u.n ≤ cs.length →
       ∃ y : u.den, ro w (fun _ => False) u y ((cs.drop off).take u.n) ∧ sz u y ≤ BA ((xs.drop i).map (·.1)) := by
       intro fl
       induction fl with
       | nil => intro off u i h _ _ _; cases h
       | cons f fl ih =>
         intro off u i hfl hat hlen hoff
         have h0 := hat 0 f rfl
         have hf0 := hf i f (by simpa using h0)
         have hi : i < xs.length := by simp at hlen; omega
         have hdrop : xs.drop i = xs[i] :: xs.drop (i + 1) := List.drop_eq_getElem_cons hi
         have hlast : ∀ u, f.offset = off → tyB P d f.type u = true → ∃ y : u.den, ro w (fun _ => False) u y ((cs.drop off).take u.n) ∧ sz u y ≤ B xs[i].1 := by
          intro u e1 e2
          rw [List.getElem?_eq_getElem hi, e1] at hf0
          have hc : P.cellsOf f.type = u.n := by
           cases d with
           | zero => cases e2
           | succ d => simp only [tyB, Bool.and_eq_true, decide_eq_true_eq] at e2; exact e2.1.1
          rw [hc] at hf0
          exact trod_ro hB fuel d f.type u _ _ e2 hf0
         match fl, hfl with
         | [], hfl =>
           simp only [tyB.tyFs, Bool.and_eq_true, decide_eq_true_eq] at hfl
           obtain ⟨y, g1, g2⟩ := hlast u hfl.1 hfl.2
           refine ⟨y, g1, ?_⟩
           rw [hdrop, List.map_cons, hB.cons]; omega
         | f2 :: fl, hfl =>
           cases u <;> simp only [tyB.tyFs] at hfl <;> try (cases hfl; done)
           rename_i a b _
           simp only [Bool.and_eq_true, decide_eq_true_eq] at hfl
           obtain ⟨y, g1, g2⟩ := hlast a hfl.1.1 hfl.1.2
           simp only [Ty.n] at hoff
           obtain ⟨z, k1, k2⟩ := ih (off + a.n) b (i + 1) hfl.2 (fun j g hg => by have := hat (j + 1) g (by simpa using hg); rwa [show i + (j + 1) = i + 1 + j by omega] at this) (by simp at hlen ⊢; omega) (by omega)
           refine ⟨(y, z), ⟨_, _, ?_, g1, k1⟩, ?_⟩
           · simp only [Ty.n]
             rw [← List.drop_drop, ← List.take_add]
           · rw [hdrop, List.map_cons, hB.cons]
             simp only [sz]; omega
      obtain ⟨y, g1, g2⟩ := key fs.toList 0 u 0 ht (fun j f hj => by simpa using hj) (by simp) (by omega)
      refine ⟨y, ?_, ?_⟩
      · rw [List.drop_zero, List.take_of_length_le (by omega)] at g1; exact g1
      · rw [List.drop_zero] at g2
        exact Nat.le_trans g2 (hB.agg _)

end
end Go.Ev
