/- What the statements about departures share. -/
import Derived.Test.YtjhoidgpecgfoaaGreatDgKCToKB
set_option linter.unusedSimpArgs false
set_option linter.unusedVariables false
set_option maxRecDepth 100000
set_option maxHeartbeats 8000000
namespace Go.Proofs.YtjhoidgpecgfoaaGreat
open Go.Ev

attribute [local go_sem] List.set_cons_succ List.set_cons_zero List.getD_cons_succ List.getD_cons_zero List.set_nil
def smallC (l : List Cnt) : Bool := l.all (fun c => decide ((c.pcs.length : Int) ≤ 70)) && decide ((l.length : Int) ≤ 30)
def con38 : Con := { ps := [.d false (.sl yCT)], rs := [.d false .bool], pre := fun _ => True, out := fun (x : List Cnt × Unit) => (smallC x.1, ()), nw := id }
theorem c38 : CtrOk Tryz.prog 38 con38.ctr :=
 con_sound (G := ⟨[], [], [], []⟩) tab_ok EnvOk.nil rfl Tryz.func38 rfl con38 33005 (by kernel_rfl) (by decide) (by decide) rfl (by decide) rfl (by
  rintro ⟨(l : List Cnt), _⟩ hpre hwf X hT hG hk hK
  (simp -implicitDefEqProofs only [go_sem, Prod.eta, Option.isSome_none, Option.isSome_some, Int.toNat_zero, Nat.reduceAdd, Nat.reduceMul, Nat.reduceSub, Nat.reduceEqDiff, Nat.reduceLT, Nat.reduceLeDiff, Nat.reduceShiftRight, Nat.reduceMod, Nat.reduceBEq, reduceCtorEq, reduceIte, reduceDIte, Int.reduceNeg, Bool.not_eq_true', Bool.not_eq_false', Bool.or_eq_true, Bool.or_eq_false_iff, Bool.and_eq_true, Bool.and_eq_false_iff, decide_eq_true_eq, decide_eq_false_iff_not, Classical.not_not, not_or, maxLen, con38, hT, hG, hk, hK, Tryz.results38] at hwf ⊢); (try simp (disch := decide +kernel) only [drawn, true_and, and_true])
  clear hwf
  refine fun _ => evk_loop ⟨{ i : Nat // i ≤ l.length ∧ ∀ k, k < i → (fun c : Cnt => !decide ((c.pcs.length : Int) ≤ 70)) (l.getD k ct0) = false }, 1000, fun q => [(0, .one (.sl yCT l false)), (5, .one (.int .i64 l.length)), (6, .one (.int .i64 q.1))], fun q => [], fun q => l.length - q.1⟩ ⟨0, by omega, fun k hk => by omega⟩ ?_ ?_
  · simp only [go_sem, Prod.eta, Option.isSome_none, Option.isSome_some, Int.toNat_zero, Nat.reduceAdd, Nat.reduceMul, Nat.reduceSub, Nat.reduceEqDiff, Nat.reduceLT, Nat.reduceLeDiff, Nat.reduceShiftRight, Nat.reduceMod, Nat.reduceBEq, reduceCtorEq, reduceIte, reduceDIte, Int.reduceNeg]
    try (first | rfl | exact ⟨rfl, rfl⟩ | (and_intros <;> first | trivial | rfl | omega))
  · rintro ⟨i, (hi : i ≤ l.length), hz⟩
    (simp -implicitDefEqProofs only [go_sem, Prod.eta, Option.isSome_none, Option.isSome_some, Int.toNat_zero, Nat.reduceAdd, Nat.reduceMul, Nat.reduceSub, Nat.reduceEqDiff, Nat.reduceLT, Nat.reduceLeDiff, Nat.reduceShiftRight, Nat.reduceMod, Nat.reduceBEq, reduceCtorEq, reduceIte, reduceDIte, Int.reduceNeg, Bool.not_eq_true', Bool.not_eq_false', Bool.or_eq_true, Bool.or_eq_false_iff, Bool.and_eq_true, Bool.and_eq_false_iff, decide_eq_true_eq, decide_eq_false_iff_not, Classical.not_not, not_or, maxLen, con38, hT, hG, hk, hK, Tryz.results38]); (try simp (disch := decide +kernel) only [drawn, true_and, and_true])
    obtain ⟨o, ho⟩ : ∃ o, l.getD i ct0 = o := ⟨_, rfl⟩
    have eo : l.getD (i : Int).toNat (0, (ByteArray.empty, 0, ByteArray.empty, 0), 0, 0, 0, 0, 0, []) = o := ho
    simp only [eo]
    (repeat' (with_reducible (first | refine And.intro ?_ ?_ | intro _))) <;> (try (first | with_reducible (first | done | assumption | omega | contradiction) | decide))
    all_goals first
     | (have h : ((o.pcs.length : Nat) : Int) > 70 := by assumption
        have hm : o ∈ l := by rw [← ho]; exact getD_mem (by omega)
        unfold smallC
        rw [show (l.all fun c => decide ((c.pcs.length : Int) ≤ 70)) = false from List.all_eq_false.2 ⟨o, hm, by rw [decide_eq_true_eq]; omega⟩]; rfl)
     | (have h : ¬ ((o.pcs.length : Nat) : Int) > 70 := by assumption
        refine fin_lp ⟨i + 1, by omega, lt_succ hz (by rw [ho]; show (!decide ((o.pcs.length : Int) ≤ 70)) = false; rw [decide_eq_true (by omega)]; rfl)⟩ (by simp only [go_sem, Prod.eta, Option.isSome_none, Option.isSome_some, Int.toNat_zero, Nat.reduceAdd, Nat.reduceMul, Nat.reduceSub, Nat.reduceEqDiff, Nat.reduceLT, Nat.reduceLeDiff, Nat.reduceShiftRight, Nat.reduceMod, Nat.reduceBEq, reduceCtorEq, reduceIte, reduceDIte, Int.reduceNeg]; first | rfl | ((repeat' apply And.intro) <;> first | rfl | assumption | omega)) (by dsimp only; omega)
        done)
     | (unfold smallC
        rw [show (l.all fun c => decide ((c.pcs.length : Int) ≤ 70)) = true from List.all_eq_true.2 fun x hx => ?_]; rfl
        obtain ⟨k, hkk, rfl⟩ := mem_getD (d := ct0) hx
        have := hz k (by omega)
        simpa using this)
     | fail)
theorem smallC_of {l : List Cnt} (h : smallC l = true) : (∀ c ∈ l, c.pcs.length ≤ 70) ∧ l.length ≤ 30 := by
 unfold smallC at h
 rw [Bool.and_eq_true, List.all_eq_true, decide_eq_true_eq] at h
 exact ⟨fun c hc => by have := h.1 c hc; rw [decide_eq_true_eq] at this; omega, by omega⟩
def smallD (h : List Hhd) (c : List Cnt) (p : List Plm) (r : List Rlg) : Bool := p.all (fun x => decide ((x.2.2.length : Int) ≤ 30)) && (((smallC c && decide ((h.length : Int) ≤ 20)) && decide ((p.length : Int) ≤ 40)) && decide ((r.length : Int) ≤ 60))
def con6 : Con := { ps := [.d false (.sl yHH), .d false (.sl yCT), .d false (.sl yPM), .d false (.sl yRU)], rs := [.d false .bool], pre := fun _ => True, out := fun (x : List Hhd × List Cnt × List Plm × List Rlg × Unit) => (smallD x.1 x.2.1 x.2.2.1 x.2.2.2.1, ()), nw := id }
theorem c6 : CtrOk Tryz.prog 6 con6.ctr :=
 con_sound (G := ⟨[(38, con38.ctr)], [], [], []⟩) tab_ok (EnvOk.cons c38 has38 EnvOk.nil) rfl Tryz.func6 rfl con6 2112271 (by kernel_rfl) (by decide) (by decide) rfl (by decide) rfl (by
  rintro ⟨(h : List Hhd), (c : List Cnt), (l : List Plm), (r : List Rlg), _⟩ hpre hwf X hT hG hk hK
  (simp -implicitDefEqProofs only [go_sem, Prod.eta, Option.isSome_none, Option.isSome_some, Int.toNat_zero, Nat.reduceAdd, Nat.reduceMul, Nat.reduceSub, Nat.reduceEqDiff, Nat.reduceLT, Nat.reduceLeDiff, Nat.reduceShiftRight, Nat.reduceMod, Nat.reduceBEq, reduceCtorEq, reduceIte, reduceDIte, Int.reduceNeg, Bool.not_eq_true', Bool.not_eq_false', Bool.or_eq_true, Bool.or_eq_false_iff, Bool.and_eq_true, Bool.and_eq_false_iff, decide_eq_true_eq, decide_eq_false_iff_not, Classical.not_not, not_or, maxLen, con6, con38, hT, hG, hk, hK, Tryz.results6] at hwf ⊢); (try simp (disch := decide +kernel) only [drawn, true_and, and_true])
  clear hwf
  refine fun _ => evk_loop ⟨{ i : Nat // i ≤ l.length ∧ ∀ k, k < i → (fun c : Plm => !decide ((c.2.2.length : Int) ≤ 30)) (l.getD k pm0) = false }, 1000, fun q => [(0, .one (.sl yHH h false)), (1, .one (.sl yCT c false)), (2, .one (.sl yPM l false)), (3, .one (.sl yRU r false)), (11, .one (.int .i64 l.length)), (12, .one (.int .i64 q.1))], fun q => [], fun q => l.length - q.1⟩ ⟨0, by omega, fun k hk => by omega⟩ ?_ ?_
  · simp only [go_sem, Prod.eta, Option.isSome_none, Option.isSome_some, Int.toNat_zero, Nat.reduceAdd, Nat.reduceMul, Nat.reduceSub, Nat.reduceEqDiff, Nat.reduceLT, Nat.reduceLeDiff, Nat.reduceShiftRight, Nat.reduceMod, Nat.reduceBEq, reduceCtorEq, reduceIte, reduceDIte, Int.reduceNeg]
    try (first | rfl | exact ⟨rfl, rfl⟩ | (and_intros <;> first | trivial | rfl | omega))
  · rintro ⟨i, (hi : i ≤ l.length), hz⟩
    (simp -implicitDefEqProofs only [go_sem, Prod.eta, Option.isSome_none, Option.isSome_some, Int.toNat_zero, Nat.reduceAdd, Nat.reduceMul, Nat.reduceSub, Nat.reduceEqDiff, Nat.reduceLT, Nat.reduceLeDiff, Nat.reduceShiftRight, Nat.reduceMod, Nat.reduceBEq, reduceCtorEq, reduceIte, reduceDIte, Int.reduceNeg, Bool.not_eq_true', Bool.not_eq_false', Bool.or_eq_true, Bool.or_eq_false_iff, Bool.and_eq_true, Bool.and_eq_false_iff, decide_eq_true_eq, decide_eq_false_iff_not, Classical.not_not, not_or, maxLen, con6, con38, hT, hG, hk, hK, Tryz.results6]); (try simp (disch := decide +kernel) only [drawn, true_and, and_true])
    obtain ⟨o, ho⟩ : ∃ o, l.getD i pm0 = o := ⟨_, rfl⟩
    have eo : l.getD (i : Int).toNat (((0, 0, 0), 0, 0), 0, []) = o := ho
    simp only [eo]
    (repeat' (with_reducible (first | refine And.intro ?_ ?_ | intro _))) <;> (try (first | with_reducible (first | done | assumption | omega | contradiction) | decide))
    all_goals first
     | (have h : ((o.2.2.length : Nat) : Int) > 30 := by assumption
        have hm : o ∈ l := by rw [← ho]; exact getD_mem (by omega)
        unfold smallD
        rw [show (l.all fun c => decide ((c.2.2.length : Int) ≤ 30)) = false from List.all_eq_false.2 ⟨o, hm, by rw [decide_eq_true_eq]; omega⟩]; rfl)
     | (have h : ¬ ((o.2.2.length : Nat) : Int) > 30 := by assumption
        refine fin_lp ⟨i + 1, by omega, lt_succ hz (by rw [ho]; show (!decide ((o.2.2.length : Int) ≤ 30)) = false; rw [decide_eq_true (by omega)]; rfl)⟩ (by simp only [go_sem, Prod.eta, Option.isSome_none, Option.isSome_some, Int.toNat_zero, Nat.reduceAdd, Nat.reduceMul, Nat.reduceSub, Nat.reduceEqDiff, Nat.reduceLT, Nat.reduceLeDiff, Nat.reduceShiftRight, Nat.reduceMod, Nat.reduceBEq, reduceCtorEq, reduceIte, reduceDIte, Int.reduceNeg]; first | rfl | ((repeat' apply And.intro) <;> first | rfl | assumption | omega)) (by dsimp only; omega)
        done)
     | (unfold smallD
        rw [show (l.all fun c => decide ((c.2.2.length : Int) ≤ 30)) = true from List.all_eq_true.2 fun x hx => ?_, Bool.true_and]
        obtain ⟨k, hkk, rfl⟩ := mem_getD (d := pm0) hx
        have := hz k (by omega)
        simpa using this)
     | fail)
theorem smallD_of {h : List Hhd} {c : List Cnt} {p : List Plm} {r : List Rlg} (q : smallD h c p r = true) : (∀ x ∈ p, x.2.2.length ≤ 30) ∧ ((∀ x ∈ c, x.pcs.length ≤ 70) ∧ c.length ≤ 30) ∧ h.length ≤ 20 ∧ p.length ≤ 40 ∧ r.length ≤ 60 := by
 unfold smallD at q
 simp only [Bool.and_eq_true, List.all_eq_true, decide_eq_true_eq] at q
 obtain ⟨q1, ⟨⟨q2, q3⟩, q4⟩, q5⟩ := q
 exact ⟨fun x hx => by have := q1 x hx; omega, smallC_of q2, by omega, by omega, by omega⟩
def con10 : RCon := { ps := [.p 103 ySR, .d false (.int .i64)], rs := [.o 89 yRU], pre := fun (x : Src × Int × Unit) => 0 ≤ x.1.2 ∧ 0 ≤ x.2.1 ∧ x.2.1 ≤ 1000, rel := fun (x : Src × Int × Unit) (y : List Rlg × Unit) (z : Src × Int × Unit) => 0 ≤ z.1.2 ∧ (y.1.length : Int) ≤ x.2.1 }
theorem c10 : RCtrOk Tryz.prog 10 con10.rctr :=
 rcon_sound (G := ⟨[(11, con11.ctr), (31, con31.ctr)], [], [], []⟩) tab_ok (EnvOk.cons c11 has11 (EnvOk.cons c31 has31 EnvOk.nil)) rfl Tryz.func10 rfl con10 83894899 (by kernel_rfl) (by decide) (by decide) rfl (by decide) rfl (by
  rintro ⟨⟨(s : List Int), (a : Int)⟩, (n : Int), _⟩ hpre hwf X hT hG hk hK
  obtain ⟨h1, h2, h3⟩ : 0 ≤ a ∧ 0 ≤ n ∧ n ≤ 1000 := hpre
  (simp -implicitDefEqProofs only [go_sem, Prod.eta, Option.isSome_none, Option.isSome_some, Int.toNat_zero, Nat.reduceAdd, Nat.reduceMul, Nat.reduceSub, Nat.reduceEqDiff, Nat.reduceLT, Nat.reduceLeDiff, Nat.reduceShiftRight, Nat.reduceMod, Nat.reduceBEq, reduceCtorEq, reduceIte, reduceDIte, Int.reduceNeg, Bool.not_eq_true', Bool.not_eq_false', Bool.or_eq_true, Bool.or_eq_false_iff, Bool.and_eq_true, Bool.and_eq_false_iff, decide_eq_true_eq, decide_eq_false_iff_not, Classical.not_not, not_or, maxLen, con10, con11, con31, hT, hG, hk, hK, Tryz.results10] at hwf ⊢); (try simp (disch := decide +kernel) only [drawn, true_and, and_true])
  refine evk_loop ⟨{ q : Src × List Rlg × Nat // 0 ≤ q.1.2 ∧ q.2.1.length ≤ q.2.2 ∧ (q.2.2 : Int) ≤ n }, 1000, fun q => [(0, .one (.loc 0 0)), (1, .one (.int .i64 n)), (5, .one (.row 64)), (6, .one (.int .i64 q.1.2.2))],
   fun q => [(0, .cells 103 [.sl (.int .i64) q.1.1.1 false, .int .i64 q.1.1.2]), (64, .row 89 yRU q.1.2.1)], fun q => n.toNat - q.1.2.2⟩ ⟨((s, a), [], 0), h1, Nat.le_refl _, h2⟩ ?_ ?_
  · simp only [go_sem, Prod.eta, Option.isSome_none, Option.isSome_some, Int.toNat_zero, Nat.reduceAdd, Nat.reduceMul, Nat.reduceSub, Nat.reduceEqDiff, Nat.reduceLT, Nat.reduceLeDiff, Nat.reduceShiftRight, Nat.reduceMod, Nat.reduceBEq, reduceCtorEq, reduceIte, reduceDIte, Int.reduceNeg]
    try (first | rfl | exact ⟨rfl, rfl⟩ | (and_intros <;> first | trivial | rfl | omega))
  · rintro ⟨⟨⟨s, a⟩, l, i⟩, (h1 : 0 ≤ a), (hl : l.length ≤ i), (hi : (i : Int) ≤ n)⟩
    (simp -implicitDefEqProofs only [go_sem, Prod.eta, Option.isSome_none, Option.isSome_some, Int.toNat_zero, Nat.reduceAdd, Nat.reduceMul, Nat.reduceSub, Nat.reduceEqDiff, Nat.reduceLT, Nat.reduceLeDiff, Nat.reduceShiftRight, Nat.reduceMod, Nat.reduceBEq, reduceCtorEq, reduceIte, reduceDIte, Int.reduceNeg, Bool.not_eq_true', Bool.not_eq_false', Bool.or_eq_true, Bool.or_eq_false_iff, Bool.and_eq_true, Bool.and_eq_false_iff, decide_eq_true_eq, decide_eq_false_iff_not, Classical.not_not, not_or, maxLen, con10, con11, con31, hT, hG, hk, hK, Tryz.results10]); (try simp (disch := decide +kernel) only [drawn, true_and, and_true])
    have p1 : 0 ≤ (Src.step (s, a)).snd := step_pos h1
    have p2 : 0 ≤ (Src.step (s, a)).step.snd := step_pos p1
    have r1 := goMod_bd (Src.raw (s, a)) 4 (by omega)
    have r2 := goMod_bd (Src.step (s, a)).raw 8 (by omega)
    have r3 := goMod_bd (Src.step (s, a)).raw 5 (by omega)
    (repeat' (with_reducible (first | refine And.intro ?_ ?_ | intro _))) <;> (try (first | with_reducible (first | done | assumption | omega | contradiction) | decide))
    all_goals first
     | (have hv : goMod (Src.raw (s, a)) 4 = 1 := by assumption
        refine fin_lp ⟨((Src.step (s, a)).step, l ++ [(platesV i, false, 0, 1 + goMod (Src.step (s, a)).raw 8)], i + 1), p2, (by rw [List.length_append, List.length_singleton]; show l.length + 1 ≤ i + 1; omega), (by show ((i + 1 : Nat) : Int) ≤ n; omega)⟩ ?_ (by dsimp only; omega)
        simp only [go_sem, Prod.eta, Option.isSome_none, Option.isSome_some, Int.toNat_zero, Nat.reduceAdd, Nat.reduceMul, Nat.reduceSub, Nat.reduceEqDiff, Nat.reduceLT, Nat.reduceLeDiff, Nat.reduceShiftRight, Nat.reduceMod, Nat.reduceBEq, reduceCtorEq, reduceIte, reduceDIte, Int.reduceNeg]
        try (first | rfl | exact ⟨rfl, rfl⟩ | (and_intros <;> first | trivial | rfl | omega))
        done)
     | (refine fin_lp ⟨((Src.step (s, a)).step, l ++ [(platesV i, true, 1 + goMod (Src.step (s, a)).raw 5, 0)], i + 1), p2, (by rw [List.length_append, List.length_singleton]; show l.length + 1 ≤ i + 1; omega), (by show ((i + 1 : Nat) : Int) ≤ n; omega)⟩ ?_ (by dsimp only; omega)
        simp only [go_sem, Prod.eta, Option.isSome_none, Option.isSome_some, Int.toNat_zero, Nat.reduceAdd, Nat.reduceMul, Nat.reduceSub, Nat.reduceEqDiff, Nat.reduceLT, Nat.reduceLeDiff, Nat.reduceShiftRight, Nat.reduceMod, Nat.reduceBEq, reduceCtorEq, reduceIte, reduceDIte, Int.reduceNeg]
        try (first | rfl | exact ⟨rfl, rfl⟩ | (and_intros <;> first | trivial | rfl | omega))
        done)
     | (refine fin_lp ⟨(Src.step (s, a), l, i + 1), p1, (by show l.length ≤ i + 1; omega), (by show ((i + 1 : Nat) : Int) ≤ n; omega)⟩ ?_ (by dsimp only; omega)
        simp only [go_sem, Prod.eta, Option.isSome_none, Option.isSome_some, Int.toNat_zero, Nat.reduceAdd, Nat.reduceMul, Nat.reduceSub, Nat.reduceEqDiff, Nat.reduceLT, Nat.reduceLeDiff, Nat.reduceShiftRight, Nat.reduceMod, Nat.reduceBEq, reduceCtorEq, reduceIte, reduceDIte, Int.reduceNeg]
        try (first | rfl | exact ⟨rfl, rfl⟩ | (and_intros <;> first | trivial | rfl | omega))
        done)
     | exact ⟨(l, ()), ((s, a), n, ()), ⟨h1, (by show (l.length : Int) ≤ n; omega)⟩, rfl, rfl, rfl⟩
     | fail)
def dayD (i : Nat) : Dpt := (fltsV i, ⟨#[76, 72, 82]⟩, 10, 40, 50, 0, 0)
def dayL (i : Nat) : List Dpt := (List.range i).map dayD
theorem dayL_succ (i : Nat) : dayL (i + 1) = dayL i ++ [dayD i] := by unfold dayL; rw [List.range_succ, List.map_append]; rfl
theorem dayL_len (i : Nat) : (dayL i).length = i := by unfold dayL; simp
def dayV : List Dpt := dayL 3
def con22 : Con := { ps := [], rs := [.o 57 yDP], pre := fun _ => True, out := fun _ => (dayV, ()), nw := id }
theorem c22 : CtrOk Tryz.prog 22 con22.ctr :=
 con_sound (G := ⟨[(13, con13.ctr)], [], [], []⟩) tab_ok (EnvOk.cons c13 has13 EnvOk.nil) rfl Tryz.func22 rfl con22 23 (by kernel_rfl) (by decide) (by decide) rfl (by decide) rfl (by
  rintro ⟨⟩ hpre hwf X hT hG hk hK
  (simp -implicitDefEqProofs only [go_sem, Prod.eta, Option.isSome_none, Option.isSome_some, Int.toNat_zero, Nat.reduceAdd, Nat.reduceMul, Nat.reduceSub, Nat.reduceEqDiff, Nat.reduceLT, Nat.reduceLeDiff, Nat.reduceShiftRight, Nat.reduceMod, Nat.reduceBEq, reduceCtorEq, reduceIte, reduceDIte, Int.reduceNeg, Bool.not_eq_true', Bool.not_eq_false', Bool.or_eq_true, Bool.or_eq_false_iff, Bool.and_eq_true, Bool.and_eq_false_iff, decide_eq_true_eq, decide_eq_false_iff_not, Classical.not_not, not_or, maxLen, con22, con13, hT, hG, hk, hK, Tryz.results22] at hwf ⊢); (try simp (disch := decide +kernel) only [drawn, true_and, and_true])
  refine evk_loop ⟨{ i : Nat // i ≤ 3 }, 1000, fun q => [(1, .one (.row 64)), (2, .one (.int .i64 q.1))], fun q => [(64, .row 57 yDP (dayL q.1))], fun q => 3 - q.1⟩ ⟨0, by omega⟩ ?_ ?_
  · simp only [go_sem, Prod.eta, Option.isSome_none, Option.isSome_some, Int.toNat_zero, Nat.reduceAdd, Nat.reduceMul, Nat.reduceSub, Nat.reduceEqDiff, Nat.reduceLT, Nat.reduceLeDiff, Nat.reduceShiftRight, Nat.reduceMod, Nat.reduceBEq, reduceCtorEq, reduceIte, reduceDIte, Int.reduceNeg]
    try (first | rfl | exact ⟨rfl, rfl⟩ | (and_intros <;> first | trivial | rfl | omega))
  · rintro ⟨i, (hi : i ≤ 3)⟩
    (simp -implicitDefEqProofs only [go_sem, Prod.eta, Option.isSome_none, Option.isSome_some, Int.toNat_zero, Nat.reduceAdd, Nat.reduceMul, Nat.reduceSub, Nat.reduceEqDiff, Nat.reduceLT, Nat.reduceLeDiff, Nat.reduceShiftRight, Nat.reduceMod, Nat.reduceBEq, reduceCtorEq, reduceIte, reduceDIte, Int.reduceNeg, Bool.not_eq_true', Bool.not_eq_false', Bool.or_eq_true, Bool.or_eq_false_iff, Bool.and_eq_true, Bool.and_eq_false_iff, decide_eq_true_eq, decide_eq_false_iff_not, Classical.not_not, not_or, maxLen, con22, con13, hT, hG, hk, hK, Tryz.results22]); (try simp (disch := decide +kernel) only [drawn, true_and, and_true])
    (repeat' (with_reducible (first | refine And.intro ?_ ?_ | intro _))) <;> (try (first | with_reducible (first | done | assumption | omega | contradiction) | decide))
    all_goals first
     | (refine fin_lp ⟨i + 1, by omega⟩ ?_ (by dsimp only; omega)
        simp only [go_sem, Prod.eta, Option.isSome_none, Option.isSome_some, Int.toNat_zero, Nat.reduceAdd, Nat.reduceMul, Nat.reduceSub, Nat.reduceEqDiff, Nat.reduceLT, Nat.reduceLeDiff, Nat.reduceShiftRight, Nat.reduceMod, Nat.reduceBEq, reduceCtorEq, reduceIte, reduceDIte, Int.reduceNeg]
        rw [dayL_succ]
        try (first | rfl | exact ⟨rfl, rfl⟩ | (and_intros <;> first | trivial | rfl | omega))
        done)
     | (rw [show i = 3 by omega]; rfl)
     | (simp only [dayL_len]; omega)
     | fail)
def heldC (i : Nat) : Cnt := ((i : Int) + 1, fltsV 0, 31, 9000, 50, (i : Int) + 1, 0, [])
def heldV (n : Nat) : List Cnt := (List.range n).map heldC
theorem heldV_succ (i : Nat) : heldV (i + 1) = heldV i ++ [heldC i] := by unfold heldV; rw [List.range_succ, List.map_append]; rfl
theorem heldV_len (i : Nat) : (heldV i).length = i := by unfold heldV; simp
def con25 : Con := { ps := [.d false (.int .i64)], rs := [.o 107 yCT], pre := fun (x : Int × Unit) => 0 ≤ x.1 ∧ x.1 ≤ 1000, out := fun (x : Int × Unit) => (heldV x.1.toNat, ()), nw := id }
theorem c25 : CtrOk Tryz.prog 25 con25.ctr :=
 con_sound (G := ⟨[(13, con13.ctr)], [], [], []⟩) tab_ok (EnvOk.cons c13 has13 EnvOk.nil) rfl Tryz.func25 rfl con25 157 (by kernel_rfl) (by decide) (by decide) rfl (by decide) rfl (by
  rintro ⟨(n : Int), _⟩ hpre hwf X hT hG hk hK
  obtain ⟨h1, h2⟩ : 0 ≤ n ∧ n ≤ 1000 := hpre
  (simp -implicitDefEqProofs only [go_sem, Prod.eta, Option.isSome_none, Option.isSome_some, Int.toNat_zero, Nat.reduceAdd, Nat.reduceMul, Nat.reduceSub, Nat.reduceEqDiff, Nat.reduceLT, Nat.reduceLeDiff, Nat.reduceShiftRight, Nat.reduceMod, Nat.reduceBEq, reduceCtorEq, reduceIte, reduceDIte, Int.reduceNeg, Bool.not_eq_true', Bool.not_eq_false', Bool.or_eq_true, Bool.or_eq_false_iff, Bool.and_eq_true, Bool.and_eq_false_iff, decide_eq_true_eq, decide_eq_false_iff_not, Classical.not_not, not_or, maxLen, con25, con13, hT, hG, hk, hK, Tryz.results25] at hwf ⊢); (try simp (disch := decide +kernel) only [drawn, true_and, and_true])
  refine evk_loop ⟨{ i : Nat // (i : Int) ≤ n }, 1000, fun q => [(0, .one (.int .i64 n)), (3, .one (.row 64)), (4, .one (.int .i64 (q.1 + 1)))], fun q => [(64, .row 107 yCT (heldV q.1))], fun q => n.toNat - q.1⟩ ⟨0, h1⟩ ?_ ?_
  · simp only [go_sem, Prod.eta, Option.isSome_none, Option.isSome_some, Int.toNat_zero, Nat.reduceAdd, Nat.reduceMul, Nat.reduceSub, Nat.reduceEqDiff, Nat.reduceLT, Nat.reduceLeDiff, Nat.reduceShiftRight, Nat.reduceMod, Nat.reduceBEq, reduceCtorEq, reduceIte, reduceDIte, Int.reduceNeg]
    try (first | rfl | exact ⟨rfl, rfl⟩ | (and_intros <;> first | trivial | rfl | omega))
  · rintro ⟨i, (hi : (i : Int) ≤ n)⟩
    (simp -implicitDefEqProofs only [go_sem, Prod.eta, Option.isSome_none, Option.isSome_some, Int.toNat_zero, Nat.reduceAdd, Nat.reduceMul, Nat.reduceSub, Nat.reduceEqDiff, Nat.reduceLT, Nat.reduceLeDiff, Nat.reduceShiftRight, Nat.reduceMod, Nat.reduceBEq, reduceCtorEq, reduceIte, reduceDIte, Int.reduceNeg, Bool.not_eq_true', Bool.not_eq_false', Bool.or_eq_true, Bool.or_eq_false_iff, Bool.and_eq_true, Bool.and_eq_false_iff, decide_eq_true_eq, decide_eq_false_iff_not, Classical.not_not, not_or, maxLen, con25, con13, hT, hG, hk, hK, Tryz.results25]); (try simp (disch := decide +kernel) only [drawn, true_and, and_true])
    (repeat' (with_reducible (first | refine And.intro ?_ ?_ | intro _))) <;> (try (first | with_reducible (first | done | assumption | omega | contradiction) | decide))
    all_goals first
     | (refine fin_lp ⟨i + 1, (by show ((i + 1 : Nat) : Int) ≤ n; omega)⟩ ?_ (by dsimp only; omega)
        simp only [go_sem, Prod.eta, Option.isSome_none, Option.isSome_some, Int.toNat_zero, Nat.reduceAdd, Nat.reduceMul, Nat.reduceSub, Nat.reduceEqDiff, Nat.reduceLT, Nat.reduceLeDiff, Nat.reduceShiftRight, Nat.reduceMod, Nat.reduceBEq, reduceCtorEq, reduceIte, reduceDIte, Int.reduceNeg]
        rw [heldV_succ]
        try (first | rfl | exact ⟨rfl, rfl⟩ | (and_intros <;> first | trivial | rfl | omega))
        done)
     | (rw [show n.toNat = i by omega]; done)
     | (rw [show n.toNat = i by omega]; rfl)
     | (simp only [heldV_len]; omega)
     | fail)
def con21 : Con := { ps := [.d false (.sl yBR)], rs := [.d false .bool], pre := fun _ => True, out := fun (x : List Bar × Unit) => (decide (x.1.length = 0), ()), nw := id }
theorem c21 : CtrOk Tryz.prog 21 con21.ctr :=
 con_sound (G := ⟨[], [], [], []⟩) tab_ok EnvOk.nil rfl Tryz.func21 rfl con21 5 (by kernel_rfl) (by decide) (by decide) rfl (by decide) rfl (by
  rintro ⟨(l : List Bar), _⟩ hpre hwf X hT hG hk hK
  (simp -implicitDefEqProofs only [go_sem, Prod.eta, Option.isSome_none, Option.isSome_some, Int.toNat_zero, Nat.reduceAdd, Nat.reduceMul, Nat.reduceSub, Nat.reduceEqDiff, Nat.reduceLT, Nat.reduceLeDiff, Nat.reduceShiftRight, Nat.reduceMod, Nat.reduceBEq, reduceCtorEq, reduceIte, reduceDIte, Int.reduceNeg, Bool.not_eq_true', Bool.not_eq_false', Bool.or_eq_true, Bool.or_eq_false_iff, Bool.and_eq_true, Bool.and_eq_false_iff, decide_eq_true_eq, decide_eq_false_iff_not, Classical.not_not, not_or, maxLen, con21, hT, hG, hk, hK, Tryz.results21] at hwf ⊢); (try simp (disch := decide +kernel) only [drawn, true_and, and_true])
  (repeat' (with_reducible (first | refine And.intro ?_ ?_ | intro _))) <;> (try (first | with_reducible (first | done | assumption | omega | contradiction) | decide))
  all_goals first | done | rfl | (rw [decide_eq_decide]; omega) | fail)
def con23 : Con := { ps := [], rs := [.d false .bool], pre := fun _ => True, out := fun _ => (true, ()), nw := id }
theorem c23 : CtrOk Tryz.prog 23 con23.ctr :=
 con_sound (G := ⟨[(25, con25.ctr), (22, con22.ctr), (17, con17.ctr), (21, con21.ctr), (31, con31.ctr), (13, con13.ctr)], [], [], []⟩) tab_ok (EnvOk.cons c25 has25 (EnvOk.cons c22 has22 (EnvOk.cons c17 has17 (EnvOk.cons c21 has21 (EnvOk.cons c31 has31 (EnvOk.cons c13 has13 EnvOk.nil)))))) rfl Tryz.func23 rfl con23 15 (by kernel_rfl) (by decide) (by decide) rfl (by decide) rfl (by
  rintro ⟨⟩ hpre hwf X hT hG hk hK
  (simp -implicitDefEqProofs only [go_sem, Prod.eta, Option.isSome_none, Option.isSome_some, Int.toNat_zero, Nat.reduceAdd, Nat.reduceMul, Nat.reduceSub, Nat.reduceEqDiff, Nat.reduceLT, Nat.reduceLeDiff, Nat.reduceShiftRight, Nat.reduceMod, Nat.reduceBEq, reduceCtorEq, reduceIte, reduceDIte, Int.reduceNeg, Bool.not_eq_true', Bool.not_eq_false', Bool.or_eq_true, Bool.or_eq_false_iff, Bool.and_eq_true, Bool.and_eq_false_iff, decide_eq_true_eq, decide_eq_false_iff_not, Classical.not_not, not_or, maxLen, con23, con25, con22, con17, con21, con31, con13, hT, hG, hk, hK, Tryz.results23] at hwf ⊢); (try simp (disch := decide +kernel) only [drawn, true_and, and_true])
  have e1 : heldV (Int.toNat 1) = [heldC 0] := rfl
  simp only [e1, List.getD_cons_zero, List.set_cons_zero]
  have hb : barsV dayV (fltsV 0) 40 [(1, 1, 0, false, [], [], []), (2, 1, 0, true, [], [], [])] [((heldC 0).1, (heldC 0).2.1, (heldC 0).2.2.1, (heldC 0).2.2.2.1, (heldC 0).2.2.2.2.1, (heldC 0).2.2.2.2.2.1, (heldC 0).2.2.2.2.2.2.1, [(platesV 1, 5, 0)])] [] [] = [(2, 2, 0, 0, 0), (4, 1, platesV 1)] := by decide +kernel
  simp only [hb, List.getD_cons_zero, List.getD_cons_succ, List.length_cons, List.length_nil]
  (repeat' (with_reducible (first | refine And.intro ?_ ?_ | intro _))) <;> (try (first | with_reducible (first | done | assumption | omega | contradiction) | decide))
  all_goals first
   | rfl
   | (refine ⟨by simp, fun o ho => ?_, by simp, fun y hy => by cases hy⟩; rw [List.mem_singleton.1 ho]; decide)
   | decide
   | fail)
end Go.Proofs.YtjhoidgpecgfoaaGreat

/- The plates that concern a flight: the reference's. -/
set_option linter.unusedSimpArgs false
set_option linter.unusedVariables false
set_option maxRecDepth 100000
set_option maxHeartbeats 4000000
namespace Go.Proofs.YtjhoidgpecgfoaaGreat
open Go.Ev

def con16 : Con := { ps := [.d true yFL, .d false (.sl yCT), .d false (.sl yPM)], rs := [.d false (.sl yPL)], pre := fun (x : Flt × List Cnt × List Plm × Unit) => SmC x.2.1 x.2.2.1, out := fun (x : Flt × List Cnt × List Plm × Unit) => (concV x.1 x.2.1 x.2.2.1, ()), nw := id }
theorem c16 : CtrOk Tryz.prog 16 con16.ctr :=
 con_sound (G := ⟨[(51, con51.ctr), (52, con52.ctr)], [], [], []⟩) tab_ok (EnvOk.cons c51 has51 (EnvOk.cons c52 has52 EnvOk.nil)) rfl Tryz.func16 rfl con16 37783548052592396373967 (by kernel_rfl) (by decide) (by decide) rfl (by decide) rfl (by
  rintro ⟨⟨f1, (f2 : Int), f3, (f4 : Int)⟩, (c : List Cnt), (p : List Plm), _⟩ hpre hwf X hT hG hk hK
  have hsm : SmC c p := hpre
  (simp -implicitDefEqProofs only [go_sem, Prod.eta, Option.isSome_none, Option.isSome_some, Int.toNat_zero, Nat.reduceAdd, Nat.reduceMul, Nat.reduceSub, Nat.reduceEqDiff, Nat.reduceLT, Nat.reduceLeDiff, Nat.reduceShiftRight, Nat.reduceMod, Nat.reduceBEq, reduceCtorEq, reduceIte, reduceDIte, Int.reduceNeg, Bool.not_eq_true', Bool.not_eq_false', Bool.or_eq_true, Bool.or_eq_false_iff, Bool.and_eq_true, Bool.and_eq_false_iff, decide_eq_true_eq, decide_eq_false_iff_not, Classical.not_not, not_or, maxLen, con16, con51, con52, hT, hG, hk, hK, Tryz.results16] at hwf ⊢); (try simp (disch := decide +kernel) only [drawn, true_and, and_true])
  clear hwf
  obtain ⟨F, hF⟩ : ∃ F : Flt, F = (f1, f2, f3, f4) := ⟨_, rfl⟩
  refine evk_loop ⟨{ i : Nat // i ≤ c.length }, 1000, fun q => [(1, .one (.sl yCT c false)), (2, .one (.sl yPM p false)), (3, .one (.loc 70 0)), (7, .one (.row 71)), (8, .one (.int .i64 q.1))], fun q => [(70, .cells 24 [.str f1, .int .i64 f2, .str f3, .int .i64 f4]), (71, .row 65 yPL (rawA F (c.take q.1)))], fun q => c.length - q.1⟩ ⟨0, by omega⟩ ?_ ?_
  · simp only [go_sem, Prod.eta, Option.isSome_none, Option.isSome_some, Int.toNat_zero, Nat.reduceAdd, Nat.reduceMul, Nat.reduceSub, Nat.reduceEqDiff, Nat.reduceLT, Nat.reduceLeDiff, Nat.reduceShiftRight, Nat.reduceMod, Nat.reduceBEq, reduceCtorEq, reduceIte, reduceDIte, Int.reduceNeg]
    try (first | rfl | exact ⟨rfl, rfl⟩ | (and_intros <;> first | trivial | rfl | omega))
  · rintro ⟨i, (hi : i ≤ c.length)⟩
    (simp -implicitDefEqProofs only [go_sem, Prod.eta, Option.isSome_none, Option.isSome_some, Int.toNat_zero, Nat.reduceAdd, Nat.reduceMul, Nat.reduceSub, Nat.reduceEqDiff, Nat.reduceLT, Nat.reduceLeDiff, Nat.reduceShiftRight, Nat.reduceMod, Nat.reduceBEq, reduceCtorEq, reduceIte, reduceDIte, Int.reduceNeg, Bool.not_eq_true', Bool.not_eq_false', Bool.or_eq_true, Bool.or_eq_false_iff, Bool.and_eq_true, Bool.and_eq_false_iff, decide_eq_true_eq, decide_eq_false_iff_not, Classical.not_not, not_or, maxLen, con16, con51, con52, hT, hG, hk, hK, Tryz.results16]); (try simp (disch := decide +kernel) only [drawn, true_and, and_true])
    obtain ⟨o, ho⟩ : ∃ o, c.getD i ct0 = o := ⟨_, rfl⟩
    have hra : i < c.length → rawA F (c.take (i + 1)) = rawA F (c.take i) ++ rawC F o := fun h => by unfold rawA; rw [flat_take _ ct0 h, ho]
    have hlr := rawA_len (f := F) hsm i
    have hlo : i < c.length → o.pcs.length ≤ 1000 := fun h => hsm.2.1 o (by rw [← ho]; exact getD_mem h)
    (repeat' (with_reducible (first | refine And.intro ?_ ?_ | intro _))) <;> (try (first | with_reducible (first | done | assumption | omega | contradiction) | decide))
    all_goals first
     | (have hlo := hlo (by omega)
        have e1 := hra (by omega)
        refine evk_loop ⟨{ k : Nat // k ≤ o.pcs.length ∧ (0 < k → o.flt = F) }, 1000, fun q => [(1, .one (.sl yCT c false)), (2, .one (.sl yPM p false)), (3, .one (.loc 70 0)), (7, .one (.row 71)), (8, .one (.int .i64 i)), (9, .one (.int .i64 q.1))], fun q => [(70, .cells 24 [.str f1, .int .i64 f2, .str f3, .int .i64 f4]), (71, .row 65 yPL (rawA F (c.take i) ++ (o.pcs.take q.1).map (fun x => x.1)))], fun q => o.pcs.length - q.1⟩ ⟨0, by omega, fun h => absurd h (by omega)⟩ ?_ ?_
        · simp only [go_sem, Prod.eta, Option.isSome_none, Option.isSome_some, Int.toNat_zero, Nat.reduceAdd, Nat.reduceMul, Nat.reduceSub, Nat.reduceEqDiff, Nat.reduceLT, Nat.reduceLeDiff, Nat.reduceShiftRight, Nat.reduceMod, Nat.reduceBEq, reduceCtorEq, reduceIte, reduceDIte, Int.reduceNeg]
          try simp only [List.take_zero, List.map_nil, List.append_nil]
          try (first | rfl | exact ⟨rfl, rfl⟩ | (and_intros <;> first | trivial | rfl | omega))
        · rintro ⟨k, (hk2 : k ≤ o.pcs.length), hk3⟩
          have hk3 : 0 < k → o.flt = F := hk3
          (simp -implicitDefEqProofs only [go_sem, Prod.eta, Option.isSome_none, Option.isSome_some, Int.toNat_zero, Nat.reduceAdd, Nat.reduceMul, Nat.reduceSub, Nat.reduceEqDiff, Nat.reduceLT, Nat.reduceLeDiff, Nat.reduceShiftRight, Nat.reduceMod, Nat.reduceBEq, reduceCtorEq, reduceIte, reduceDIte, Int.reduceNeg, Bool.not_eq_true', Bool.not_eq_false', Bool.or_eq_true, Bool.or_eq_false_iff, Bool.and_eq_true, Bool.and_eq_false_iff, decide_eq_true_eq, decide_eq_false_iff_not, Classical.not_not, not_or, maxLen, con16, con51, con52, hT, hG, hk, hK, Tryz.results16]); (try simp (disch := decide +kernel) only [drawn, true_and, and_true])
          have eo : c.getD (i : Int).toNat (0, (ByteArray.empty, 0, ByteArray.empty, 0), 0, 0, 0, 0, 0, []) = o := ho
          simp only [eo]
          obtain ⟨y, hy⟩ : ∃ y, o.pcs.getD k pc0 = y := ⟨_, rfl⟩
          have ey : o.pcs.getD (k : Int).toNat ((0, 0, 0), 0, 0) = y := hy
          have hps : k < o.pcs.length → (o.pcs.take (k + 1)).map (fun x => x.1) = (o.pcs.take k).map (fun x => x.1) ++ [y.1] := fun h => by rw [pcs_push h, hy]
          have hkl : ((o.pcs.take k).map (fun x : Pce => x.1)).length ≤ 1000 := by rw [List.length_map, List.length_take]; omega
          try simp only [ey]
          (repeat' (with_reducible (first | refine And.intro ?_ ?_ | intro _))) <;> (try (first | with_reducible (first | done | assumption | omega | contradiction) | decide))
          all_goals first
           | (have hx : (k : Int) < (o.pcs.length : Int) ∧ (o.2.1.1 = f1 ∧ o.2.1.2.1 = f2 ∧ o.2.1.2.2.1 = f3 ∧ o.2.1.2.2.2 = f4) := by assumption
              have hq := hx.2
              have hk4 := hx.1
              have hn : o.flt = F := by rw [hF]; exact (fltE o.2.1 (f1, f2, f3, f4)).mp hq
              have e3 := hps (by omega)
              refine fin_lp ⟨k + 1, by omega, fun _ => hn⟩ ?_ (by dsimp only; omega)
              simp only [go_sem, Prod.eta, Option.isSome_none, Option.isSome_some, Int.toNat_zero, Nat.reduceAdd, Nat.reduceMul, Nat.reduceSub, Nat.reduceEqDiff, Nat.reduceLT, Nat.reduceLeDiff, Nat.reduceShiftRight, Nat.reduceMod, Nat.reduceBEq, reduceCtorEq, reduceIte, reduceDIte, Int.reduceNeg]
              rw [e3, ← List.append_assoc]
              try (first | rfl | exact ⟨rfl, rfl⟩ | (and_intros <;> first | trivial | rfl | omega))
              done)
           | (refine fin_lp ⟨i + 1, by omega⟩ ?_ (by dsimp only; omega)
              have e2 : (o.pcs.take k).map (fun x => x.1) = rawC F o := by
               unfold rawC
               by_cases hn : o.flt = F
               · rw [if_pos hn]
                 have hq := (fltE o.2.1 (f1, f2, f3, f4)).mpr (hF ▸ hn)
                 have e4 : k = o.pcs.length := by
                  have hx : ¬ (k : Int) < (o.pcs.length : Int) ∨ (¬ o.2.1.1 = f1 ∨ ¬ o.2.1.2.1 = f2 ∨ ¬ o.2.1.2.2.1 = f3 ∨ ¬ o.2.1.2.2.2 = f4) := by assumption
                  rcases hx with hx | hx
                  · omega
                  · exact absurd ((fltE o.2.1 (f1, f2, f3, f4)).mp hq) ((fltN o.2.1 (f1, f2, f3, f4)).mp hx)
                 rw [e4, List.take_length]
               · rw [if_neg hn]
                 have e4 : k = 0 := Nat.eq_zero_of_not_pos fun h => hn (hk3 h)
                 rw [e4]; rfl
              simp only [go_sem, Prod.eta, Option.isSome_none, Option.isSome_some, Int.toNat_zero, Nat.reduceAdd, Nat.reduceMul, Nat.reduceSub, Nat.reduceEqDiff, Nat.reduceLT, Nat.reduceLeDiff, Nat.reduceShiftRight, Nat.reduceMod, Nat.reduceBEq, reduceCtorEq, reduceIte, reduceDIte, Int.reduceNeg]
              rw [e1, e2]
              try (first | rfl | exact ⟨rfl, rfl⟩ | (and_intros <;> first | trivial | rfl | omega))
              done)
           | (rw [List.length_append]; omega)
           | fail)
     | (have ei : c.take i = c := List.take_of_length_le (by omega)
        rw [ei]
        refine evk_loop ⟨{ k : Nat // k ≤ p.length }, 1000, fun q => [(1, .one (.sl yCT c false)), (2, .one (.sl yPM p false)), (3, .one (.loc 70 0)), (7, .one (.row 71)), (10, .one (.int .i64 q.1))], fun q => [(70, .cells 24 [.str f1, .int .i64 f2, .str f3, .int .i64 f4]), (71, .row 65 yPL (rawA F c ++ (p.take q.1).flatMap (refP F c)))], fun q => p.length - q.1⟩ ⟨0, by omega⟩ ?_ ?_
        · simp only [go_sem, Prod.eta, Option.isSome_none, Option.isSome_some, Int.toNat_zero, Nat.reduceAdd, Nat.reduceMul, Nat.reduceSub, Nat.reduceEqDiff, Nat.reduceLT, Nat.reduceLeDiff, Nat.reduceShiftRight, Nat.reduceMod, Nat.reduceBEq, reduceCtorEq, reduceIte, reduceDIte, Int.reduceNeg]
          try simp only [List.take_zero, List.flatMap_nil, List.append_nil]
          try (first | rfl | exact ⟨rfl, rfl⟩ | (and_intros <;> first | trivial | rfl | omega))
        · rintro ⟨k, (hk2 : k ≤ p.length)⟩
          (simp -implicitDefEqProofs only [go_sem, Prod.eta, Option.isSome_none, Option.isSome_some, Int.toNat_zero, Nat.reduceAdd, Nat.reduceMul, Nat.reduceSub, Nat.reduceEqDiff, Nat.reduceLT, Nat.reduceLeDiff, Nat.reduceShiftRight, Nat.reduceMod, Nat.reduceBEq, reduceCtorEq, reduceIte, reduceDIte, Int.reduceNeg, Bool.not_eq_true', Bool.not_eq_false', Bool.or_eq_true, Bool.or_eq_false_iff, Bool.and_eq_true, Bool.and_eq_false_iff, decide_eq_true_eq, decide_eq_false_iff_not, Classical.not_not, not_or, maxLen, con16, con51, con52, hT, hG, hk, hK, Tryz.results16]); (try simp (disch := decide +kernel) only [drawn, true_and, and_true])
          obtain ⟨y, hy⟩ : ∃ y, p.getD k pm0 = y := ⟨_, rfl⟩
          have ey : p.getD (k : Int).toNat (((0, 0, 0), 0, 0), 0, []) = y := hy
          have hps : k < p.length → (p.take (k + 1)).flatMap (refP F c) = (p.take k).flatMap (refP F c) ++ refP F c y := fun h => by rw [flat_take _ pm0 h, hy]
          have hkl := refP_len (f := F) (c := c) hsm k
          have hly : k < p.length → y.2.2.length ≤ 1000 := fun h => hsm.2.2.2 y (by rw [← hy]; exact getD_mem h)
          have hlr := rawA_len (f := F) hsm c.length
          rw [List.take_length] at hlr
          (repeat' (with_reducible (first | refine And.intro ?_ ?_ | intro _))) <;> (try (first | with_reducible (first | done | assumption | omega | contradiction) | decide))
          all_goals first
           | (have hly := hly (by omega)
              have e1 := hps (by omega)
              refine evk_loop ⟨{ m : Nat // m ≤ y.2.2.length }, 1000, fun q => [(1, .one (.sl yCT c false)), (2, .one (.sl yPM p false)), (3, .one (.loc 70 0)), (7, .one (.row 71)), (10, .one (.int .i64 k)), (11, .one (.int .i64 q.1))], fun q => [(70, .cells 24 [.str f1, .int .i64 f2, .str f3, .int .i64 f4]), (71, .row 65 yPL (rawA F c ++ (p.take k).flatMap (refP F c) ++ ((y.2.2.take q.1).filter (fun n => oursV F c n)).map (fun _ => y.1.1)))], fun q => y.2.2.length - q.1⟩ ⟨0, by omega⟩ ?_ ?_
              · simp only [go_sem, Prod.eta, Option.isSome_none, Option.isSome_some, Int.toNat_zero, Nat.reduceAdd, Nat.reduceMul, Nat.reduceSub, Nat.reduceEqDiff, Nat.reduceLT, Nat.reduceLeDiff, Nat.reduceShiftRight, Nat.reduceMod, Nat.reduceBEq, reduceCtorEq, reduceIte, reduceDIte, Int.reduceNeg]
                try simp only [List.take_zero, List.filter_nil, List.map_nil, List.append_nil]
                try (first | rfl | exact ⟨rfl, rfl⟩ | (and_intros <;> first | trivial | rfl | omega))
              · rintro ⟨m, (hm : m ≤ y.2.2.length)⟩
                (simp -implicitDefEqProofs only [go_sem, Prod.eta, Option.isSome_none, Option.isSome_some, Int.toNat_zero, Nat.reduceAdd, Nat.reduceMul, Nat.reduceSub, Nat.reduceEqDiff, Nat.reduceLT, Nat.reduceLeDiff, Nat.reduceShiftRight, Nat.reduceMod, Nat.reduceBEq, reduceCtorEq, reduceIte, reduceDIte, Int.reduceNeg, Bool.not_eq_true', Bool.not_eq_false', Bool.or_eq_true, Bool.or_eq_false_iff, Bool.and_eq_true, Bool.and_eq_false_iff, decide_eq_true_eq, decide_eq_false_iff_not, Classical.not_not, not_or, maxLen, con16, con51, con52, hT, hG, hk, hK, Tryz.results16]); (try simp (disch := decide +kernel) only [drawn, true_and, and_true])
                simp only [ey]
                obtain ⟨u, hu⟩ : ∃ u, y.2.2.getD m 0 = u := ⟨_, rfl⟩
                have eu : y.2.2.getD (m : Int).toNat 0 = u := hu
                have hms : m < y.2.2.length → y.2.2.take (m + 1) = y.2.2.take m ++ [u] := fun h => by rw [List.take_succ_eq_append_getElem h, ← getD_lt (d := 0) h, hu]
                have hml : (((y.2.2.take m).filter (fun n => oursV F c n)).map (fun _ => y.1.1)).length ≤ 1000 := by
                 rw [List.length_map]
                 refine Nat.le_trans (List.length_filter_le _ _) ?_
                 rw [List.length_take]; omega
                try simp only [eu]
                rw [← hF]
                (repeat' (with_reducible (first | refine And.intro ?_ ?_ | intro _))) <;> (try (first | with_reducible (first | done | assumption | omega | contradiction) | decide))
                all_goals first
                 | (have hq : oursV F c u = true := by assumption
                    have e3 : ((y.2.2.take (m + 1)).filter (fun n => oursV F c n)).map (fun _ => y.1.1) = ((y.2.2.take m).filter (fun n => oursV F c n)).map (fun _ => y.1.1) ++ [y.1.1] := by
                     rw [hms (by omega), List.filter_append, List.map_append, List.filter_cons_of_pos hq]; rfl
                    refine fin_lp ⟨m + 1, by omega⟩ ?_ (by dsimp only; omega)
                    simp only [go_sem, Prod.eta, Option.isSome_none, Option.isSome_some, Int.toNat_zero, Nat.reduceAdd, Nat.reduceMul, Nat.reduceSub, Nat.reduceEqDiff, Nat.reduceLT, Nat.reduceLeDiff, Nat.reduceShiftRight, Nat.reduceMod, Nat.reduceBEq, reduceCtorEq, reduceIte, reduceDIte, Int.reduceNeg]
                    rw [e3, ← List.append_assoc]
                    try (first | rfl | exact ⟨rfl, rfl⟩ | (and_intros <;> first | trivial | rfl | omega))
                    done)
                 | (have hq : oursV F c u = false := by assumption
                    have e3 : ((y.2.2.take (m + 1)).filter (fun n => oursV F c n)).map (fun _ => y.1.1) = ((y.2.2.take m).filter (fun n => oursV F c n)).map (fun _ => y.1.1) := by
                     rw [hms (by omega), List.filter_append, List.map_append, List.filter_cons_of_neg (by rw [hq]; exact Bool.false_ne_true), List.filter_nil, List.map_nil, List.append_nil]
                    refine fin_lp ⟨m + 1, by omega⟩ ?_ (by dsimp only; omega)
                    simp only [go_sem, Prod.eta, Option.isSome_none, Option.isSome_some, Int.toNat_zero, Nat.reduceAdd, Nat.reduceMul, Nat.reduceSub, Nat.reduceEqDiff, Nat.reduceLT, Nat.reduceLeDiff, Nat.reduceShiftRight, Nat.reduceMod, Nat.reduceBEq, reduceCtorEq, reduceIte, reduceDIte, Int.reduceNeg]
                    rw [e3]
                    try (first | rfl | exact ⟨rfl, rfl⟩ | (and_intros <;> first | trivial | rfl | omega))
                    done)
                 | (have e4 : m = y.2.2.length := by omega
                    have e5 : refP F c y = ((y.2.2.take m).filter (fun n => oursV F c n)).map (fun _ => y.1.1) := by rw [e4, List.take_length]; rfl
                    refine fin_lp ⟨k + 1, by omega⟩ ?_ (by dsimp only; omega)
                    simp only [go_sem, Prod.eta, Option.isSome_none, Option.isSome_some, Int.toNat_zero, Nat.reduceAdd, Nat.reduceMul, Nat.reduceSub, Nat.reduceEqDiff, Nat.reduceLT, Nat.reduceLeDiff, Nat.reduceShiftRight, Nat.reduceMod, Nat.reduceBEq, reduceCtorEq, reduceIte, reduceDIte, Int.reduceNeg]
                    rw [e1, e5, ← List.append_assoc]
                    try (first | rfl | exact ⟨rfl, rfl⟩ | (and_intros <;> first | trivial | rfl | omega))
                    done)
                 | (simp only [List.length_append]; omega)
                 | fail)
           | (simp only [List.length_append]; omega)
           | (have e4 : p.take k = p := List.take_of_length_le (by omega)
              rw [e4, ref_conc, hF])
           | fail)
     | fail)
end Go.Proofs.YtjhoidgpecgfoaaGreat
