/- ForwardChecks: the contracts of the statement's helpers, and the statement. -/
import Derived.Test.YtjeinbfnbcempaaFwN
import Derived.Test.YtjeinbfnbcempaaFwIToK
set_option linter.unusedSimpArgs false
set_option linter.unusedVariables false
set_option maxRecDepth 100000
set_option maxHeartbeats 4000000
namespace Go.Proofs.Ytjeinbfnbcempaa
open Go.Ev

def longS (s : Svc) : Bool := decide ((s.2.1.size : Int) > 100) || decide ((s.2.2.1.size : Int) > 100) || decide ((s.1.1.size : Int) > 100) || decide ((s.1.2.2.1.size : Int) > 100)
theorem longS_yes {s : Svc} (h : (((s.2.1.size : Int) > 100 ∨ (s.2.2.1.size : Int) > 100) ∨ (s.1.1.size : Int) > 100) ∨ (s.1.2.2.1.size : Int) > 100) : longS s = true := by
  unfold longS
  simp only [Bool.or_eq_true, decide_eq_true_eq]
  exact h
theorem longS_no {s : Svc} (h : ((¬ (s.2.1.size : Int) > 100 ∧ ¬ (s.2.2.1.size : Int) > 100) ∧ ¬ (s.1.1.size : Int) > 100) ∧ ¬ (s.1.2.2.1.size : Int) > 100) : longS s = false := by
  unfold longS
  simp only [Bool.or_eq_false_iff, decide_eq_false_iff_not]
  exact h
def shortV (l : List Svc) : Bool := !(l.any longS) && decide (l.length ≤ 50)
def con9 : Con := { ps := [.d false (.sl (.pair (.pair .str (.pair (.int .i64) (.pair .str (.int .i64)))) (.pair .str (.pair .str (.pair (.int .i64) (.pair (.int .i64) (.int .i64)))))))], rs := [.d false .bool], pre := fun _ => True, out := fun (x : List Svc × Unit) => (shortV x.1, ()), nw := id }
theorem c9 : CtrOk Try.prog 9 con9.ctr :=
  con_sound (G := ⟨[], [], [], []⟩) tab_ok EnvOk.nil rfl Try.func9 rfl con9 17592186044653 (by kernel_rfl) (by decide) (by decide) rfl (by decide) rfl (by
    rintro ⟨(l : List Svc), _⟩ hpre hwf X hT hG hk hK
    (simp -implicitDefEqProofs only [go_sem, Prod.eta, Option.isSome_none, Option.isSome_some, Int.toNat_zero, Nat.reduceAdd, Nat.reduceMul, Nat.reduceSub, Nat.reduceEqDiff, Nat.reduceLT, Nat.reduceLeDiff, Nat.reduceShiftRight, Nat.reduceMod, Nat.reduceBEq, reduceCtorEq, reduceIte, reduceDIte, Int.reduceNeg, Bool.not_eq_true', Bool.not_eq_false', Bool.or_eq_true, Bool.or_eq_false_iff, Bool.and_eq_true, Bool.and_eq_false_iff, decide_eq_true_eq, decide_eq_false_iff_not, Classical.not_not, not_or, maxLen, con9, hT, hG, hk, hK, Try.results9] at hwf ⊢); (try simp (disch := decide +kernel) only [drawn, true_and, and_true])
    refine fun _ => ?_
    refine evk_loop ⟨{ i : Nat // i ≤ l.length ∧ ∀ k, k < i → longS (l.getD k sv0) = false }, 1000, fun q => [(0, .one (.sl (.pair (.pair .str (.pair (.int .i64) (.pair .str (.int .i64)))) (.pair .str (.pair .str (.pair (.int .i64) (.pair (.int .i64) (.int .i64)))))) l false)), (5, .one (.int .i64 l.length)), (6, .one (.int .i64 q.1))], fun q => [], fun q => l.length - q.1⟩ ⟨0, by omega, fun k h1 => by omega⟩ ?_ ?_
    · simp only [go_sem, Prod.eta, Option.isSome_none, Option.isSome_some, Int.toNat_zero, Nat.reduceAdd, Nat.reduceMul, Nat.reduceSub, Nat.reduceEqDiff, Nat.reduceLT, Nat.reduceLeDiff, Nat.reduceShiftRight, Nat.reduceMod, Nat.reduceBEq, reduceCtorEq, reduceIte, reduceDIte, Int.reduceNeg]
      try (first | rfl | exact ⟨rfl, rfl⟩)
    · rintro ⟨i, (hi : i ≤ l.length), (hb : ∀ k, k < i → longS (l.getD k sv0) = false)⟩
      (simp -implicitDefEqProofs only [go_sem, Prod.eta, Option.isSome_none, Option.isSome_some, Int.toNat_zero, Nat.reduceAdd, Nat.reduceMul, Nat.reduceSub, Nat.reduceEqDiff, Nat.reduceLT, Nat.reduceLeDiff, Nat.reduceShiftRight, Nat.reduceMod, Nat.reduceBEq, reduceCtorEq, reduceIte, reduceDIte, Int.reduceNeg, Bool.not_eq_true', Bool.not_eq_false', Bool.or_eq_true, Bool.or_eq_false_iff, Bool.and_eq_true, Bool.and_eq_false_iff, decide_eq_true_eq, decide_eq_false_iff_not, Classical.not_not, not_or, maxLen, con9, hT, hG, hk, hK, Try.results9]); (try simp (disch := decide +kernel) only [drawn, true_and, and_true])
      have hiN : ((i : Int)).toNat = i := by omega
      obtain ⟨s, hs⟩ : ∃ s, l.getD i (((ByteArray.empty, 0, ByteArray.empty, 0), ByteArray.empty, ByteArray.empty, 0, 0, 0) : Svc) = s := ⟨_, rfl⟩
      simp only [hiN, hs]
      have hs' : l.getD i sv0 = s := hs
      (repeat' (with_reducible (first | refine And.intro ?_ ?_ | intro _))) <;> (try (first | with_reducible (first | done | assumption | omega | contradiction) | decide))
      · rename_i h
        unfold shortV
        rw [any_at (i := i) (by omega) (by rw [hs']; exact longS_yes h)]; rfl
      · rename_i h
        refine fin_lp ⟨i + 1, by omega, fun k hk => ?_⟩ ?_ (by dsimp only; omega)
        · by_cases e : k = i
          · subst e; rw [hs']; exact longS_no h
          · exact hb k (by omega)
        · simp only [go_sem, Prod.eta, Option.isSome_none, Option.isSome_some, Int.toNat_zero, Nat.reduceAdd, Nat.reduceMul, Nat.reduceSub, Nat.reduceEqDiff, Nat.reduceLT, Nat.reduceLeDiff, Nat.reduceShiftRight, Nat.reduceMod, Nat.reduceBEq, reduceCtorEq, reduceIte, reduceDIte, Int.reduceNeg]
          try (first | rfl | exact ⟨rfl, rfl⟩ | (and_intros <;> first | rfl | omega))
      · unfold shortV
        rw [any_no (fun j hj => hb j (by omega))]
        simp only [Bool.not_false, Bool.true_and, decide_eq_decide]
        omega)
/-- What is spoilt. -/
def spoV (s : Src) (l : List Svc) : List Svc × Src :=
  if l.length = 0 then ([sv0], s) else
  let i := (goMod s.raw l.length).toNat
  let x := l.getD i sv0
  let c := goMod s.step.raw 5
  let s2 := s.step.step
  if c = 0 then (l.set i (x.1, x.2.1, x.2.1, x.2.2.2), s2)
  else if c = 1 then (l.set i (x.1, x.2.1, x.2.2.1, x.2.2.2.1, x.2.2.2.1, x.2.2.2.2.2), s2)
  else if c = 2 then (l.set i (x.1, x.2.1, x.2.2.1, x.2.2.2.1, ([1048576, 1048577] : List Int).getD (goMod s2.raw 2).toNat 0, x.2.2.2.2.2), s2.step)
  else if c = 3 then (l.set i (x.1, x.2.1, x.2.2.1, x.2.2.2.1, x.2.2.2.2.1, ([-1, 999, 1000] : List Int).getD (goMod s2.raw 3).toNat 0), s2.step)
  else (l.set i (x.1, ⟨#[99, 112, 104]⟩, x.2.2), s2)
def con12 : Con := { ps := [.p 70 (.pair (.sl (.int .i64)) (.int .i64)), .d false (.sl (.pair (.pair .str (.pair (.int .i64) (.pair .str (.int .i64)))) (.pair .str (.pair .str (.pair (.int .i64) (.pair (.int .i64) (.int .i64)))))))], rs := [.d false (.sl (.pair (.pair .str (.pair (.int .i64) (.pair .str (.int .i64)))) (.pair .str (.pair .str (.pair (.int .i64) (.pair (.int .i64) (.int .i64)))))))], pre := fun (x : Src × List Svc × Unit) => 0 ≤ x.1.2 ∧ x.2.1.length ≤ 100, out := fun (x : Src × List Svc × Unit) => ((spoV x.1 x.2.1).1, ()), nw := fun (x : Src × List Svc × Unit) => ((spoV x.1 x.2.1).2, x.2) }
theorem c12 : CtrOk Try.prog 12 con12.ctr :=
  con_sound (G := ⟨[(16, con16.ctr), (36, con36.ctr)], [], [], []⟩) tab_ok (EnvOk.cons c16 has16 (EnvOk.cons c36 has36 EnvOk.nil)) rfl Try.func12 rfl con12 288793601121456243 (by kernel_rfl) (by decide) (by decide) rfl (by decide) rfl (by
    rintro ⟨⟨(s : List Int), (a : Int)⟩, (l : List Svc), _⟩ hpre hwf X hT hG hk hK
    obtain ⟨h1, hl⟩ : 0 ≤ a ∧ l.length ≤ 100 := hpre
    (simp -implicitDefEqProofs only [go_sem, Prod.eta, Option.isSome_none, Option.isSome_some, Int.toNat_zero, Nat.reduceAdd, Nat.reduceMul, Nat.reduceSub, Nat.reduceEqDiff, Nat.reduceLT, Nat.reduceLeDiff, Nat.reduceShiftRight, Nat.reduceMod, Nat.reduceBEq, reduceCtorEq, reduceIte, reduceDIte, Int.reduceNeg, Bool.not_eq_true', Bool.not_eq_false', Bool.or_eq_true, Bool.or_eq_false_iff, Bool.and_eq_true, Bool.and_eq_false_iff, decide_eq_true_eq, decide_eq_false_iff_not, Classical.not_not, not_or, maxLen, con12, con16, con36, hT, hG, hk, hK, Try.results12] at hwf ⊢); (try simp (disch := decide +kernel) only [drawn, true_and, and_true])
    have p1 := Src.step_pos (s, a) h1
    have p2 := Src.step_pos _ p1
    have p3 := Src.step_pos _ p2
    have b0 := fun h => goMod_bd (Src.raw (s, a)) l.length h
    have b1 := goMod_bd (Src.step (s, a)).raw 5 (by omega)
    have b2 := goMod_bd (Src.step (s, a)).step.raw 2 (by omega)
    have b3 := goMod_bd (Src.step (s, a)).step.raw 3 (by omega)
    have hV : spoV (s, a) l = spoV (s, a) l := rfl
    conv at hV => rhs; unfold spoV
    dsimp only at hV
    have r2 : ∀ k : Int, 0 ≤ k ∧ k < 2 → 0 ≤ ([1048576, 1048577] : List Int).getD k.toNat 0 ∧ ([1048576, 1048577] : List Int).getD k.toNat 0 ≤ 1048577 := fun k hk => by
      rcases (by omega : k = 0 ∨ k = 1) with rfl | rfl <;> decide
    have r3 : ∀ k : Int, 0 ≤ k ∧ k < 3 → -1 ≤ ([-1, 999, 1000] : List Int).getD k.toNat 0 ∧ ([-1, 999, 1000] : List Int).getD k.toNat 0 ≤ 1000 := fun k hk => by
      rcases (by omega : k = 0 ∨ k = 1 ∨ k = 2) with rfl | rfl | rfl <;> decide
    have q2 := r2 _ b2
    have q3 := r3 _ b3
    clear r2 r3
    simp only [List.length_cons, List.length_nil, Nat.zero_add, Nat.reduceAdd, show ((2 : Nat) : Int) = 2 from rfl, show ((3 : Nat) : Int) = 3 from rfl]
    generalize hx : (([1048576, 1048577] : List Int).getD (goMod (Src.step (s, a)).step.raw 2).toNat 0) = y2 at *
    generalize hx : (([-1, 999, 1000] : List Int).getD (goMod (Src.step (s, a)).step.raw 3).toNat 0) = y3 at *
    generalize goMod (Src.step (s, a)).raw 5 = c at *
    generalize (Src.step (s, a)).step.step = s3 at *
    generalize (Src.step (s, a)).step = s2 at *
    generalize goMod (Src.raw (s, a)) l.length = i at *
    obtain ⟨x, hx⟩ : ∃ x, l.getD i.toNat (((ByteArray.empty, 0, ByteArray.empty, 0), ByteArray.empty, ByteArray.empty, 0, 0, 0) : Svc) = x := ⟨_, rfl⟩
    have hx' : l.getD i.toNat sv0 = x := hx
    simp only [hx]
    simp only [hx'] at hV
    clear hx hx'
    by_cases hl0 : l.length = 0
    · rw [if_pos hl0] at hV
      have : l = [] := List.eq_nil_of_length_eq_zero hl0
      subst this
      simp only [hV]
      (repeat' (with_reducible (first | refine And.intro ?_ ?_ | intro _))) <;> (try (first | with_reducible (first | done | assumption | omega | contradiction) | decide))
      all_goals rfl
    · rw [if_neg hl0] at hV
      have hl1 : ¬ (l.length : Int) = 0 := by omega
      rcases (by omega : c = 0 ∨ c = 1 ∨ c = 2 ∨ c = 3 ∨ c = 4) with rfl | rfl | rfl | rfl | rfl <;>
        (simp only [hV, hl1, Int.reduceEq, if_true, if_false, not_true, not_false_eq_true, false_implies, true_implies, and_true, true_and]
         (repeat' (with_reducible (first | refine And.intro ?_ ?_ | intro _))) <;> (try (first | with_reducible (first | done | assumption | omega | contradiction) | decide))
         all_goals rfl))
def iabs (lb : List Lbl) (B : Int) : Prop := ∀ x ∈ lb, -B ≤ x.2 ∧ x.2 ≤ B
def bentV (s : Src) (x : Itn) (n : Int) : Itn × Src :=
  let c := goMod s.raw 6
  let s1 := s.step
  let xs := x.1
  let lb := x.2
  let p := (goMod s1.raw xs.length).toNat
  let q := (goMod s1.raw lb.length).toNat
  let y := lb.getD q (ByteArray.empty, 0)
  if c = 0 then ((xs ++ [goMod s1.raw (n + 2) - 1], lb), s1.step)
  else if c = 1 then (if xs.length > 0 then ((xs.set p (goMod s1.step.raw (n + 1)), lb), s1.step.step) else (x, s1))
  else if c = 2 then (if lb.length > 0 then ((xs, lb.set q (y.1, y.2 + (goMod s1.step.raw 5 - 2))), s1.step.step) else (x, s1))
  else if c = 3 then (if lb.length > 0 then ((xs, lb.take q ++ lb.drop (q + 1)), s1.step) else (x, s1))
  else if c = 4 then (if lb.length > 1 then ((xs, (lb.set 0 (lb.getD 1 (ByteArray.empty, 0))).set 1 (lb.getD 0 (ByteArray.empty, 0))), s1) else (x, s1))
  else ((xs, lb ++ [(⟨#[90, 82, 72]⟩, goMod s1.raw 60)]), s1.step)
def con29 : Con := { ps := [.p 70 (.pair (.sl (.int .i64)) (.int .i64)), .d true (.pair (.sl (.int .i64)) (.sl (.pair .str (.int .i64)))), .d false (.int .i64)], rs := [.d true (.pair (.sl (.int .i64)) (.sl (.pair .str (.int .i64))))], pre := fun (x : Src × Itn × Int × Unit) => 0 ≤ x.1.2 ∧ x.2.1.1.length ≤ 100000000 ∧ x.2.1.2.length ≤ 1000000 ∧ iabs x.2.1.2 10000000 ∧ 0 ≤ x.2.2.1 ∧ x.2.2.1 ≤ 1000, out := fun (x : Src × Itn × Int × Unit) => ((bentV x.1 x.2.1 x.2.2.1).1, ()), nw := fun (x : Src × Itn × Int × Unit) => ((bentV x.1 x.2.1 x.2.2.1).2, x.2) }
theorem c29 : CtrOk Try.prog 29 con29.ctr :=
  con_sound (G := ⟨[(16, con16.ctr)], [], [(94, 1), (99, 1)], []⟩) tab_ok (EnvOk.cons c16 has16 EnvOk.nil) rfl Try.func29 rfl con29 167329919124687839919024747577815 (by kernel_rfl) (by decide) (by decide) rfl (by decide) rfl (by
    rintro ⟨⟨(s : List Int), (a : Int)⟩, ⟨(xs : List Int), (lb : List Lbl)⟩, (n : Int), _⟩ hpre hwf X hT hG hk hK
    obtain ⟨h1, hxl, hll, hab, hn0, hn1⟩ : 0 ≤ a ∧ xs.length ≤ 100000000 ∧ lb.length ≤ 1000000 ∧ iabs lb 10000000 ∧ 0 ≤ n ∧ n ≤ 1000 := hpre
    have p1 := Src.step_pos (s, a) h1
    have p2 := Src.step_pos _ p1
    have p3 := Src.step_pos _ p2
    have b0 := goMod_bd (Src.raw (s, a)) 6 (by omega)
    have b1 := goMod_bd (Src.step (s, a)).raw (n + 2) (by omega)
    have b2 := goMod_bd (Src.step (s, a)).step.raw (n + 1) (by omega)
    have b3 := goMod_bd (Src.step (s, a)).step.raw 5 (by omega)
    have b4 := goMod_bd (Src.step (s, a)).raw 60 (by omega)
    have b5 : 0 < xs.length → 0 ≤ goMod (Src.step (s, a)).raw xs.length ∧ goMod (Src.step (s, a)).raw xs.length < xs.length := fun h => goMod_bd _ _ (by omega)
    have b6 : 0 < lb.length → 0 ≤ goMod (Src.step (s, a)).raw lb.length ∧ goMod (Src.step (s, a)).raw lb.length < lb.length := fun h => goMod_bd _ _ (by omega)
    have b7 : 0 < lb.length → -10000000 ≤ (lb.getD (goMod (Src.step (s, a)).raw lb.length).toNat (ByteArray.empty, 0)).2 ∧ (lb.getD (goMod (Src.step (s, a)).raw lb.length).toNat (ByteArray.empty, 0)).2 ≤ 10000000 := fun h => by
      have hq := b6 h
      rw [List.getD_eq_getElem?_getD, List.getElem?_eq_getElem (by omega)]
      exact hab _ (List.getElem_mem _)
    have hV : bentV (s, a) (xs, lb) n = bentV (s, a) (xs, lb) n := rfl
    conv at hV => rhs; unfold bentV
    dsimp only at hV
    by_cases hl0 : lb.length = 0
    · have : lb = [] := List.eq_nil_of_length_eq_zero hl0
      subst this
      have hno : ¬ ((0 : Nat) : Int) > 0 := by omega
      have hno1 : ¬ ((0 : Nat) : Int) > 1 := by omega
      (simp -implicitDefEqProofs only [go_sem, Prod.eta, Option.isSome_none, Option.isSome_some, Int.toNat_zero, Nat.reduceAdd, Nat.reduceMul, Nat.reduceSub, Nat.reduceEqDiff, Nat.reduceLT, Nat.reduceLeDiff, Nat.reduceShiftRight, Nat.reduceMod, Nat.reduceBEq, reduceCtorEq, reduceIte, reduceDIte, Int.reduceNeg, Bool.not_eq_true', Bool.not_eq_false', Bool.or_eq_true, Bool.or_eq_false_iff, Bool.and_eq_true, Bool.and_eq_false_iff, decide_eq_true_eq, decide_eq_false_iff_not, Classical.not_not, not_or, maxLen, con29, con16, hT, hG, hk, hK, Try.results29, hno, hno1] at hwf ⊢); (try simp (disch := decide +kernel) only [drawn, true_and, and_true])
      simp only [hV]
      simp only [List.length_nil, Nat.lt_irrefl, gt_iff_lt, Nat.not_lt_zero, if_false] at hV ⊢
      clear hV hab b6 b7
      generalize goMod (Src.raw (s, a)) 6 = c at *
      rcases (by omega : c = 0 ∨ c = 1 ∨ c = 2 ∨ c = 3 ∨ c = 4 ∨ c = 5) with rfl | rfl | rfl | rfl | rfl | rfl <;>
        (simp only [Int.reduceEq, if_true, if_false, not_true, not_false_eq_true, false_implies, true_implies, and_true, true_and]
         (try split)
         all_goals ((repeat' (with_reducible (first | refine And.intro ?_ ?_ | intro _))) <;> (try (first | with_reducible (first | done | assumption | omega | contradiction) | decide)))
         all_goals first | rfl | omega)
    · have w1 : (goMod (Src.step (s, a)).raw lb.length + 1).toNat + ((lb.length : Int) - (goMod (Src.step (s, a)).raw lb.length + 1)).toNat ≤ lb.length := by have := b6 (by omega); omega
      (simp -implicitDefEqProofs only [go_sem, Prod.eta, Option.isSome_none, Option.isSome_some, Int.toNat_zero, Nat.reduceAdd, Nat.reduceMul, Nat.reduceSub, Nat.reduceEqDiff, Nat.reduceLT, Nat.reduceLeDiff, Nat.reduceShiftRight, Nat.reduceMod, Nat.reduceBEq, reduceCtorEq, reduceIte, reduceDIte, Int.reduceNeg, Bool.not_eq_true', Bool.not_eq_false', Bool.or_eq_true, Bool.or_eq_false_iff, Bool.and_eq_true, Bool.and_eq_false_iff, decide_eq_true_eq, decide_eq_false_iff_not, Classical.not_not, not_or, maxLen, con29, con16, hT, hG, hk, hK, Try.results29, w1] at hwf ⊢); (try simp (disch := decide +kernel) only [drawn, true_and, and_true])
      simp only [hV]
      have hl1 : lb.length > 0 := by omega
      have hl2 : (lb.length : Int) > 0 := by omega
      have hl3 : (lb.length > 1) = ((lb.length : Int) > 1) := by rw [eq_iff_iff]; omega
      have hx3 : (xs.length > 0) = ((xs.length : Int) > 0) := by rw [eq_iff_iff]; omega
      simp only [hl1, hl2, hl3, hx3, if_true, true_implies, not_true, false_implies, and_true]
      clear hV
      generalize goMod (Src.raw (s, a)) 6 = c at *
      have b6 := b6 hl1
      have b7 := b7 hl1
      generalize goMod (Src.step (s, a)).raw lb.length = q at *
      generalize lb.getD q.toNat (ByteArray.empty, 0) = y at *
      clear hl3 hx3
      obtain ⟨k, rfl⟩ : ∃ k : Nat, q = (k : Int) := ⟨q.toNat, by omega⟩
      have e0 : ((k : Int) + 1).toNat = k + 1 := by omega
      have e00 : ((k : Int) - 0).toNat = k := by omega
      have e01 : ((k : Int)).toNat = k := by omega
      have e1 : ((lb.length : Int) - ((k : Int) + 1)).toNat = lb.length - (k + 1) := by omega
      have e2 : lb.take (k + 1 + (lb.length - (k + 1))) = lb := List.take_of_length_le (by omega)
      have e5 : (lb.drop (k + 1)).length = lb.length - (k + 1) := List.length_drop ..
      have e3 : (lb.take k ++ (lb.drop (k + 1) ++ lb.drop (k + (lb.length - (k + 1))))).take (k + (lb.length - (k + 1))) = lb.take k ++ lb.drop (k + 1) := by
        rw [← List.append_assoc, List.take_append_of_le_length (by simp; omega), List.take_of_length_le (by simp; omega)]
      have e4 : (k + (lb.length - (k + 1)) ≤ (lb.take k ++ (lb.drop (k + 1) ++ lb.drop (k + (lb.length - (k + 1))))).length) = True := by
        rw [eq_iff_iff, iff_true]; simp; omega
      simp only [e0, e00, e01, e1, e2, e5, Nat.zero_add, e4, if_true, e3]
      clear e2 e3 e4 w1
      rcases (by omega : c = 0 ∨ c = 1 ∨ c = 2 ∨ c = 3 ∨ c = 4 ∨ c = 5) with rfl | rfl | rfl | rfl | rfl | rfl <;>
        (simp only [Int.reduceEq, if_true, if_false, not_true, not_false_eq_true, false_implies, true_implies, and_true, true_and]
         (try split)
         all_goals ((repeat' (with_reducible (first | refine And.intro ?_ ?_ | intro _))) <;> (try (first | with_reducible (first | done | assumption | omega | contradiction) | decide)))
         all_goals first | rfl | omega | (rw [List.length_set]; omega)))
end Go.Proofs.Ytjeinbfnbcempaa

/- ForwardChecks. -/
set_option linter.unusedSimpArgs false
set_option linter.unusedVariables false
set_option maxRecDepth 100000
set_option maxHeartbeats 4000000
namespace Go.Proofs.Ytjeinbfnbcempaa
open Go.Ev

theorem bentV_ok {s : Src} {x : Itn} {n : Int} (hs : 0 ≤ s.2) (hn : 0 ≤ n) {A L : Nat} {B : Int} (hB : 0 ≤ B) (h1 : x.1.length ≤ A) (h2 : x.2.length ≤ L) (h3 : iabs x.2 B) :
    0 ≤ (bentV s x n).2.2 ∧ (bentV s x n).1.1.length ≤ A + 1 ∧ (bentV s x n).1.2.length ≤ L + 1 ∧ iabs (bentV s x n).1.2 (B + 100) := by
  have p1 := Src.step_pos s hs
  have p2 := Src.step_pos _ p1
  have p3 := Src.step_pos _ p2
  have b3 := goMod_bd s.step.step.raw 5 (by omega)
  have b4 := goMod_bd s.step.raw 60 (by omega)
  have hw : iabs x.2 (B + 100) := fun y hy => by have := h3 y hy; omega
  have hset : ∀ (l : List Lbl) (i : Nat) (y : Lbl), iabs l (B + 100) → (-(B + 100) ≤ y.2 ∧ y.2 ≤ B + 100) → iabs (l.set i y) (B + 100) := fun l i y hl hy z hz => by
    rcases List.mem_or_eq_of_mem_set hz with h | h
    · exact hl z h
    · rw [h]; exact hy
  have hget : ∀ (i : Nat), i < x.2.length → -B ≤ (x.2.getD i (ByteArray.empty, 0)).2 ∧ (x.2.getD i (ByteArray.empty, 0)).2 ≤ B := fun i hi => by
    rw [List.getD_eq_getElem?_getD, List.getElem?_eq_getElem hi]
    exact h3 _ (List.getElem_mem _)
  unfold bentV
  dsimp only
  split
  · exact ⟨p2, by simpa using h1, by dsimp only; omega, hw⟩
  split
  · split
    · exact ⟨p3, by simp; omega, by dsimp only; omega, hw⟩
    · exact ⟨p1, by dsimp only; omega, by dsimp only; omega, hw⟩
  split
  · split
    · rename_i hl
      have hq := goMod_bd s.step.raw x.2.length (by omega)
      have := hget (goMod s.step.raw x.2.length).toNat (by omega)
      exact ⟨p3, by dsimp only; omega, by simp; omega, hset _ _ _ hw (by dsimp only; omega)⟩
    · exact ⟨p1, by dsimp only; omega, by dsimp only; omega, hw⟩
  split
  · split
    · refine ⟨p2, by dsimp only; omega, by simp; omega, fun y hy => ?_⟩
      rcases List.mem_append.1 hy with h | h
      · exact hw y (List.mem_of_mem_take h)
      · exact hw y (List.mem_of_mem_drop h)
    · exact ⟨p1, by dsimp only; omega, by dsimp only; omega, hw⟩
  split
  · split
    · rename_i hl
      have g0 := hget 0 (by omega)
      have g1 := hget 1 (by omega)
      exact ⟨p1, by dsimp only; omega, by simp; omega, hset _ _ _ (hset _ _ _ hw (by omega)) (by omega)⟩
    · exact ⟨p1, by dsimp only; omega, by dsimp only; omega, hw⟩
  · refine ⟨p2, by dsimp only; omega, by simp; omega, fun y hy => ?_⟩
    rcases List.mem_append.1 hy with h | h
    · exact hw y h
    · rw [List.mem_singleton.1 h]; dsimp only; omega
/-- How long what a route returns is. -/
theorem routeV_bd {l : List Svc} {f t : ByteArray} {r n : Int} : (routeV l f t r n).1.1.length ≤ 1048577 ∧ (routeV l f t r n).1.2.length ≤ 41 ∧ iabs (routeV l f t r n).1.2 1048576 := by
  unfold routeV
  split
  · exact ⟨by simp, by simp, fun y hy => by cases hy⟩
  · rename_i h
    obtain ⟨hl, hA, hpf, hpt⟩ := argsV_ok (by simpa using h)
    have hK := labels_ok hA (f := f)
    have hKl := labels_len hA (f := f)
    split
    · exact ⟨by simp, by simp, fun y hy => by cases hy⟩
    · rename_i hs
      have hs : (mgetS (labelsV l f r n) t).isSome = true := by
        cases hh : (mgetS (labelsV l f r n) t).isSome with
        | true => rfl
        | false => exact absurd hh hs
      have hlow : ∀ p, (mgetS (labelsV l f r n) p).isSome = true → r ≤ tmOf (labelsV l f r n) p ∧ tmOf (labelsV l f r n) p ≤ 1048576 := fun p hp => by
        obtain ⟨v, hv⟩ := Option.isSome_iff_exists.1 hp
        have e2 : tmOf (labelsV l f r n) p = v.1 := by unfold tmOf; rw [hv]; rfl
        have := hK.base.low p v hv
        rw [e2]; exact this
      refine ⟨?_, ?_, fun y hy => ?_⟩
      · have := wayV_len l (labelsV l f r n) ((tmOf (labelsV l f r n) t).toNat + 1) t
        have := (hlow t hs).2
        dsimp only
        rw [List.length_reverse]; omega
      · unfold lblsV
        rw [List.length_map, sortK_len, List.length_map]
        omega
      · unfold lblsV at hy
        obtain ⟨p, hp, rfl⟩ := List.mem_map.1 hy
        rw [sortK_mem, mget_mem] at hp
        have := hlow p hp
        have := hA.r0
        dsimp only; omega
theorem spoV_pos {s : Src} {l : List Svc} (h : 0 ≤ s.2) : 0 ≤ (spoV s l).2.2 := by
  have p1 := Src.step_pos s h
  have p2 := Src.step_pos _ p1
  have p3 := Src.step_pos _ p2
  unfold spoV
  dsimp only
  split
  · exact h
  all_goals (repeat' split) <;> assumption
def con6 : Con := { ps := [.d false (.sl (.pair (.pair .str (.pair (.int .i64) (.pair .str (.int .i64)))) (.pair .str (.pair .str (.pair (.int .i64) (.pair (.int .i64) (.int .i64))))))), .d false (.sl (.int .i64)), .d true (.pair (.sl (.int .i64)) (.sl (.pair .str (.int .i64)))), .d false .str, .d false .str, .d false (.int .i64), .d false (.int .i64)], rs := [.d false .bool], pre := fun _ => True, out := fun _ => (true, ()), nw := id }
theorem c6 : CtrOk Try.prog 6 con6.ctr :=
  con_sound (G := ⟨[(9, con9.ctr), (10, con10.ctr), (11, con11.ctr), (12, con12.ctr), (15, con15.ctr), (16, con16.ctr), (17, con17.ctr), (23, con23.ctr), (24, con24.ctr), (29, con29.ctr), (30, con30.ctr)], [], [], []⟩) tab_ok (EnvOk.cons c9 has9 (EnvOk.cons c10 has10 (EnvOk.cons c11 has11 (EnvOk.cons c12 has12 (EnvOk.cons c15 has15 (EnvOk.cons c16 has16 (EnvOk.cons c17 has17 (EnvOk.cons c23 has23 (EnvOk.cons c24 has24 (EnvOk.cons c29 has29 (EnvOk.cons c30 has30 EnvOk.nil))))))))))) rfl Try.func6 rfl con6 45671926166590754223383157869267015165297017471 (by kernel_rfl) (by decide) (by decide) rfl (by decide) rfl (by
    rintro ⟨(raw : List Svc), (nl : List Int), ⟨(xs : List Int), (lb : List Lbl)⟩, (from_ : ByteArray), (to_ : ByteArray), (ready : Int), (least : Int), _⟩ hpre hwf X hT hG hk hK
    (simp -implicitDefEqProofs only [go_sem, Prod.eta, Option.isSome_none, Option.isSome_some, Int.toNat_zero, Nat.reduceAdd, Nat.reduceMul, Nat.reduceSub, Nat.reduceEqDiff, Nat.reduceLT, Nat.reduceLeDiff, Nat.reduceShiftRight, Nat.reduceMod, Nat.reduceBEq, reduceCtorEq, reduceIte, reduceDIte, Int.reduceNeg, Bool.not_eq_true', Bool.not_eq_false', Bool.or_eq_true, Bool.or_eq_false_iff, Bool.and_eq_true, Bool.and_eq_false_iff, decide_eq_true_eq, decide_eq_false_iff_not, Classical.not_not, not_or, maxLen, con6, con9, con10, con11, con12, con15, con16, con17, con23, con24, con29, con30, hT, hG, hk, hK, Try.results6] at hwf ⊢); (try simp (disch := decide +kernel) only [drawn, true_and, and_true])
    clear hwf
    obtain ⟨hx, hxl, ho⟩ := servV_ok (s := (nl.take 2000, 0)) (n := 20) (by omega) (Int.le_refl _)
    generalize servV (nl.take 2000, 0) 20 = V at *
    obtain ⟨x, s⟩ := V
    have ho : 0 ≤ s.2 := ho
    have hx : ∀ s ∈ x, svOk s = true := hx
    have hxl : (x.length : Int) ≤ 20 := hxl
    have p1 := Src.step_pos s ho
    have p2 := Src.step_pos _ p1
    have p3 := Src.step_pos _ p2
    have p4 := Src.step_pos _ p3
    have b1 := goMod_bd s.step.step.raw 30 (by omega)
    have b2 := goMod_bd s.step.step.step.raw 12 (by omega)
    have ha := portV_ok s
    have hb := portV_ok s.step
    dsimp only
    generalize portV s = pa at *
    generalize portV s.step = pb at *
    generalize goMod s.step.step.raw 30 = t at *
    generalize goMod s.step.step.step.raw 12 = n at *
    have hR := routeV_bd (l := x) (f := pa) (t := pb) (r := t) (n := n)
    generalize s.step.step.step.step = s4 at *
    generalize s.step.step.step = s3 at *
    generalize s.step.step = s2 at *
    generalize s.step = s1 at *
    generalize routeV x pa pb t n = R at *
    obtain ⟨m, e⟩ := R
    obtain ⟨r1, r2, r3⟩ : m.1.length ≤ 1048577 ∧ m.2.length ≤ 41 ∧ iabs m.2 1048576 := hR
    have p5 := spoV_pos (l := x) p4
    generalize spoV s4 x = S at *
    obtain ⟨odd, s5⟩ := S
    have p5 : 0 ≤ s5.2 := p5
    have q3 : iabs m.2 10000000 := fun y hy => by have := r3 y hy; omega
    have hn0 : (0 : Int) ≤ x.length := by omega
    have w1 := bentV_ok p5 hn0 (by omega) r1 r2 r3
    dsimp only
    generalize bentV s5 m x.length = W at *
    obtain ⟨m1, s6⟩ := W
    obtain ⟨p6, _, _, _⟩ : 0 ≤ s6.2 ∧ _ := w1
    have w1 := bentV_ok p6 hn0 (by omega) r1 r2 r3
    dsimp only
    generalize bentV s6 m x.length = W at *
    obtain ⟨m2, s7⟩ := W
    obtain ⟨p7, _, _, _⟩ : 0 ≤ s7.2 ∧ _ := w1
    have w1 := bentV_ok p7 hn0 (by omega) r1 r2 r3
    dsimp only
    generalize bentV s7 m x.length = W at *
    obtain ⟨m3, s8⟩ := W
    obtain ⟨p8, h1, h2, h3⟩ : 0 ≤ s8.2 ∧ m3.1.length ≤ 1048577 + 1 ∧ m3.2.length ≤ 41 + 1 ∧ iabs m3.2 (1048576 + 100) := w1
    have h4 : iabs m3.2 10000000 := fun y hy => by have := h3 y hy; omega
    dsimp only
    generalize bentV s8 m3 x.length = W at *
    obtain ⟨m4, s9⟩ := W
    dsimp only
    (repeat' (with_reducible (first | refine And.intro ?_ ?_ | intro _))) <;> (try (first | with_reducible (first | done | assumption | omega | contradiction) | decide))
    obtain ⟨Y, hY⟩ : ∃ Y : List Itn, Y = [(xs, lb), m, m1, m2, m4, ([], [(pa, t)])] := ⟨_, rfl⟩
    have hYl : Y.length = 6 := by rw [hY]; rfl
    refine evk_loop ⟨{ j : Nat // j ≤ 6 }, 1000, fun q => [(0, .one (.sl (.pair (.pair .str (.pair (.int .i64) (.pair .str (.int .i64)))) (.pair .str (.pair .str (.pair (.int .i64) (.pair (.int .i64) (.int .i64)))))) raw false)), (3, .one (.str from_)), (4, .one (.str to_)), (5, .one (.int .i64 ready)), (6, .one (.int .i64 least)), (16, .one (.sl (.pair (.pair .str (.pair (.int .i64) (.pair .str (.int .i64)))) (.pair .str (.pair .str (.pair (.int .i64) (.pair (.int .i64) (.int .i64)))))) x false)), (17, .one (.str pa)), (18, .one (.str pb)), (19, .one (.int .i64 t)), (20, .one (.int .i64 n)), (23, .one (.sl (.pair (.pair .str (.pair (.int .i64) (.pair .str (.int .i64)))) (.pair .str (.pair .str (.pair (.int .i64) (.pair (.int .i64) (.int .i64)))))) odd false)), (101, .one (.row 64)), (102, .one (.int .i64 6)), (103, .one (.int .i64 q.1))], fun q => [(64, .row 39 (.pair (.sl (.int .i64)) (.sl (.pair .str (.int .i64)))) Y)], fun q => 6 - q.1⟩ ⟨0, Nat.zero_le _⟩ ?_ ?_
    · simp only [go_sem, Prod.eta, Option.isSome_none, Option.isSome_some, Int.toNat_zero, Nat.reduceAdd, Nat.reduceMul, Nat.reduceSub, Nat.reduceEqDiff, Nat.reduceLT, Nat.reduceLeDiff, Nat.reduceShiftRight, Nat.reduceMod, Nat.reduceBEq, reduceCtorEq, reduceIte, reduceDIte, Int.reduceNeg]
      rw [hY]
      try (first | rfl | exact ⟨rfl, rfl⟩ | (and_intros <;> rfl))
    · rintro ⟨j, (hj : j ≤ 6)⟩
      (simp -implicitDefEqProofs only [go_sem, Prod.eta, Option.isSome_none, Option.isSome_some, Int.toNat_zero, Nat.reduceAdd, Nat.reduceMul, Nat.reduceSub, Nat.reduceEqDiff, Nat.reduceLT, Nat.reduceLeDiff, Nat.reduceShiftRight, Nat.reduceMod, Nat.reduceBEq, reduceCtorEq, reduceIte, reduceDIte, Int.reduceNeg, Bool.not_eq_true', Bool.not_eq_false', Bool.or_eq_true, Bool.or_eq_false_iff, Bool.and_eq_true, Bool.and_eq_false_iff, decide_eq_true_eq, decide_eq_false_iff_not, Classical.not_not, not_or, maxLen, con6, con9, con10, con11, con12, con15, con16, con17, con23, con24, con29, con30, hT, hG, hk, hK, Try.results6]); (try simp (disch := decide +kernel) only [drawn, true_and, and_true])
      clear hY
      (repeat' (with_reducible (first | refine And.intro ?_ ?_ | intro _))) <;> (try (first | with_reducible (first | done | assumption | omega | contradiction) | decide))
      all_goals try rfl
      refine fin_lp ⟨j + 1, by omega⟩ ?_ (by dsimp only; omega)
      simp only [go_sem, Prod.eta, Option.isSome_none, Option.isSome_some, Int.toNat_zero, Nat.reduceAdd, Nat.reduceMul, Nat.reduceSub, Nat.reduceEqDiff, Nat.reduceLT, Nat.reduceLeDiff, Nat.reduceShiftRight, Nat.reduceMod, Nat.reduceBEq, reduceCtorEq, reduceIte, reduceDIte, Int.reduceNeg]
      try (first | rfl | exact ⟨rfl, rfl⟩ | (and_intros <;> first | rfl | omega)))
end Go.Proofs.Ytjeinbfnbcempaa

/- ForwardMonotone. -/
set_option linter.unusedSimpArgs false
set_option linter.unusedVariables false
set_option maxRecDepth 100000
set_option maxHeartbeats 4000000
namespace Go.Proofs.Ytjeinbfnbcempaa
open Go.Ev

def labelV (l : List Svc) (f t : ByteArray) (r n : Int) : Int := if (routeV l f t r n).2 ≠ 0 ∨ (labV (routeV l f t r n).1.2 t).isSome = false then 1048577 else (labV (routeV l f t r n).1.2 t).getD 0
def con28 : Con := { ps := [.d false (.sl (.pair (.pair .str (.pair (.int .i64) (.pair .str (.int .i64)))) (.pair .str (.pair .str (.pair (.int .i64) (.pair (.int .i64) (.int .i64))))))), .d false .str, .d false .str, .d false (.int .i64), .d false (.int .i64)], rs := [.d false (.int .i64)], pre := fun (x : List Svc × ByteArray × ByteArray × Int × Int × Unit) => True, out := fun (x : List Svc × ByteArray × ByteArray × Int × Int × Unit) => (labelV x.1 x.2.1 x.2.2.1 x.2.2.2.1 x.2.2.2.2.1, ()), nw := id }
theorem c28 : CtrOk Try.prog 28 con28.ctr :=
  con_sound (G := ⟨[(17, con17.ctr), (22, con22.ctr)], [], [], []⟩) tab_ok (EnvOk.cons c17 has17 (EnvOk.cons c22 has22 EnvOk.nil)) rfl Try.func28 rfl con28 68719508511 (by kernel_rfl) (by decide) (by decide) rfl (by decide) rfl (by
    rintro ⟨(l : List Svc), (f : ByteArray), (t : ByteArray), (r : Int), (n : Int), _⟩ hpre hwf X hT hG hk hK
    (simp -implicitDefEqProofs only [go_sem, Prod.eta, Option.isSome_none, Option.isSome_some, Int.toNat_zero, Nat.reduceAdd, Nat.reduceMul, Nat.reduceSub, Nat.reduceEqDiff, Nat.reduceLT, Nat.reduceLeDiff, Nat.reduceShiftRight, Nat.reduceMod, Nat.reduceBEq, reduceCtorEq, reduceIte, reduceDIte, Int.reduceNeg, Bool.not_eq_true', Bool.not_eq_false', Bool.or_eq_true, Bool.or_eq_false_iff, Bool.and_eq_true, Bool.and_eq_false_iff, decide_eq_true_eq, decide_eq_false_iff_not, Classical.not_not, not_or, maxLen, con28, con17, con22, hT, hG, hk, hK, Try.results28] at hwf ⊢); (try simp (disch := decide +kernel) only [drawn, true_and, and_true])
    unfold labelV
    refine fun _ _ => ⟨fun h => by rw [if_pos h], fun h => by rw [if_neg (fun k => by rcases k with k | k; exact k h.1; rw [h.2] at k; cases k)]⟩)
theorem labV_map (g : ByteArray → Int) (b : ByteArray) : ∀ ks : List ByteArray, b ∈ ks → labV (ks.map fun p => (p, g p)) b = some (g b)
  | [], h => by cases h
  | k :: ks, hm => by
    have ih := labV_map g b ks
    unfold labV at ih ⊢
    rw [List.map_cons, List.find?_cons]
    by_cases h : k = b
    · subst h; simp
    · simp only [h, decide_false]
      rcases List.mem_cons.1 hm with e | e
      · exact absurd e.symm h
      · exact ih e
theorem labelV_eq {l : List Svc} {f b : ByteArray} {r n : Int} (hA : ArgOk l r n) (hl : l.length ≤ 40) (hf : portOk f = true) (hb : portOk b = true) : labelV l f b r n = match mgetS (labelsV l f r n) b with
    | some v => v.1
    | none => 1048577 := by
  have hz := argsV_zero hA hl hf hb
  have hm : b ∈ sortK ((labelsV l f r n).map Prod.fst) ↔ (mgetS (labelsV l f r n) b).isSome = true := by rw [sortK_mem, mget_mem]
  cases hv : mgetS (labelsV l f r n) b with
  | none =>
    have e : routeV l f b r n = (([], []), 11) := by
      unfold routeV; rw [if_neg (by rw [hz]; simp), if_pos (by rw [hv]; rfl)]
    unfold labelV
    rw [e]
    exact if_pos (.inl (by decide))
  | some v =>
    rw [hv] at hm
    have hm : b ∈ sortK ((labelsV l f r n).map Prod.fst) := hm.2 rfl
    have e2 : tmOf (labelsV l f r n) b = v.1 := by unfold tmOf; rw [hv]; rfl
    have e : routeV l f b r n = (((wayOf l (labelsV l f r n) b).reverse, lblsV (labelsV l f r n)), 0) := by
      unfold routeV; rw [if_neg (by rw [hz]; simp), if_neg (by rw [hv]; simp)]; rfl
    have e3 : labV (lblsV (labelsV l f r n)) b = some v.1 := by
      unfold lblsV
      rw [labV_map (tmOf (labelsV l f r n)) b _ hm, e2]
    unfold labelV
    rw [e]
    dsimp only
    rw [e3, if_neg (by simp)]
    rfl
theorem labelV_le {l : List Svc} {f b : ByteArray} {r n : Int} (hA : ArgOk l r n) (hl : l.length ≤ 40) (hf : portOk f = true) (hb : portOk b = true) : labelV l f b r n ≤ 1048577 := by
  rw [labelV_eq hA hl hf hb]
  cases hv : mgetS (labelsV l f r n) b with
  | none => exact Int.le_refl _
  | some v => have := ((labels_ok hA).base.low b v hv).2; show v.1 ≤ _; omega
theorem labelV_way {l : List Svc} {f b : ByteArray} {r n : Int} (hA : ArgOk l r n) (hl : l.length ≤ 40) (hf : portOk f = true) (hb : portOk b = true) : labelV l f b r n = 1048577 ∨ ∃ ws : List Int, (∀ i ∈ ws, (0 : Int) ≤ i ∧ i < (l.length : Int)) ∧ goV l n true f r ws = some (b, labelV l f b r n) := by
  rw [labelV_eq hA hl hf hb]
  cases hv : mgetS (labelsV l f r n) b with
  | none => exact .inl rfl
  | some v =>
    obtain ⟨h1, h2⟩ := way_goes hA (labels_ok hA (f := f)) _ b (Nat.lt_succ_self _) (by rw [hv]; rfl)
    have e2 : tmOf (labelsV l f r n) b = v.1 := by unfold tmOf; rw [hv]; rfl
    rw [e2] at h1
    exact .inr ⟨_, fun i hi => h2 i (List.mem_reverse.1 hi), h1⟩
theorem le_labelV {l : List Svc} {f b : ByteArray} {r n t : Int} (hA : ArgOk l r n) (hl : l.length ≤ 40) (hf : portOk f = true) (hb : portOk b = true) {ws : List Int} (hw : ∀ i ∈ ws, 0 ≤ i ∧ i < l.length) (hg : goV l n true f r ws = some (b, t)) : labelV l f b r n ≤ t := by
  obtain ⟨v, hv, hvt⟩ := least_goes hA (labels_ok hA (f := f)) ws true f r (b, t) (fun _ => ⟨rfl, rfl⟩) ⟨_, (labels_ok hA).base.frm, Int.le_refl _⟩ hw hg
  rw [labelV_eq hA hl hf hb]
  have hv : mgetS (labelsV l f r n) b = some v := hv
  rw [hv]; exact hvt
theorem goV_mono {l : List Svc} {n n0 : Int} (hn : n0 ≤ n) : ∀ (xs : List Int) (b : Bool) (p : ByteArray) (t t0 : Int) (q : ByteArray × Int), t0 ≤ t → goV l n b p t xs = some q → ∃ t', goV l n0 b p t0 xs = some (q.1, t') ∧ t' ≤ q.2
  | [], b, p, t, t0, q, ht, h => by
    rw [goV] at h; cases h
    exact ⟨t0, rfl, ht⟩
  | k :: xs, b, p, t, t0, q, ht, h => by
    rw [goV] at h
    by_cases hs : stepOk (l.getD k.toNat sv0) p (t + if b then 0 else n) = true
    · rw [if_pos hs] at h
      have hs0 : stepOk (l.getD k.toNat sv0) p (t0 + if b then 0 else n0) = true := by
        unfold stepOk at hs ⊢
        simp only [Bool.and_eq_true, decide_eq_true_eq] at hs ⊢
        refine ⟨hs.1, ?_⟩
        have := hs.2
        cases b
        · simp only [Bool.false_eq_true, if_false] at this ⊢; omega
        · simp only [if_true] at this ⊢; omega
      rw [goV, if_pos hs0]
      exact goV_mono hn xs false _ _ _ q (Int.le_refl _) h
    · rw [if_neg hs] at h; cases h
theorem goV_more {l m : List Svc} {n : Int} : ∀ (xs : List Int) (b : Bool) (p : ByteArray) (t : Int), (∀ i ∈ xs, 0 ≤ i ∧ i < l.length) → goV (l ++ m) n b p t xs = goV l n b p t xs
  | [], _, _, _, _ => rfl
  | k :: xs, b, p, t, h => by
    have hk := h k List.mem_cons_self
    have e : (l ++ m).getD k.toNat sv0 = l.getD k.toNat sv0 := by
      rw [List.getD_eq_getElem?_getD, List.getD_eq_getElem?_getD, List.getElem?_append_left (by omega)]
    rw [goV, goV, e]
    split
    · split
      · exact goV_more xs _ _ _ fun i hi => h i (List.mem_cons_of_mem _ hi)
      · rfl
    · split
      · exact goV_more xs _ _ _ fun i hi => h i (List.mem_cons_of_mem _ hi)
      · rfl
theorem label_mono {l : List Svc} {f b : ByteArray} {r n r0 n0 : Int} (hA : ArgOk l r n) (hA0 : ArgOk l r0 n0) (hl : l.length ≤ 40) (hf : portOk f = true) (hb : portOk b = true) (hr : r0 ≤ r) (hn : n0 ≤ n) : labelV l f b r0 n0 ≤ labelV l f b r n := by
  rcases labelV_way hA hl hf hb with h | ⟨ws, h1, h2⟩
  · rw [h]; exact labelV_le hA0 hl hf hb
  · obtain ⟨t', h3, h4⟩ := goV_mono hn ws true f r r0 _ hr h2
    exact Int.le_trans (le_labelV hA0 hl hf hb h1 h3) h4
theorem label_more {l m : List Svc} {f b : ByteArray} {r n : Int} (hA : ArgOk l r n) (hA0 : ArgOk (l ++ m) r n) (hl : (l ++ m).length ≤ 40) (hf : portOk f = true) (hb : portOk b = true) : labelV (l ++ m) f b r n ≤ labelV l f b r n := by
  have hl0 : l.length ≤ 40 := by simp at hl; omega
  rcases labelV_way hA hl0 hf hb with h | ⟨ws, h1, h2⟩
  · rw [h]; exact labelV_le hA0 hl hf hb
  · exact le_labelV hA0 hl hf hb (fun i hi => by have := h1 i hi; simp; omega) (by rw [goV_more ws _ _ _ h1]; exact h2)
def con5 : Con := { ps := [.d false (.sl (.int .i64))], rs := [.d false .bool], pre := fun _ => True, out := fun _ => (true, ()), nw := id }
theorem c5 : CtrOk Try.prog 5 con5.ctr :=
  con_sound (G := ⟨[(10, con10.ctr), (11, con11.ctr), (15, con15.ctr), (16, con16.ctr), (24, con24.ctr), (28, con28.ctr)], [], [(58, 4), (37, 9)], []⟩) tab_ok (EnvOk.cons c10 has10 (EnvOk.cons c11 has11 (EnvOk.cons c15 has15 (EnvOk.cons c16 has16 (EnvOk.cons c24 has24 (EnvOk.cons c28 has28 EnvOk.nil)))))) rfl Try.func5 rfl con5 2045 (by kernel_rfl) (by decide) (by decide) rfl (by decide) rfl (by
    rintro ⟨(l : List Int), _⟩ hpre hwf X hT hG hk hK
    (simp -implicitDefEqProofs only [go_sem, Prod.eta, Option.isSome_none, Option.isSome_some, Int.toNat_zero, Nat.reduceAdd, Nat.reduceMul, Nat.reduceSub, Nat.reduceEqDiff, Nat.reduceLT, Nat.reduceLeDiff, Nat.reduceShiftRight, Nat.reduceMod, Nat.reduceBEq, reduceCtorEq, reduceIte, reduceDIte, Int.reduceNeg, Bool.not_eq_true', Bool.not_eq_false', Bool.or_eq_true, Bool.or_eq_false_iff, Bool.and_eq_true, Bool.and_eq_false_iff, decide_eq_true_eq, decide_eq_false_iff_not, Classical.not_not, not_or, maxLen, con5, con10, con11, con15, con16, con24, con28, hT, hG, hk, hK, Try.results5] at hwf ⊢); (try simp (disch := decide +kernel) only [drawn, true_and, and_true])
    obtain ⟨hx, hxl, ho⟩ := servV_ok (s := (l.take 2000, 0)) (n := 20) (by omega) (Int.le_refl _)
    generalize servV (l.take 2000, 0) 20 = V at *
    obtain ⟨x, s⟩ := V
    have ho : 0 ≤ s.2 := ho
    have hx : ∀ s ∈ x, svOk s = true := hx
    have hxl : (x.length : Int) ≤ 20 := hxl
    have p1 := Src.step_pos s ho
    have p2 := Src.step_pos _ p1
    have p3 := Src.step_pos _ p2
    have p4 := Src.step_pos _ p3
    have ha := portV_ok s
    have hb := portV_ok s.step
    have b1 := goMod_bd s.step.step.raw 30 (by omega)
    have b2 := goMod_bd s.step.step.step.raw 12 (by omega)
    dsimp only
    generalize portV s = pa at *
    generalize portV s.step = pb at *
    generalize goMod s.step.step.raw 30 = t at *
    generalize goMod s.step.step.step.raw 12 = n at *
    generalize s.step.step.step.step = s4 at *
    obtain ⟨hy, hyl, ho2⟩ := servV_ok (s := s4) (n := 1) (by omega) p4
    generalize servV s4 1 = V at *
    obtain ⟨y, s5⟩ := V
    have p5 : 0 ≤ s5.2 := ho2
    have hy : ∀ s ∈ y, svOk s = true := hy
    have hyl : (y.length : Int) ≤ 1 := hyl
    have p6 := Src.step_pos _ p5
    have b3 := goMod_bd s5.raw 9 (by omega)
    have b4 := goMod_bd s5.step.raw 9 (by omega)
    dsimp only
    generalize goMod s5.raw 9 = u at *
    generalize goMod s5.step.raw 9 = v at *
    have et : List.take ((x.length : Int)).toNat x = x := by simp
    simp only [et]
    have hA : ArgOk x t n := ⟨hx, by omega, by omega, by omega, by omega⟩
    have hA1 : ArgOk x (t + 1 + u) n := ⟨hx, by omega, by omega, by omega, by omega⟩
    have hA2 : ArgOk x t (n + 1 + v) := ⟨hx, by omega, by omega, by omega, by omega⟩
    have hxy : ∀ s ∈ x ++ y, svOk s = true := fun s hs => by
      rcases List.mem_append.1 hs with h | h
      · exact hx s h
      · exact hy s h
    have hA3 : ArgOk (x ++ y) t n := ⟨hxy, by omega, by omega, by omega, by omega⟩
    have m1 := label_mono hA1 hA (by omega) ha hb (by omega) (Int.le_refl n)
    have m2 := label_mono hA2 hA (by omega) ha hb (Int.le_refl t) (by omega)
    have m3 := label_more hA hA3 (by rw [List.length_append]; omega) ha hb
    generalize labelV x pa pb t n = B0 at *
    generalize labelV x pa pb (t + 1 + u) n = B1 at *
    generalize labelV x pa pb t (n + 1 + v) = B2 at *
    generalize labelV (x ++ y) pa pb t n = B3 at *
    refine fun _ => ⟨by omega, fun _ => ⟨ho, fun _ => ⟨p1, fun _ => ⟨p2, fun _ => ⟨p3, fun _ _ _ _ => ⟨by omega, ⟨p4, by omega, by omega⟩, fun _ => ⟨by omega, by omega, p5, fun _ => ⟨by omega, fun _ => ⟨fun _ => by omega, fun _ => p6, fun h => absurd m1 h, fun _ _ => ⟨fun _ => by omega, fun _ _ => ⟨⟨m1, m2⟩, m3⟩⟩⟩⟩⟩⟩⟩⟩⟩⟩⟩)
end Go.Proofs.Ytjeinbfnbcempaa
