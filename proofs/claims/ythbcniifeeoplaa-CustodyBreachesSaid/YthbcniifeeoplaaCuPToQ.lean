/- The contract of Plant. -/
import Derived.Test.YthbcniifeeoplaaEvSortToO
import Derived.Test.YthbcniifeeoplaaCuF
set_option linter.unusedSimpArgs false
set_option linter.unusedVariables false
set_option maxRecDepth 100000
set_option maxHeartbeats 4000000
namespace Go.Proofs.Ythbcniifeeoplaa
open Go.Ev

def nz (l : List Int) : List Int := l.filter (fun b => decide (b ≠ 0))
structure PInv (S B : List (List Int)) (i : Nat) (bag : Int) : Prop where
  lenS : S.length = i
  lenB : B.length = i
  small : ∀ n, (rowsAt (S, B) n).length ≤ 5
  bd : ∀ n b, b ∈ rowsAt (S, B) n → 0 ≤ b ∧ b < bag
  one : ∀ n m b, b ≠ 0 → b ∈ rowsAt (S, B) n → b ∈ rowsAt (S, B) m → n = m
  nod : ∀ n, (nz (rowsAt (S, B) n)).Nodup
theorem getD_snoc {α : Type} (S : List (List α)) (A : List α) (n : Nat) : (S ++ [A]).getD n [] = if n < S.length then S.getD n [] else if n = S.length then A else [] := by
  by_cases h : n < S.length
  · rw [if_pos h]
    simp [List.getD_eq_getElem?_getD, List.getElem?_append_left h]
  · rw [if_neg h]
    by_cases e : n = S.length
    · subst e; simp [List.getD_eq_getElem?_getD]
    · rw [if_neg e]
      simp [List.getD_eq_getElem?_getD]
      rw [List.getElem?_eq_none (by simp; omega)]
      rfl
theorem PInv.nil : PInv [] [] 0 1 := ⟨rfl, rfl, fun n => by simp [rowsAt], fun n b h => by simp [rowsAt] at h, fun n m b _ h => by simp [rowsAt] at h, fun n => by simp [rowsAt, nz]⟩
theorem PInv.next {S B : List (List Int)} {i : Nat} {bag bag' : Int} (h : PInv S B i bag) {A C : List Int} (hA : A.length ≤ 4) (hC : C.length ≤ 1) (h1 : ∀ b ∈ A ++ C, b = 0 ∨ (bag ≤ b ∧ b < bag')) (h2 : (nz (A ++ C)).Nodup) (hb : 1 ≤ bag) (hbb : bag ≤ bag') :
    PInv (S ++ [A]) (B ++ [C]) (i + 1) bag' := by
  have key : ∀ n, rowsAt (S ++ [A], B ++ [C]) n = if n < i then rowsAt (S, B) n else if n = i then A ++ C else [] := by
    intro n
    unfold rowsAt
    simp only [getD_snoc, h.lenS, h.lenB]
    split
    · rfl
    · split <;> rfl
  refine ⟨by simp [h.lenS], by simp [h.lenB], fun n => ?_, fun n b hm => ?_, fun n m b h0 hn hm => ?_, fun n => ?_⟩
  · rw [key]
    split
    · exact h.small n
    · split
      · rw [List.length_append]; omega
      · simp
  · rw [key] at hm
    split at hm
    · have := h.bd n b hm
      omega
    · split at hm
      · rcases h1 b hm with e | e <;> omega
      · cases hm
  · rw [key] at hn hm
    have old : ∀ n, b ∈ rowsAt (S, B) n → b < bag := fun n hm => (h.bd n b hm).2
    have new : b ∈ A ++ C → bag ≤ b := fun hm => by rcases h1 b hm with e | e; exact absurd e h0; exact e.1
    split at hn
    · split at hm
      · exact h.one n m b h0 hn hm
      · split at hm
        · have := old n hn
          have := new hm
          omega
        · cases hm
    · split at hn
      · split at hm
        · have := old m hm
          have := new hn
          omega
        · split at hm
          · omega
          · cases hm
      · cases hn
  · rw [key]
    split
    · exact h.nod n
    · split
      · exact h2
      · simp [nz]
theorem PInv.good {S B : List (List Int)} {i : Nat} {bag : Int} (h : PInv S B i bag) (hb : bag ≤ 11) : Good (S, B) :=
  ⟨h.small, fun n b hm => by have := h.bd n b hm; omega, h.one, h.nod⟩
/-- A node's windows so far. -/
structure WInv (bag0 : Int) (A : List Int) (bag n full : Int) : Prop where
  b0 : bag0 ≤ bag
  sum : bag + n = 11
  n0 : 0 ≤ n
  f0 : -1 ≤ full
  f4 : full ≤ 4
  ent : ∀ b ∈ A, b = 0 ∨ (bag0 ≤ b ∧ b < bag)
  nod : (nz A).Nodup
theorem WInv.zero {bag0 : Int} {A : List Int} {bag n full : Int} (h : WInv bag0 A bag n full) : WInv bag0 (A ++ [0]) bag n full :=
  ⟨h.b0, h.sum, h.n0, h.f0, h.f4, fun b hb => by
    rcases List.mem_append.1 hb with hb | hb
    · exact h.ent b hb
    · exact .inl (by simpa using hb), by
    unfold nz
    rw [List.filter_append]
    simpa [nz] using h.nod⟩
theorem nz_snoc {bag0 : Int} {A : List Int} {bag : Int} (hb : 0 < bag) (he : ∀ b ∈ A, b = 0 ∨ (bag0 ≤ b ∧ b < bag)) (hn : (nz A).Nodup) : (nz (A ++ [bag])).Nodup := by
  unfold nz
  rw [List.filter_append, List.nodup_append]
  refine ⟨hn, ?_, ?_⟩
  · simp [show bag ≠ 0 by omega]
  · intro a ha b hb e
    subst e
    simp at hb
    rw [List.mem_filter] at ha
    rcases he a ha.1 with q | q <;> omega
theorem WInv.put {bag0 : Int} {A : List Int} {bag n full : Int} (h : WInv bag0 A bag n full) (h0 : 1 ≤ bag0) (hn : 0 < n) (hf : 0 < full) : WInv bag0 (A ++ [bag]) (bag + 1) (n - 1) (full - 1) := by
  have := h.b0
  have := h.sum
  have := h.f4
  refine ⟨by omega, by omega, by omega, by omega, by omega, fun b hb => ?_, nz_snoc (by omega) h.ent h.nod⟩
  rcases List.mem_append.1 hb with hb | hb
  · rcases h.ent b hb with e | e
    · exact .inl e
    · exact .inr ⟨e.1, by omega⟩
  · simp at hb
    subst hb
    exact .inr ⟨by omega, by omega⟩
theorem rep_zero (A : List Int) (L : Nat) (h : A.length < L) : A ++ List.replicate (L - A.length) (0 : Int) = (A ++ [0]) ++ List.replicate (L - (A ++ [0]).length) 0 := by
  obtain ⟨d, hd⟩ : ∃ d, L - A.length = d + 1 := ⟨L - A.length - 1, by omega⟩
  rw [hd, List.replicate_succ, List.length_append, List.length_singleton, show L - (A.length + 1) = d by omega]
  simp
theorem rep_set (A : List Int) (L : Nat) (b : Int) (h : A.length < L) : (A ++ List.replicate (L - A.length) (0 : Int)).set A.length b = (A ++ [b]) ++ List.replicate (L - (A ++ [b]).length) 0 := by
  obtain ⟨d, hd⟩ : ∃ d, L - A.length = d + 1 := ⟨L - A.length - 1, by omega⟩
  rw [hd, List.replicate_succ, List.length_append, List.length_singleton, show L - (A.length + 1) = d by omega]
  simp

def con26 : RCon := { ps := [.p 58 (.pair (.sl (.int .i64)) (.int .i64)), .d true (.pair (.sl (.pair .str (.pair (.int .i64) (.pair (.int .i64) (.pair (.int .i64) (.sl (.int .i64))))))) (.sl (.pair (.int .i64) (.pair (.int .i64) (.int .i64))))), .d false (.int .i64)], rs := [.d true (.pair (.sl (.sl (.int .i64))) (.sl (.sl (.int .i64))))], pre := fun (x : Src × Lay × Int × Unit) => 0 ≤ x.1.2 ∧ x.2.1.1.length ≤ 12 ∧ (∀ d ∈ x.2.1.1, 0 ≤ d.2.2.1 ∧ d.2.2.1 ≤ 4) ∧ x.2.2.1 = 10, rel := fun (x : Src × Lay × Int × Unit) (y : Pla × Unit) (z : Src × Lay × Int × Unit) => 0 ≤ z.1.2 ∧ Good y.1 ∧ y.1.1.length = x.2.1.1.length ∧ y.1.2.length = x.2.1.1.length }
theorem c26 : RCtrOk Try.prog 26 con26.rctr :=
  rcon_sound (G := ⟨[(10, con10.ctr)], [], [(51, 4), (73, 4)]⟩) tab_ok (EnvOk.cons c10 has10 EnvOk.nil) rfl Try.func26 rfl con26 37778940871273108504535 (by kernel_rfl) (by decide) (by decide) rfl (by decide) rfl (by
    rintro ⟨⟨(s : List Int), (a : Int)⟩, ⟨(ns : List Nd), (ds : List Dv)⟩, (n : Int), _⟩ hpre hwf X hT hG hk hK
    (simp -implicitDefEqProofs only [go_sem, Prod.eta, Option.isSome_none, Option.isSome_some, Int.toNat_zero, Nat.reduceAdd, Nat.reduceMul, Nat.reduceSub, Nat.reduceEqDiff, Nat.reduceLT, Nat.reduceLeDiff, Nat.reduceShiftRight, Nat.reduceMod, Nat.reduceBEq, reduceCtorEq, reduceIte, reduceDIte, Int.reduceNeg, Bool.not_eq_true', Bool.not_eq_false', Bool.or_eq_true, Bool.or_eq_false_iff, Bool.and_eq_true, Bool.and_eq_false_iff, decide_eq_true_eq, decide_eq_false_iff_not, Classical.not_not, not_or, maxLen, con26, con10, hT, hG, hk, hK, Try.results26] at hwf ⊢); (try simp (disch := decide +kernel) only [drawn, true_and, and_true])
    obtain ⟨h1, h2, h3, h4⟩ : 0 ≤ a ∧ ns.length ≤ 12 ∧ (∀ d ∈ ns, 0 ≤ d.2.2.1 ∧ d.2.2.1 ≤ 4) ∧ n = 10 := hpre
    subst h4
    refine evk_loop ⟨{ q : Src × List (List Int) × List (List Int) × Nat × Int × Int // 0 ≤ q.1.2 ∧ PInv q.2.1 q.2.2.1 q.2.2.2.1 q.2.2.2.2.1 ∧ q.2.2.2.1 ≤ ns.length ∧ 1 ≤ q.2.2.2.2.1 ∧ q.2.2.2.2.1 + q.2.2.2.2.2 = 11 ∧ 0 ≤ q.2.2.2.2.2 }, 1000, fun q => [(0, .one (.loc 0 0)), (2, .one (.int .i64 q.1.2.2.2.2.2)), (4, .one (.loc 70 0)), (6, .one (.loc 71 0)), (7, .one (.loc 72 0)), (8, .one (.int .i64 q.1.2.2.2.2.1)), (9, .one (.int .i64 q.1.2.2.2.1))],
      fun q => [(0, .cells 58 [.sl (.int .i64) q.1.1.1 false, .int .i64 q.1.1.2]), (70, .cells 50 [.sl (.pair .str (.pair (.int .i64) (.pair (.int .i64) (.pair (.int .i64) (.sl (.int .i64)))))) ns false, .sl (.pair (.int .i64) (.pair (.int .i64) (.int .i64))) ds false]), (71, .cells 54 [.undef, .undef]), (72, .cells 54 [.row 64, .row 65]), (64, .row 22 (.sl (.int .i64)) q.1.2.1), (65, .row 22 (.sl (.int .i64)) q.1.2.2.1)], fun q => ns.length - q.1.2.2.2.1⟩ ⟨((s, a), [], [], 0, 1, 10), h1, PInv.nil, by simp, by simp, by simp, by simp⟩ ?_ ?_
    · simp only [go_sem, Prod.eta, Option.isSome_none, Option.isSome_some, Int.toNat_zero, Nat.reduceAdd, Nat.reduceMul, Nat.reduceSub, Nat.reduceEqDiff, Nat.reduceLT, Nat.reduceLeDiff, Nat.reduceShiftRight, Nat.reduceMod, Nat.reduceBEq, reduceCtorEq, reduceIte, reduceDIte, Int.reduceNeg]
      first | rfl | exact ⟨rfl, rfl⟩
    · rintro ⟨⟨⟨s, a⟩, S, B, i, bag, n⟩, (h1 : 0 ≤ a), (hP : PInv S B i bag), (hi : i ≤ ns.length), (hb : 1 ≤ bag), (hs : bag + n = 11), (hn : 0 ≤ n)⟩
      (simp -implicitDefEqProofs only [go_sem, Prod.eta, Option.isSome_none, Option.isSome_some, Int.toNat_zero, Nat.reduceAdd, Nat.reduceMul, Nat.reduceSub, Nat.reduceEqDiff, Nat.reduceLT, Nat.reduceLeDiff, Nat.reduceShiftRight, Nat.reduceMod, Nat.reduceBEq, reduceCtorEq, reduceIte, reduceDIte, Int.reduceNeg, Bool.not_eq_true', Bool.not_eq_false', Bool.or_eq_true, Bool.or_eq_false_iff, Bool.and_eq_true, Bool.and_eq_false_iff, decide_eq_true_eq, decide_eq_false_iff_not, Classical.not_not, not_or, maxLen, con26, con10, hT, hG, hk, hK, Try.results26]); (try simp (disch := decide +kernel) only [drawn, true_and, and_true])
      refine fun _ => ⟨fun hlt => ?_, fun hge => ?_⟩
      · have hi1 : i < ns.length := by omega
        have ea : ∀ z, ns.getD (i : Int).toNat z = ns[i] := fun z => by simp [hi1]
        simp only [ea]
        obtain ⟨hL0, hL4⟩ := h3 ns[i] (List.getElem_mem hi1)
        generalize ns[i] = x at hL0 hL4 ⊢
        obtain ⟨nm, K, L, Z, ex⟩ := x
        have hL0 : 0 ≤ L := hL0
        have hL4 : L ≤ 4 := hL4
        dsimp only
        refine ⟨by omega, fun _ _ => ⟨⟨hL0, by omega⟩, fun hK5 => ⟨⟨by omega, by omega⟩, ?_⟩, fun hK5 => ?_⟩⟩
        · refine evk_loop ⟨{ q : Src × List Int × Int × Int × Int // 0 ≤ q.1.2 ∧ q.2.1.length ≤ L.toNat ∧ WInv bag q.2.1 q.2.2.1 q.2.2.2.1 q.2.2.2.2 }, 1000, fun q => [(0, .one (.loc 0 0)), (2, .one (.int .i64 q.1.2.2.2.1)), (4, .one (.loc 70 0)), (6, .one (.loc 71 0)), (7, .one (.loc 72 0)), (8, .one (.int .i64 q.1.2.2.1)), (9, .one (.int .i64 i)), (10, .one (.loc 73 0)), (11, .one (.row 66)), (12, .one (.row 67)), (13, .one (.int .i64 q.1.2.2.2.2)), (14, .one (.int .i64 q.1.2.1.length))],
            fun q => [(0, .cells 58 [.sl (.int .i64) q.1.1.1 false, .int .i64 q.1.1.2]), (70, .cells 50 [.sl (.pair .str (.pair (.int .i64) (.pair (.int .i64) (.pair (.int .i64) (.sl (.int .i64)))))) ns false, .sl (.pair (.int .i64) (.pair (.int .i64) (.int .i64))) ds false]), (71, .cells 54 [.undef, .undef]), (72, .cells 54 [.row 64, .row 65]), (73, .cells 69 [.str nm, .int .i64 K, .int .i64 L, .int .i64 Z, .sl (.int .i64) ex false]), (64, .row 22 (.sl (.int .i64)) S), (65, .row 22 (.sl (.int .i64)) B), (66, .row 3 (.int .i64) (q.1.2.1 ++ List.replicate (L.toNat - q.1.2.1.length) 0)), (67, .row 3 (.int .i64) [])], fun q => L.toNat - q.1.2.1.length⟩ ⟨((s, a), [], bag, n, L - 1), h1, by simp, (⟨Int.le_refl _, hs, hn, by omega, by omega, fun b hb => (by simp at hb), by simp [nz]⟩ : WInv bag [] bag n (L - 1))⟩ ?_ ?_
          · simp only [go_sem, Prod.eta, Option.isSome_none, Option.isSome_some, Int.toNat_zero, Nat.reduceAdd, Nat.reduceMul, Nat.reduceSub, Nat.reduceEqDiff, Nat.reduceLT, Nat.reduceLeDiff, Nat.reduceShiftRight, Nat.reduceMod, Nat.reduceBEq, reduceCtorEq, reduceIte, reduceDIte, Int.reduceNeg]
            first | rfl | exact ⟨rfl, rfl⟩ | exact ⟨rfl, rfl, rfl⟩
          · rintro ⟨⟨⟨s, a⟩, A, bag', n, full⟩, (h1 : 0 ≤ a), (hA : A.length ≤ L.toNat), (hW : WInv bag A bag' n full)⟩
            (simp -implicitDefEqProofs only [go_sem, Prod.eta, Option.isSome_none, Option.isSome_some, Int.toNat_zero, Nat.reduceAdd, Nat.reduceMul, Nat.reduceSub, Nat.reduceEqDiff, Nat.reduceLT, Nat.reduceLeDiff, Nat.reduceShiftRight, Nat.reduceMod, Nat.reduceBEq, reduceCtorEq, reduceIte, reduceDIte, Int.reduceNeg, Bool.not_eq_true', Bool.not_eq_false', Bool.or_eq_true, Bool.or_eq_false_iff, Bool.and_eq_true, Bool.and_eq_false_iff, decide_eq_true_eq, decide_eq_false_iff_not, Classical.not_not, not_or, maxLen, con26, con10, hT, hG, hk, hK, Try.results26]); (try simp (disch := decide +kernel) only [drawn, true_and, and_true])
            have hs1 : 0 ≤ (Src.step (s, a)).snd := step_pos h1
            have w1 := hW.b0
            have w2 := hW.sum
            have w3 := hW.n0
            have w4 := hW.f0
            have w5 := hW.f4
            simp only [Int.toNat_natCast]
            by_cases hAL : A.length < L.toNat
            · have hz := rep_zero A L.toNat hAL
              have hset := rep_set A L.toNat bag' hAL
              have hrl : (A ++ List.replicate (L.toNat - A.length) (0 : Int)).length = L.toNat := by simp; omega
              try simp only [hset, hrl]
              generalize goMod (Src.raw (s, a)) 2 = K2
              (repeat' (with_reducible (first | refine And.intro ?_ ?_ | intro _))) <;> (try (first | with_reducible (first | done | assumption | omega | contradiction) | decide))
              all_goals first
                | (refine fin_lp ⟨(Src.step (s, a), A ++ [bag'], bag' + 1, n - 1, full - 1), hs1, ?_, hW.put hb (by omega) (by omega)⟩ ?_ ?_; rotate_left 1; (simp only [go_sem, Prod.eta, Option.isSome_none, Option.isSome_some, Int.toNat_zero, Nat.reduceAdd, Nat.reduceMul, Nat.reduceSub, Nat.reduceEqDiff, Nat.reduceLT, Nat.reduceLeDiff, Nat.reduceShiftRight, Nat.reduceMod, Nat.reduceBEq, reduceCtorEq, reduceIte, reduceDIte, Int.reduceNeg]; and_intros <;> first | rfl | omega | (simp only [List.length_append, List.length_singleton]; omega)); (simp only [List.length_append, List.length_singleton]; omega); (simp only [List.length_append, List.length_singleton]; omega))
                | (refine fin_lp ⟨(Src.step (s, a), A ++ [0], bag', n, full), hs1, ?_, hW.zero⟩ ?_ ?_; rotate_left 1; (simp only [go_sem, Prod.eta, Option.isSome_none, Option.isSome_some, Int.toNat_zero, Nat.reduceAdd, Nat.reduceMul, Nat.reduceSub, Nat.reduceEqDiff, Nat.reduceLT, Nat.reduceLeDiff, Nat.reduceShiftRight, Nat.reduceMod, Nat.reduceBEq, reduceCtorEq, reduceIte, reduceDIte, Int.reduceNeg]; and_intros <;> first | rfl | exact hz | omega | (simp only [List.length_append, List.length_singleton]; omega)); (simp only [List.length_append, List.length_singleton]; omega); (simp only [List.length_append, List.length_singleton]; omega))
                | (refine fin_lp ⟨((s, a), A ++ [0], bag', n, full), h1, ?_, hW.zero⟩ ?_ ?_; rotate_left 1; (simp only [go_sem, Prod.eta, Option.isSome_none, Option.isSome_some, Int.toNat_zero, Nat.reduceAdd, Nat.reduceMul, Nat.reduceSub, Nat.reduceEqDiff, Nat.reduceLT, Nat.reduceLeDiff, Nat.reduceShiftRight, Nat.reduceMod, Nat.reduceBEq, reduceCtorEq, reduceIte, reduceDIte, Int.reduceNeg]; and_intros <;> first | rfl | exact hz | omega | (simp only [List.length_append, List.length_singleton]; omega)); (simp only [List.length_append, List.length_singleton]; omega); (simp only [List.length_append, List.length_singleton]; omega))
                | skip
            · have hz : L.toNat - A.length = 0 := by omega
              rw [hz, List.replicate_zero, List.append_nil]
              have hnx := hP.next (A := A) (C := []) (bag' := bag') (by omega) (by simp) (by simpa using hW.ent) (by simpa using hW.nod) hb w1
              have hnx2 := hP.next (A := A) (C := [bag']) (bag' := bag' + 1) (by omega) (by simp) (fun b hm => by
                rcases List.mem_append.1 hm with q | q
                · rcases hW.ent b q with e | e
                  · exact .inl e
                  · exact .inr ⟨e.1, by omega⟩
                · simp at q; exact .inr (by omega)) (nz_snoc (by omega) hW.ent hW.nod) hb (by omega)
              generalize goMod (Src.raw (s, a)) 3 = K3
              have hSl := hP.lenS
              have hBl := hP.lenB
              (repeat' (with_reducible (first | refine And.intro ?_ ?_ | intro _))) <;> (try (first | with_reducible (first | done | assumption | omega | contradiction) | decide))
              all_goals first
                | (refine fin_lp ⟨(Src.step (s, a), S ++ [A], B ++ [[bag']], i + 1, bag' + 1, n - 1), hs1, hnx2, ?_, ?_, ?_, ?_⟩ ?_ ?_; rotate_left 4; (simp only [go_sem, Prod.eta, Option.isSome_none, Option.isSome_some, Int.toNat_zero, Nat.reduceAdd, Nat.reduceMul, Nat.reduceSub, Nat.reduceEqDiff, Nat.reduceLT, Nat.reduceLeDiff, Nat.reduceShiftRight, Nat.reduceMod, Nat.reduceBEq, reduceCtorEq, reduceIte, reduceDIte, Int.reduceNeg]; and_intros <;> first | rfl | omega); (dsimp only; omega); (simp only; omega); (simp only; omega); (simp only; omega); (simp only; omega))
                | (refine fin_lp ⟨(Src.step (s, a), S ++ [A], B ++ [[]], i + 1, bag', n), hs1, hnx, ?_, ?_, ?_, ?_⟩ ?_ ?_; rotate_left 4; (simp only [go_sem, Prod.eta, Option.isSome_none, Option.isSome_some, Int.toNat_zero, Nat.reduceAdd, Nat.reduceMul, Nat.reduceSub, Nat.reduceEqDiff, Nat.reduceLT, Nat.reduceLeDiff, Nat.reduceShiftRight, Nat.reduceMod, Nat.reduceBEq, reduceCtorEq, reduceIte, reduceDIte, Int.reduceNeg]; and_intros <;> first | rfl | omega); (dsimp only; omega); (simp only; omega); (simp only; omega); (simp only; omega); (simp only; omega))
                | (refine fin_lp ⟨((s, a), S ++ [A], B ++ [[]], i + 1, bag', n), h1, hnx, ?_, ?_, ?_, ?_⟩ ?_ ?_; rotate_left 4; (simp only [go_sem, Prod.eta, Option.isSome_none, Option.isSome_some, Int.toNat_zero, Nat.reduceAdd, Nat.reduceMul, Nat.reduceSub, Nat.reduceEqDiff, Nat.reduceLT, Nat.reduceLeDiff, Nat.reduceShiftRight, Nat.reduceMod, Nat.reduceBEq, reduceCtorEq, reduceIte, reduceDIte, Int.reduceNeg]; and_intros <;> first | rfl | omega); (dsimp only; omega); (simp only; omega); (simp only; omega); (simp only; omega); (simp only; omega))
                | skip
        · refine evk_loop ⟨{ q : Src × List Int × Int × Int × Int // 0 ≤ q.1.2 ∧ q.2.1.length ≤ L.toNat ∧ WInv bag q.2.1 q.2.2.1 q.2.2.2.1 q.2.2.2.2 }, 1000, fun q => [(0, .one (.loc 0 0)), (2, .one (.int .i64 q.1.2.2.2.1)), (4, .one (.loc 70 0)), (6, .one (.loc 71 0)), (7, .one (.loc 72 0)), (8, .one (.int .i64 q.1.2.2.1)), (9, .one (.int .i64 i)), (10, .one (.loc 73 0)), (11, .one (.row 66)), (12, .one (.row 67)), (13, .one (.int .i64 q.1.2.2.2.2)), (14, .one (.int .i64 q.1.2.1.length))],
            fun q => [(0, .cells 58 [.sl (.int .i64) q.1.1.1 false, .int .i64 q.1.1.2]), (70, .cells 50 [.sl (.pair .str (.pair (.int .i64) (.pair (.int .i64) (.pair (.int .i64) (.sl (.int .i64)))))) ns false, .sl (.pair (.int .i64) (.pair (.int .i64) (.int .i64))) ds false]), (71, .cells 54 [.undef, .undef]), (72, .cells 54 [.row 64, .row 65]), (73, .cells 69 [.str nm, .int .i64 K, .int .i64 L, .int .i64 Z, .sl (.int .i64) ex false]), (64, .row 22 (.sl (.int .i64)) S), (65, .row 22 (.sl (.int .i64)) B), (66, .row 3 (.int .i64) (q.1.2.1 ++ List.replicate (L.toNat - q.1.2.1.length) 0)), (67, .row 3 (.int .i64) [])], fun q => L.toNat - q.1.2.1.length⟩ ⟨((s, a), [], bag, n, L), h1, by simp, (⟨Int.le_refl _, hs, hn, by omega, by omega, fun b hb => (by simp at hb), by simp [nz]⟩ : WInv bag [] bag n (L))⟩ ?_ ?_
          · simp only [go_sem, Prod.eta, Option.isSome_none, Option.isSome_some, Int.toNat_zero, Nat.reduceAdd, Nat.reduceMul, Nat.reduceSub, Nat.reduceEqDiff, Nat.reduceLT, Nat.reduceLeDiff, Nat.reduceShiftRight, Nat.reduceMod, Nat.reduceBEq, reduceCtorEq, reduceIte, reduceDIte, Int.reduceNeg]
            first | rfl | exact ⟨rfl, rfl⟩ | exact ⟨rfl, rfl, rfl⟩
          · rintro ⟨⟨⟨s, a⟩, A, bag', n, full⟩, (h1 : 0 ≤ a), (hA : A.length ≤ L.toNat), (hW : WInv bag A bag' n full)⟩
            (simp -implicitDefEqProofs only [go_sem, Prod.eta, Option.isSome_none, Option.isSome_some, Int.toNat_zero, Nat.reduceAdd, Nat.reduceMul, Nat.reduceSub, Nat.reduceEqDiff, Nat.reduceLT, Nat.reduceLeDiff, Nat.reduceShiftRight, Nat.reduceMod, Nat.reduceBEq, reduceCtorEq, reduceIte, reduceDIte, Int.reduceNeg, Bool.not_eq_true', Bool.not_eq_false', Bool.or_eq_true, Bool.or_eq_false_iff, Bool.and_eq_true, Bool.and_eq_false_iff, decide_eq_true_eq, decide_eq_false_iff_not, Classical.not_not, not_or, maxLen, con26, con10, hT, hG, hk, hK, Try.results26]); (try simp (disch := decide +kernel) only [drawn, true_and, and_true])
            have hs1 : 0 ≤ (Src.step (s, a)).snd := step_pos h1
            have w1 := hW.b0
            have w2 := hW.sum
            have w3 := hW.n0
            have w4 := hW.f0
            have w5 := hW.f4
            simp only [Int.toNat_natCast]
            by_cases hAL : A.length < L.toNat
            · have hz := rep_zero A L.toNat hAL
              have hset := rep_set A L.toNat bag' hAL
              have hrl : (A ++ List.replicate (L.toNat - A.length) (0 : Int)).length = L.toNat := by simp; omega
              try simp only [hset, hrl]
              generalize goMod (Src.raw (s, a)) 2 = K2
              (repeat' (with_reducible (first | refine And.intro ?_ ?_ | intro _))) <;> (try (first | with_reducible (first | done | assumption | omega | contradiction) | decide))
              all_goals first
                | (refine fin_lp ⟨(Src.step (s, a), A ++ [bag'], bag' + 1, n - 1, full - 1), hs1, ?_, hW.put hb (by omega) (by omega)⟩ ?_ ?_; rotate_left 1; (simp only [go_sem, Prod.eta, Option.isSome_none, Option.isSome_some, Int.toNat_zero, Nat.reduceAdd, Nat.reduceMul, Nat.reduceSub, Nat.reduceEqDiff, Nat.reduceLT, Nat.reduceLeDiff, Nat.reduceShiftRight, Nat.reduceMod, Nat.reduceBEq, reduceCtorEq, reduceIte, reduceDIte, Int.reduceNeg]; and_intros <;> first | rfl | omega | (simp only [List.length_append, List.length_singleton]; omega)); (simp only [List.length_append, List.length_singleton]; omega); (simp only [List.length_append, List.length_singleton]; omega))
                | (refine fin_lp ⟨(Src.step (s, a), A ++ [0], bag', n, full), hs1, ?_, hW.zero⟩ ?_ ?_; rotate_left 1; (simp only [go_sem, Prod.eta, Option.isSome_none, Option.isSome_some, Int.toNat_zero, Nat.reduceAdd, Nat.reduceMul, Nat.reduceSub, Nat.reduceEqDiff, Nat.reduceLT, Nat.reduceLeDiff, Nat.reduceShiftRight, Nat.reduceMod, Nat.reduceBEq, reduceCtorEq, reduceIte, reduceDIte, Int.reduceNeg]; and_intros <;> first | rfl | exact hz | omega | (simp only [List.length_append, List.length_singleton]; omega)); (simp only [List.length_append, List.length_singleton]; omega); (simp only [List.length_append, List.length_singleton]; omega))
                | (refine fin_lp ⟨((s, a), A ++ [0], bag', n, full), h1, ?_, hW.zero⟩ ?_ ?_; rotate_left 1; (simp only [go_sem, Prod.eta, Option.isSome_none, Option.isSome_some, Int.toNat_zero, Nat.reduceAdd, Nat.reduceMul, Nat.reduceSub, Nat.reduceEqDiff, Nat.reduceLT, Nat.reduceLeDiff, Nat.reduceShiftRight, Nat.reduceMod, Nat.reduceBEq, reduceCtorEq, reduceIte, reduceDIte, Int.reduceNeg]; and_intros <;> first | rfl | exact hz | omega | (simp only [List.length_append, List.length_singleton]; omega)); (simp only [List.length_append, List.length_singleton]; omega); (simp only [List.length_append, List.length_singleton]; omega))
                | skip
            · have hz : L.toNat - A.length = 0 := by omega
              rw [hz, List.replicate_zero, List.append_nil]
              have hnx := hP.next (A := A) (C := []) (bag' := bag') (by omega) (by simp) (by simpa using hW.ent) (by simpa using hW.nod) hb w1
              have hnx2 := hP.next (A := A) (C := [bag']) (bag' := bag' + 1) (by omega) (by simp) (fun b hm => by
                rcases List.mem_append.1 hm with q | q
                · rcases hW.ent b q with e | e
                  · exact .inl e
                  · exact .inr ⟨e.1, by omega⟩
                · simp at q; exact .inr (by omega)) (nz_snoc (by omega) hW.ent hW.nod) hb (by omega)
              generalize goMod (Src.raw (s, a)) 3 = K3
              have hSl := hP.lenS
              have hBl := hP.lenB
              (repeat' (with_reducible (first | refine And.intro ?_ ?_ | intro _))) <;> (try (first | with_reducible (first | done | assumption | omega | contradiction) | decide))
              all_goals first
                | (refine fin_lp ⟨(Src.step (s, a), S ++ [A], B ++ [[bag']], i + 1, bag' + 1, n - 1), hs1, hnx2, ?_, ?_, ?_, ?_⟩ ?_ ?_; rotate_left 4; (simp only [go_sem, Prod.eta, Option.isSome_none, Option.isSome_some, Int.toNat_zero, Nat.reduceAdd, Nat.reduceMul, Nat.reduceSub, Nat.reduceEqDiff, Nat.reduceLT, Nat.reduceLeDiff, Nat.reduceShiftRight, Nat.reduceMod, Nat.reduceBEq, reduceCtorEq, reduceIte, reduceDIte, Int.reduceNeg]; and_intros <;> first | rfl | omega); (dsimp only; omega); (simp only; omega); (simp only; omega); (simp only; omega); (simp only; omega))
                | (refine fin_lp ⟨(Src.step (s, a), S ++ [A], B ++ [[]], i + 1, bag', n), hs1, hnx, ?_, ?_, ?_, ?_⟩ ?_ ?_; rotate_left 4; (simp only [go_sem, Prod.eta, Option.isSome_none, Option.isSome_some, Int.toNat_zero, Nat.reduceAdd, Nat.reduceMul, Nat.reduceSub, Nat.reduceEqDiff, Nat.reduceLT, Nat.reduceLeDiff, Nat.reduceShiftRight, Nat.reduceMod, Nat.reduceBEq, reduceCtorEq, reduceIte, reduceDIte, Int.reduceNeg]; and_intros <;> first | rfl | omega); (dsimp only; omega); (simp only; omega); (simp only; omega); (simp only; omega); (simp only; omega))
                | (refine fin_lp ⟨((s, a), S ++ [A], B ++ [[]], i + 1, bag', n), h1, hnx, ?_, ?_, ?_, ?_⟩ ?_ ?_; rotate_left 4; (simp only [go_sem, Prod.eta, Option.isSome_none, Option.isSome_some, Int.toNat_zero, Nat.reduceAdd, Nat.reduceMul, Nat.reduceSub, Nat.reduceEqDiff, Nat.reduceLT, Nat.reduceLeDiff, Nat.reduceShiftRight, Nat.reduceMod, Nat.reduceBEq, reduceCtorEq, reduceIte, reduceDIte, Int.reduceNeg]; and_intros <;> first | rfl | omega); (dsimp only; omega); (simp only; omega); (simp only; omega); (simp only; omega); (simp only; omega))
                | skip
      · exact ⟨((S, B), ()), ((s, a), (ns, ds), 10, ()), ⟨h1, hP.good (by omega), by rw [hP.lenS]; omega, by rw [hP.lenB]; omega⟩, rfl, rfl, rfl, rfl⟩)
end Go.Proofs.Ythbcniifeeoplaa

/- The contract of Layout. -/
set_option linter.unusedSimpArgs false
set_option linter.unusedVariables false
set_option maxRecDepth 100000
set_option maxHeartbeats 8000000
namespace Go.Proofs.Ythbcniifeeoplaa
open Go.Ev

def okNds (g : Nat) (l : List Nd) : Prop := ∀ j d, l[j]? = some d → okNd d ∧ (j < g → 0 < d.2.2.2.2.length)
theorem okNds.snoc {g : Nat} {l : List Nd} {d : Nd} (h : okNds g l) (h1 : okNd d) (h2 : l.length < g → 0 < d.2.2.2.2.length) : okNds g (l ++ [d]) := by
  intro j e hj
  rw [List.getElem?_append] at hj
  split at hj
  · exact h j e hj
  · rename_i hlt
    by_cases k : j - l.length = 0
    · rw [k] at hj
      simp at hj
      subst hj
      exact ⟨h1, fun q => h2 (by omega)⟩
    · rw [List.getElem?_eq_none (by simp; omega)] at hj
      cases hj
theorem okNds.set {g : Nat} {l : List Nd} {k : Nat} {d : Nd} (h : okNds g l) (h1 : okNd d) (h2 : 0 < d.2.2.2.2.length) : okNds g (l.set k d) := by
  intro j e hj
  rw [List.getElem?_set] at hj
  split at hj
  · split at hj
    · cases hj
      exact ⟨h1, fun _ => h2⟩
    · cases hj
  · exact h j e hj
def con25 : RCon := { ps := [.p 58 (.pair (.sl (.int .i64)) (.int .i64))], rs := [.d true (.pair (.sl (.pair .str (.pair (.int .i64) (.pair (.int .i64) (.pair (.int .i64) (.sl (.int .i64))))))) (.sl (.pair (.int .i64) (.pair (.int .i64) (.int .i64)))))], pre := fun (x : Src × Unit) => 0 ≤ x.1.2, rel := fun (x : Src × Unit) (y : (List Nd × List Dv) × Unit) (z : Src × Unit) => 0 ≤ z.1.2 ∧ y.1.1.length ≤ 12 ∧ (∀ d ∈ y.1.1, 0 ≤ d.2.2.1 ∧ d.2.2.1 ≤ 4) }
theorem c25 : RCtrOk Try.prog 25 con25.rctr :=
  rcon_sound (G := ⟨[(10, con10.ctr), (14, con14.ctr), (16, con16.ctr)], [(35, con35.rctr), (36, con36.rctr)], []⟩) tab_ok (EnvOk.cons c10 has10 (EnvOk.cons c14 has14 (EnvOk.cons c16 has16 (EnvOk.rcons c35 has35 (EnvOk.rcons c36 has36 EnvOk.nil))))) rfl Try.func25 rfl con25 187072309931735551802315008943644463124222635540477 (by kernel_rfl) (by decide) (by decide) rfl (by decide) rfl (by
    rintro ⟨⟨(s : List Int), (a : Int)⟩, _⟩ hpre hwf X hT hG hk hK
    (simp -implicitDefEqProofs only [go_sem, Prod.eta, Option.isSome_none, Option.isSome_some, Int.toNat_zero, Nat.reduceAdd, Nat.reduceMul, Nat.reduceSub, Nat.reduceEqDiff, Nat.reduceLT, Nat.reduceLeDiff, Nat.reduceShiftRight, Nat.reduceMod, Nat.reduceBEq, reduceCtorEq, reduceIte, reduceDIte, Int.reduceNeg, Bool.not_eq_true', Bool.not_eq_false', Bool.or_eq_true, Bool.or_eq_false_iff, Bool.and_eq_true, Bool.and_eq_false_iff, decide_eq_true_eq, decide_eq_false_iff_not, Classical.not_not, not_or, maxLen, con25, con10, con14, con16, con35, con36, hT, hG, hk, hK, Try.results25] at hwf ⊢); (try simp (disch := decide +kernel) only [drawn, true_and, and_true])
    have h1 : 0 ≤ a := hpre
    have hs1 : 0 ≤ (Src.step (s, a)).snd := step_pos h1
    have hs2 : 0 ≤ (Src.step (s, a)).step.snd := step_pos hs1
    have hs3 : 0 ≤ (Src.step (s, a)).step.step.snd := step_pos hs2
    have hA := goMod_bd (Src.raw (s, a)) (3 - 1 + 1) (by omega)
    have hB := goMod_bd (Src.step (s, a)).raw (3 - 0 + 1) (by omega)
    have hC := goMod_bd (Src.step (s, a)).step.raw (2 - 1 + 1) (by omega)
    generalize goMod (Src.raw (s, a)) (3 - 1 + 1) = A at hA ⊢
    generalize goMod (Src.step (s, a)).raw (3 - 0 + 1) = B at hB ⊢
    generalize goMod (Src.step (s, a)).step.raw (2 - 1 + 1) = C at hC ⊢
    generalize Src.step (Src.step (Src.step (s, a))) = S3 at hs3 ⊢
    obtain ⟨s3, a3⟩ := S3
    have hs3 : 0 ≤ a3 := hs3
    (repeat' (with_reducible (first | refine And.intro ?_ ?_ | intro _))) <;> (try (first | with_reducible (first | done | assumption | omega | contradiction) | decide))
    generalize hn : 1 + A + 1 + (0 + B) + (1 + C) + 2 = n
    generalize hmn : n - 2 = mn
    generalize hg : 1 + A = g
    generalize hb : 0 + B = b
    have hg1 : 1 ≤ g := by omega
    have hg3 : g ≤ 3 := by omega
    have hn12 : n ≤ 11 := by omega
    have hgm : g < mn := by omega
    refine evk_loop ⟨{ q : Src × List Nd // 0 ≤ q.1.2 ∧ okNds g.toNat q.2 ∧ (q.2.length : Int) ≤ n }, 1000, fun q => [(0, .one (.loc 0 0)), (2, .one (.loc 70 0)), (4, .one (.int .i64 b)), (6, .one (.int .i64 n)), (7, .one (.int .i64 g)), (8, .one (.int .i64 mn)), (9, .one (.loc 71 0)), (10, .one (.int .i64 q.1.2.length))],
      fun q => [(0, .cells 58 [.sl (.int .i64) q.1.1.1 false, .int .i64 q.1.1.2]), (70, .cells 50 [.undef, .undef]), (71, .cells 50 [.row 64, .row 65]), (64, .row 69 (.pair .str (.pair (.int .i64) (.pair (.int .i64) (.pair (.int .i64) (.sl (.int .i64)))))) q.1.2), (65, .row 86 (.pair (.int .i64) (.pair (.int .i64) (.int .i64))) [])], fun q => 20 - q.1.2.length⟩ ⟨((s3, a3), []), hs3, fun j d h => (by simp at h), by simp; omega⟩ ?_ ?_
    · simp only [go_sem, Prod.eta, Option.isSome_none, Option.isSome_some, Int.toNat_zero, Nat.reduceAdd, Nat.reduceMul, Nat.reduceSub, Nat.reduceEqDiff, Nat.reduceLT, Nat.reduceLeDiff, Nat.reduceShiftRight, Nat.reduceMod, Nat.reduceBEq, reduceCtorEq, reduceIte, reduceDIte, Int.reduceNeg]
      first | rfl | exact ⟨rfl, rfl⟩
    · rintro ⟨⟨⟨s, a⟩, l⟩, (h1 : 0 ≤ a), (hl : okNds g.toNat l), (hln : (l.length : Int) ≤ n)⟩
      (simp -implicitDefEqProofs only [go_sem, Prod.eta, Option.isSome_none, Option.isSome_some, Int.toNat_zero, Nat.reduceAdd, Nat.reduceMul, Nat.reduceSub, Nat.reduceEqDiff, Nat.reduceLT, Nat.reduceLeDiff, Nat.reduceShiftRight, Nat.reduceMod, Nat.reduceBEq, reduceCtorEq, reduceIte, reduceDIte, Int.reduceNeg, Bool.not_eq_true', Bool.not_eq_false', Bool.or_eq_true, Bool.or_eq_false_iff, Bool.and_eq_true, Bool.and_eq_false_iff, decide_eq_true_eq, decide_eq_false_iff_not, Classical.not_not, not_or, maxLen, con25, con10, con14, con16, con35, con36, hT, hG, hk, hK, Try.results25]); (try simp (disch := decide +kernel) only [drawn, true_and, and_true])
      refine ⟨fun hlt => ⟨by omega, ?_⟩, fun hge => ?_⟩
      · refine evk_loop ⟨{ q : List Int × Int // (l.length : Int) + 1 ≤ q.2 ∧ q.2 ≤ 20 ∧ (q.1.length : Int) ≤ q.2 }, 1000, fun q => [(0, .one (.loc 0 0)), (2, .one (.loc 70 0)), (4, .one (.int .i64 b)), (6, .one (.int .i64 n)), (7, .one (.int .i64 g)), (8, .one (.int .i64 mn)), (9, .one (.loc 71 0)), (10, .one (.int .i64 l.length)), (11, .one (.row 66)), (12, .one (.row 67)), (13, .one (.int .i64 q.1.2))],
          fun q => [(0, .cells 58 [.sl (.int .i64) s false, .int .i64 a]), (70, .cells 50 [.undef, .undef]), (71, .cells 50 [.row 64, .row 65]), (64, .row 69 (.pair .str (.pair (.int .i64) (.pair (.int .i64) (.pair (.int .i64) (.sl (.int .i64)))))) l), (65, .row 86 (.pair (.int .i64) (.pair (.int .i64) (.int .i64))) []), (66, .row 3 (.int .i64) q.1.1), (67, .row 3 (.int .i64) [])], fun q => (20 - q.1.2).toNat⟩ ⟨([], l.length + 1), Int.le_refl _, by simp only; omega, by simp only [List.length_nil]; omega⟩ ?_ ?_
        · simp only [go_sem, Prod.eta, Option.isSome_none, Option.isSome_some, Int.toNat_zero, Nat.reduceAdd, Nat.reduceMul, Nat.reduceSub, Nat.reduceEqDiff, Nat.reduceLT, Nat.reduceLeDiff, Nat.reduceShiftRight, Nat.reduceMod, Nat.reduceBEq, reduceCtorEq, reduceIte, reduceDIte, Int.reduceNeg]
        · rintro ⟨⟨zs, k⟩, (hk1 : (l.length : Int) + 1 ≤ k), (hk2 : k ≤ 20), (hk3 : (zs.length : Int) ≤ k)⟩
          (simp -implicitDefEqProofs only [go_sem, Prod.eta, Option.isSome_none, Option.isSome_some, Int.toNat_zero, Nat.reduceAdd, Nat.reduceMul, Nat.reduceSub, Nat.reduceEqDiff, Nat.reduceLT, Nat.reduceLeDiff, Nat.reduceShiftRight, Nat.reduceMod, Nat.reduceBEq, reduceCtorEq, reduceIte, reduceDIte, Int.reduceNeg, Bool.not_eq_true', Bool.not_eq_false', Bool.or_eq_true, Bool.or_eq_false_iff, Bool.and_eq_true, Bool.and_eq_false_iff, decide_eq_true_eq, decide_eq_false_iff_not, Classical.not_not, not_or, maxLen, con25, con10, con14, con16, con35, con36, hT, hG, hk, hK, Try.results25]); (try simp (disch := decide +kernel) only [drawn, true_and, and_true])
          refine ⟨fun hle => ⟨by omega, by omega, ?_⟩, fun hgt => ⟨by omega, by omega, ?_⟩⟩
          · refine fin_lp ⟨(zs ++ [k], k + 1), ?_, ?_, ?_⟩ ?_ ?_
            · simp only; omega
            · simp only; omega
            · simp only [List.length_append, List.length_singleton]; omega
            · simp only [go_sem, Prod.eta, Option.isSome_none, Option.isSome_some, Int.toNat_zero, Nat.reduceAdd, Nat.reduceMul, Nat.reduceSub, Nat.reduceEqDiff, Nat.reduceLT, Nat.reduceLeDiff, Nat.reduceShiftRight, Nat.reduceMod, Nat.reduceBEq, reduceCtorEq, reduceIte, reduceDIte, Int.reduceNeg]
            · dsimp only; omega
          · refine evk_loop ⟨{ q : List Int × Int // 0 ≤ q.2 ∧ q.2 ≤ 20 ∧ (q.1.length : Int) ≤ q.2 }, 1000, fun q => [(0, .one (.loc 0 0)), (2, .one (.loc 70 0)), (4, .one (.int .i64 b)), (6, .one (.int .i64 n)), (7, .one (.int .i64 g)), (8, .one (.int .i64 mn)), (9, .one (.loc 71 0)), (10, .one (.int .i64 l.length)), (11, .one (.row 66)), (12, .one (.row 67)), (14, .one (.int .i64 q.1.2))],
              fun q => [(0, .cells 58 [.sl (.int .i64) s false, .int .i64 a]), (70, .cells 50 [.undef, .undef]), (71, .cells 50 [.row 64, .row 65]), (64, .row 69 (.pair .str (.pair (.int .i64) (.pair (.int .i64) (.pair (.int .i64) (.sl (.int .i64)))))) l), (65, .row 86 (.pair (.int .i64) (.pair (.int .i64) (.int .i64))) []), (66, .row 3 (.int .i64) (zs ++ [mn])), (67, .row 3 (.int .i64) q.1.1)], fun q => (20 - q.1.2).toNat⟩ ⟨([], (if g > (l.length : Int) then g else l.length) + 1), by simp only; split <;> omega, by simp only; split <;> omega, by simp only [List.length_nil]; split <;> omega⟩ ?_ ?_
            · simp only [go_sem, Prod.eta, Option.isSome_none, Option.isSome_some, Int.toNat_zero, Nat.reduceAdd, Nat.reduceMul, Nat.reduceSub, Nat.reduceEqDiff, Nat.reduceLT, Nat.reduceLeDiff, Nat.reduceShiftRight, Nat.reduceMod, Nat.reduceBEq, reduceCtorEq, reduceIte, reduceDIte, Int.reduceNeg]
              first | rfl | exact ⟨rfl, rfl⟩ | skip
            · rintro ⟨⟨os, j⟩, (hj1 : 0 ≤ j), (hj2 : j ≤ 20), (hj3 : (os.length : Int) ≤ j)⟩
              (simp -implicitDefEqProofs only [go_sem, Prod.eta, Option.isSome_none, Option.isSome_some, Int.toNat_zero, Nat.reduceAdd, Nat.reduceMul, Nat.reduceSub, Nat.reduceEqDiff, Nat.reduceLT, Nat.reduceLeDiff, Nat.reduceShiftRight, Nat.reduceMod, Nat.reduceBEq, reduceCtorEq, reduceIte, reduceDIte, Int.reduceNeg, Bool.not_eq_true', Bool.not_eq_false', Bool.or_eq_true, Bool.or_eq_false_iff, Bool.and_eq_true, Bool.and_eq_false_iff, decide_eq_true_eq, decide_eq_false_iff_not, Classical.not_not, not_or, maxLen, con25, con10, con14, con16, con35, con36, hT, hG, hk, hK, Try.results25]); (try simp (disch := decide +kernel) only [drawn, true_and, and_true])
              refine ⟨fun hjm => ?_, fun hjm => ?_⟩
              · refine ⟨by omega, by omega, ?_⟩
                refine fin_lp ⟨(os ++ [j], j + 1), ?_, ?_, ?_⟩ ?_ ?_
                · simp only; omega
                · simp only; omega
                · simp only [List.length_append, List.length_singleton]; omega
                · simp only [go_sem, Prod.eta, Option.isSome_none, Option.isSome_some, Int.toNat_zero, Nat.reduceAdd, Nat.reduceMul, Nat.reduceSub, Nat.reduceEqDiff, Nat.reduceLT, Nat.reduceLeDiff, Nat.reduceShiftRight, Nat.reduceMod, Nat.reduceBEq, reduceCtorEq, reduceIte, reduceDIte, Int.reduceNeg]
                · dsimp only; omega
              · simp only [List.length_append, List.length_singleton]
                have hs1 : 0 ≤ (Src.step (s, a)).snd := step_pos h1
                have hs2 : 0 ≤ (Src.step (s, a)).step.snd := step_pos hs1
                have hR := goMod_bd (Src.raw (s, a)) (3 - 1 + 1) (by omega)
                have hR2 := goMod_bd (Src.step (s, a)).raw ((os.length + 1 : Nat) : Int) (by omega)
                have hll : (0 : Int) ≤ l.length := by omega
                generalize hN : strOf [65 + (l.length : Int)] = nm
                generalize goMod (Src.raw (s, a)) (3 - 1 + 1) = R at hR ⊢
                generalize goMod (Src.step (s, a)).raw ((os.length + 1 : Nat) : Int) = R2 at hR2 ⊢
                refine ⟨by omega, by omega, fun hi0 => ⟨⟨h1, by omega⟩, fun y hy => ⟨by omega, by omega, by omega, by omega, ?_⟩⟩, fun hi0 => ⟨fun hig => ⟨⟨h1, by omega⟩, fun y hy => ⟨by omega, by omega, by omega, by omega, ?_⟩⟩, fun hig => ⟨fun hge => ?_, fun hge => ?_⟩⟩⟩
                · obtain ⟨⟨⟨nm', K, L, Z, ex⟩, u⟩, ⟨s', a'⟩, z⟩ := y
                  refine fin_lp ⟨((s', a'), l ++ [(nm, K, L, Z, ex)]), hy.1.1, hl.snoc hy.1.2.1 (fun _ => hy.1.2.2), by simp only [List.length_append, List.length_singleton]; omega⟩ ?_ ?_
                  · simp only [go_sem, Prod.eta, Option.isSome_none, Option.isSome_some, Int.toNat_zero, Nat.reduceAdd, Nat.reduceMul, Nat.reduceSub, Nat.reduceEqDiff, Nat.reduceLT, Nat.reduceLeDiff, Nat.reduceShiftRight, Nat.reduceMod, Nat.reduceBEq, reduceCtorEq, reduceIte, reduceDIte, Int.reduceNeg]
                    and_intros <;> first | rfl | (simp only [List.length_append, List.length_singleton]; omega)
                  · simp only [List.length_append, List.length_singleton]; omega
                · obtain ⟨⟨⟨nm', K, L, Z, ex⟩, u⟩, ⟨s', a'⟩, z⟩ := y
                  refine fin_lp ⟨((s', a'), l ++ [(nm, K, L, Z, ex)]), hy.1.1, hl.snoc hy.1.2.1 (fun _ => hy.1.2.2), by simp only [List.length_append, List.length_singleton]; omega⟩ ?_ ?_
                  · simp only [go_sem, Prod.eta, Option.isSome_none, Option.isSome_some, Int.toNat_zero, Nat.reduceAdd, Nat.reduceMul, Nat.reduceSub, Nat.reduceEqDiff, Nat.reduceLT, Nat.reduceLeDiff, Nat.reduceShiftRight, Nat.reduceMod, Nat.reduceBEq, reduceCtorEq, reduceIte, reduceDIte, Int.reduceNeg]
                    and_intros <;> first | rfl | (simp only [List.length_append, List.length_singleton]; omega)
                  · simp only [List.length_append, List.length_singleton]; omega
                · refine ⟨⟨h1, by decide, by decide, by decide⟩, fun _ _ => ⟨hs1, fun _ => ⟨⟨by omega, by omega⟩, fun _ => ⟨⟨by omega, by omega⟩, fun _ => ⟨by omega, by omega, by omega, by omega, ?_⟩⟩⟩⟩⟩
                  refine fin_lp ⟨(Src.step (Src.step (s, a)), l ++ [(nm, 6, 1 + R, 0, [mn, (os ++ [n - 1]).getD R2.toNat 0])]), hs2, hl.snoc ⟨by simp only; omega, by simp only; omega, by simp⟩ (fun h => by omega), by simp only [List.length_append, List.length_singleton]; omega⟩ ?_ ?_
                  · simp only [go_sem, Prod.eta, Option.isSome_none, Option.isSome_some, Int.toNat_zero, Nat.reduceAdd, Nat.reduceMul, Nat.reduceSub, Nat.reduceEqDiff, Nat.reduceLT, Nat.reduceLeDiff, Nat.reduceShiftRight, Nat.reduceMod, Nat.reduceBEq, reduceCtorEq, reduceIte, reduceDIte, Int.reduceNeg]
                    and_intros <;> first | rfl | (simp only [List.length_append, List.length_singleton]; omega)
                  · simp only [List.length_append, List.length_singleton]; omega
                · refine ⟨by omega, by omega, fun hb1 => ⟨⟨h1, by omega⟩, fun y hy => ?_⟩, fun hb1 => ?_⟩
                  · obtain ⟨⟨⟨nm', K, L, Z, ex⟩, u⟩, ⟨s', a'⟩, z⟩ := y
                    refine ⟨fun hk7 => ⟨by omega, by omega, by omega, by omega, ?_⟩, fun hk7 => ⟨by omega, by omega, by omega, by omega, ?_⟩⟩
                    · refine fin_lp ⟨((s', a'), l ++ [(nm, K, 0, Z, ex)]), hy.1.1, hl.snoc ⟨Int.le_refl _, by simp only; omega, hy.1.2.1.2.2⟩ (fun h => by omega), by simp only [List.length_append, List.length_singleton]; omega⟩ ?_ ?_
                      · simp only [go_sem, Prod.eta, Option.isSome_none, Option.isSome_some, Int.toNat_zero, Nat.reduceAdd, Nat.reduceMul, Nat.reduceSub, Nat.reduceEqDiff, Nat.reduceLT, Nat.reduceLeDiff, Nat.reduceShiftRight, Nat.reduceMod, Nat.reduceBEq, reduceCtorEq, reduceIte, reduceDIte, Int.reduceNeg]
                        and_intros <;> first | rfl | (simp only [List.length_append, List.length_singleton]; omega)
                      · simp only [List.length_append, List.length_singleton]; omega
                    · refine fin_lp ⟨((s', a'), l ++ [(nm, K, L, Z, ex)]), hy.1.1, hl.snoc hy.1.2.1 (fun h => by omega), by simp only [List.length_append, List.length_singleton]; omega⟩ ?_ ?_
                      · simp only [go_sem, Prod.eta, Option.isSome_none, Option.isSome_some, Int.toNat_zero, Nat.reduceAdd, Nat.reduceMul, Nat.reduceSub, Nat.reduceEqDiff, Nat.reduceLT, Nat.reduceLeDiff, Nat.reduceShiftRight, Nat.reduceMod, Nat.reduceBEq, reduceCtorEq, reduceIte, reduceDIte, Int.reduceNeg]
                        and_intros <;> first | rfl | (simp only [List.length_append, List.length_singleton]; omega)
                      · simp only [List.length_append, List.length_singleton]; omega
                  · have hln2 : (l.length : Int) < n := hlt
                    (repeat' (with_reducible (first | refine And.intro ?_ ?_ | intro _))) <;> (try (first | with_reducible (first | done | assumption | omega | contradiction) | decide))
                    · refine fin_lp ⟨((s, a), l ++ [(nm, 8, 0, 1, [])]), h1, hl.snoc ⟨Int.le_refl _, by simp only; omega, by simp⟩ (fun h => by omega), by simp only [List.length_append, List.length_singleton]; omega⟩ ?_ ?_
                      · simp only [go_sem, Prod.eta, Option.isSome_none, Option.isSome_some, Int.toNat_zero, Nat.reduceAdd, Nat.reduceMul, Nat.reduceSub, Nat.reduceEqDiff, Nat.reduceLT, Nat.reduceLeDiff, Nat.reduceShiftRight, Nat.reduceMod, Nat.reduceBEq, reduceCtorEq, reduceIte, reduceDIte, Int.reduceNeg]
                        and_intros <;> first | rfl | (simp only [List.length_append, List.length_singleton]; omega)
                      · simp only [List.length_append, List.length_singleton]; omega
                    · refine fin_lp ⟨((s, a), l ++ [(nm, 9, 0, (l.length : Int) - mn, [])]), h1, hl.snoc ⟨Int.le_refl _, by simp only; omega, by simp⟩ (fun h => by omega), by simp only [List.length_append, List.length_singleton]; omega⟩ ?_ ?_
                      · simp only [go_sem, Prod.eta, Option.isSome_none, Option.isSome_some, Int.toNat_zero, Nat.reduceAdd, Nat.reduceMul, Nat.reduceSub, Nat.reduceEqDiff, Nat.reduceLT, Nat.reduceLeDiff, Nat.reduceShiftRight, Nat.reduceMod, Nat.reduceBEq, reduceCtorEq, reduceIte, reduceDIte, Int.reduceNeg]
                        and_intros <;> first | rfl | (simp only [List.length_append, List.length_singleton]; omega)
                      · simp only [List.length_append, List.length_singleton]; omega
      · have hs1 : 0 ≤ (Src.step (s, a)).snd := step_pos h1
        have hlen : (l.length : Int) = n := by omega
        generalize Src.step (s, a) = S1 at hs1 ⊢
        obtain ⟨s1, a1⟩ := S1
        have hs1 : 0 ≤ a1 := hs1
        have all4 : ∀ {l : List Nd}, okNds g.toNat l → ∀ d ∈ l, 0 ≤ d.2.2.1 ∧ d.2.2.1 ≤ 4 := fun h d hd => by
          obtain ⟨k, hk⟩ := List.mem_iff_getElem?.1 hd
          exact ⟨(h k d hk).1.1, (h k d hk).1.2.1⟩
        refine ⟨h1, fun _ => ⟨fun hpos => ?_, fun hneg => ?_⟩⟩
        · refine evk_loop ⟨{ q : List Nd × Nat // okNds g.toNat q.1 ∧ q.1.length = l.length ∧ q.2 ≤ g.toNat }, 1000, fun q => [(0, .one (.loc 0 0)), (2, .one (.loc 70 0)), (7, .one (.int .i64 g)), (9, .one (.loc 71 0)), (16, .one (.int .i64 q.1.2))],
            fun q => [(0, .cells 58 [.sl (.int .i64) s1 false, .int .i64 a1]), (70, .cells 50 [.undef, .undef]), (71, .cells 50 [.row 64, .row 65]), (64, .row 69 (.pair .str (.pair (.int .i64) (.pair (.int .i64) (.pair (.int .i64) (.sl (.int .i64)))))) q.1.1), (65, .row 86 (.pair (.int .i64) (.pair (.int .i64) (.int .i64))) [])], fun q => g.toNat - q.1.2⟩ ⟨(l, 0), hl, rfl, by simp⟩ ?_ ?_
          · simp only [go_sem, Prod.eta, Option.isSome_none, Option.isSome_some, Int.toNat_zero, Nat.reduceAdd, Nat.reduceMul, Nat.reduceSub, Nat.reduceEqDiff, Nat.reduceLT, Nat.reduceLeDiff, Nat.reduceShiftRight, Nat.reduceMod, Nat.reduceBEq, reduceCtorEq, reduceIte, reduceDIte, Int.reduceNeg]
            first | rfl | exact ⟨rfl, rfl⟩
          · rintro ⟨⟨q, i⟩, (hq : okNds g.toNat q), (hql : q.length = l.length), (hi : i ≤ g.toNat)⟩
            (simp -implicitDefEqProofs only [go_sem, Prod.eta, Option.isSome_none, Option.isSome_some, Int.toNat_zero, Nat.reduceAdd, Nat.reduceMul, Nat.reduceSub, Nat.reduceEqDiff, Nat.reduceLT, Nat.reduceLeDiff, Nat.reduceShiftRight, Nat.reduceMod, Nat.reduceBEq, reduceCtorEq, reduceIte, reduceDIte, Int.reduceNeg, Bool.not_eq_true', Bool.not_eq_false', Bool.or_eq_true, Bool.or_eq_false_iff, Bool.and_eq_true, Bool.and_eq_false_iff, decide_eq_true_eq, decide_eq_false_iff_not, Classical.not_not, not_or, maxLen, con25, con10, con14, con16, con35, con36, hT, hG, hk, hK, Try.results25]); (try simp (disch := decide +kernel) only [drawn, true_and, and_true])
            refine ⟨fun hlt => ?_, fun hge => ?_⟩
            · have hiq : i < q.length := by omega
              have ea : ∀ z, q.getD (i : Int).toNat z = q[i] := fun z => by simp [hiq]
              have hx := hq i q[i] (by simp [hiq])
              have hi2 : ((0 : Int) ≤ i ∧ (i : Int) < q.length) = True := by rw [eq_iff_iff, iff_true]; omega
              simp only [ea, hi2, true_and, true_implies, implies_true]
              generalize hxe : q[i] = x at hx ⊢
              obtain ⟨nm, K, L, Z, ex⟩ := x
              obtain ⟨⟨hx1, hx2, hx3⟩, hx4⟩ := hx
              have hx3 : ex.length ≤ 2 := hx3
              have hx4 : 0 < ex.length := hx4 (by omega)
              dsimp only
              have hdl : (List.drop (Int.toNat 1) (List.take (ex.length : Int).toNat ex)).length ≤ 1 := by
                rw [List.length_drop, List.length_take]; omega
              (repeat' (with_reducible (first | refine And.intro ?_ ?_ | intro _))) <;> (try (first | with_reducible (first | done | assumption | omega | contradiction) | decide))
              all_goals first
                | omega
                | (refine fin_lp ⟨(q.set i (nm, K, L, Z, ((i : Int) + 1) :: List.drop (Int.toNat 1) (List.take (ex.length : Int).toNat ex)), i + 1), hq.set ⟨hx1, hx2, by simp only [List.length_cons]; omega⟩ (by simp), by simp [hql], by simp only; omega⟩ ?_ ?_; (simp only [go_sem, Prod.eta, Option.isSome_none, Option.isSome_some, Int.toNat_zero, Nat.reduceAdd, Nat.reduceMul, Nat.reduceSub, Nat.reduceEqDiff, Nat.reduceLT, Nat.reduceLeDiff, Nat.reduceShiftRight, Nat.reduceMod, Nat.reduceBEq, reduceCtorEq, reduceIte, reduceDIte, Int.reduceNeg]; and_intros <;> first | rfl | omega); (dsimp only; omega))
                | (refine fin_lp ⟨(q, i + 1), hq, hql, by simp only; omega⟩ ?_ ?_; (simp only [go_sem, Prod.eta, Option.isSome_none, Option.isSome_some, Int.toNat_zero, Nat.reduceAdd, Nat.reduceMul, Nat.reduceSub, Nat.reduceEqDiff, Nat.reduceLT, Nat.reduceLeDiff, Nat.reduceShiftRight, Nat.reduceMod, Nat.reduceBEq, reduceCtorEq, reduceIte, reduceDIte, Int.reduceNeg]; done); (dsimp only; omega))
                | (refine fin_lp ⟨(q, i + 1), hq, hql, by simp only; omega⟩ ?_ ?_; (simp only [go_sem, Prod.eta, Option.isSome_none, Option.isSome_some, Int.toNat_zero, Nat.reduceAdd, Nat.reduceMul, Nat.reduceSub, Nat.reduceEqDiff, Nat.reduceLT, Nat.reduceLeDiff, Nat.reduceShiftRight, Nat.reduceMod, Nat.reduceBEq, reduceCtorEq, reduceIte, reduceDIte, Int.reduceNeg]; and_intros <;> first | rfl | omega); (dsimp only; omega))
                | skip
            · refine ⟨⟨hs1, by omega⟩, fun y hy => ?_⟩
              obtain ⟨⟨dv, u⟩, ⟨⟨s', a'⟩, z⟩⟩ := y
              exact ⟨((q, dv), ()), ((s', a'), ()), ⟨hy.1, by simp only; omega, all4 hq⟩, rfl, rfl, rfl, rfl⟩
        · refine ⟨⟨hs1, by omega⟩, fun y hy => ?_⟩
          obtain ⟨⟨dv, u⟩, ⟨⟨s', a'⟩, z⟩⟩ := y
          exact ⟨((l, dv), ()), ((s', a'), ()), ⟨hy.1, by simp only; omega, all4 hl⟩, rfl, rfl, rfl, rfl⟩)
end Go.Proofs.Ythbcniifeeoplaa

/- The law Breaches: the contract of the statement's own function. -/
set_option linter.unusedSimpArgs false
set_option linter.unusedVariables false
set_option maxRecDepth 100000
set_option maxHeartbeats 4000000
namespace Go.Proofs.Ythbcniifeeoplaa
open Go.Ev

def con7 : Con := { ps := [.d false (.sl (.int .i64)), .d false (.sl (.int .i64))], rs := [.d false .bool], pre := fun _ => True, out := fun _ => (true, ()), nw := id }
theorem c7 : CtrOk Try.prog 7 con7.ctr :=
  con_sound (G := ⟨[(8, con8.ctr), (9, con9.ctr), (22, con22.ctr), (27, con27.ctr), (28, con28.ctr)], [(25, con25.rctr), (26, con26.rctr)], []⟩) tab_ok (EnvOk.cons c8 has8 (EnvOk.cons c9 has9 (EnvOk.cons c22 has22 (EnvOk.cons c27 has27 (EnvOk.cons c28 has28 (EnvOk.rcons c25 has25 (EnvOk.rcons c26 has26 EnvOk.nil))))))) rfl Try.func7 rfl con7 1073744371 (by kernel_rfl) (by decide) (by decide) rfl (by decide) rfl (by
    rintro ⟨(l : List Int), (cl : List Int), _⟩ hpre hwf X hT hG hk hK
    (simp -implicitDefEqProofs only [go_sem, Prod.eta, Option.isSome_none, Option.isSome_some, Int.toNat_zero, Nat.reduceAdd, Nat.reduceMul, Nat.reduceSub, Nat.reduceEqDiff, Nat.reduceLT, Nat.reduceLeDiff, Nat.reduceShiftRight, Nat.reduceMod, Nat.reduceBEq, reduceCtorEq, reduceIte, reduceDIte, Int.reduceNeg, Bool.not_eq_true', Bool.not_eq_false', Bool.or_eq_true, Bool.or_eq_false_iff, Bool.and_eq_true, Bool.and_eq_false_iff, decide_eq_true_eq, decide_eq_false_iff_not, Classical.not_not, not_or, maxLen, con7, con8, con9, con22, con27, con28, con25, con26, hT, hG, hk, hK, Try.results7] at hwf ⊢); (try simp (disch := decide +kernel) only [drawn, true_and, and_true])
    intro _ hcl _
    refine ⟨by omega, fun a ha => ?_⟩
    obtain ⟨⟨⟨ns, ds⟩, u1⟩, ⟨s1, u2⟩⟩ := a
    obtain ⟨⟨h1, h2, h3⟩, _⟩ := ha
    refine ⟨⟨h1, h2, h3⟩, fun a ha => ?_⟩
    obtain ⟨⟨⟨S, B⟩, u3⟩, ⟨s2, ⟨x2, ⟨k2, u4⟩⟩⟩⟩ := a
    obtain ⟨⟨_, hg, h4, h5⟩, _⟩ := ha
    dsimp only at h2 hg h4 h5 ⊢
    have hlen : (sortI (brU ns (S, B) cl ns.length)).length ≤ 60 := by
      rw [(sortI_perm _).length_eq]
      exact Nat.le_trans (brU_len hg _) (by omega)
    refine ⟨⟨hg, h2, h4, h5⟩, fun _ => ⟨⟨hg, h4, h5⟩, fun _ => ⟨fun hne => hne (breaches_law hg), fun _ => ⟨by omega, by omega, ⟨hg, h2, h4, h5⟩, fun _ _ => ?_⟩⟩⟩⟩
    rw [breaches_again]; rfl)
end Go.Proofs.Ythbcniifeeoplaa
