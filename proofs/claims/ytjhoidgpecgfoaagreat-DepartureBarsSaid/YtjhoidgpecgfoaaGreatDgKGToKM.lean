/- The generator of containers. -/
import Derived.Test.YtjhoidgpecgfoaaGreatDgK5ToKV
import Derived.Test.YtjhoidgpecgfoaaGreatDgKD
import Derived.Test.YtjhoidgpecgfoaaGreatDgKLToKQ
import Derived.Test.YtjhoidgpecgfoaaGreatDgKRToK2
set_option linter.unusedSimpArgs false
set_option linter.unusedVariables false
set_option maxRecDepth 100000
set_option maxHeartbeats 8000000
namespace Go.Proofs.YtjhoidgpecgfoaaGreat
open Go.Ev

attribute [local go_sem] List.set_cons_succ List.set_cons_zero List.getD_cons_succ List.getD_cons_zero List.set_nil
/-- What Containers gives. -/
structure CtsR (most n : Int) (l : List Cnt) : Prop where
 ok : CtsOk l
 len : (l.length : Int) ≤ most
 pl : ∀ c ∈ l, ∀ x ∈ c.pcs, ∃ j : Nat, (j : Int) < n ∧ x.1 = platesV j
 fl : ∀ c ∈ l, ∃ j : Nat, j < 3 ∧ c.flt = fltsV j
structure CtA (most k nm : Int) (xs : List Cnt) : Prop where
 len : (xs.length : Int) + k ≤ most
 n0 : 0 ≤ nm
 n1 : nm ≤ 2 * xs.length
 ok : ∀ c ∈ xs, propC c = true ∧ c.pcs = [] ∧ c.num ≤ nm ∧ ∃ j : Nat, j < 3 ∧ c.flt = fltsV j
 num : xs.Pairwise (fun a b => a.num < b.num)
 pos : ∀ i, i < xs.length → (xs.getD i ct0).pos = 0 ∨ (xs.getD i ct0).pos = i + 1
theorem CtA.push {most k nm : Int} {xs : List Cnt} (h : CtA most k nm xs) (hm : most ≤ 24) (hk : 0 < k) {v f c l m p r : Int} (hv : 1 ≤ v ∧ v ≤ 2) (hf : 0 ≤ f ∧ f < 3) (hc : 0 ≤ c ∧ c ≤ 31) (hl : 0 ≤ l ∧ l ≤ 20000) (hmo : 0 ≤ m ∧ m ≤ 60) (hp : p = 0 ∨ p = xs.length + 1) (hr : -50 ≤ r ∧ r ≤ 50) : CtA most (k - 1) (nm + v) (xs ++ [(nm + v, fltsV f, c, l, m, p, r, [])]) := by
 obtain ⟨il, in0, in1, iok, inum, ipos⟩ := h
 refine ⟨by simp; omega, by omega, by simp; omega, fun x hx => ?_, ?_, fun i hi => ?_⟩
 · rcases List.mem_append.1 hx with hx | hx
   · obtain ⟨h1, h2, h3, h4⟩ := iok x hx
     exact ⟨h1, h2, by omega, h4⟩
   · rw [List.mem_singleton.1 hx]
     refine ⟨?_, rfl, Int.le_refl _, f.toNat, by omega, by rw [show ((f.toNat : Nat) : Int) = f by omega]⟩
     unfold propC inV
     simp only [Cnt.num, Cnt.flt, Cnt.cats, Cnt.lim, Cnt.most, Cnt.pos, Cnt.arm, fltsV_ok, Bool.and_eq_true, decide_eq_true_eq, and_true]
     rcases hp with hp | hp <;> subst hp <;> omega
 · rw [List.pairwise_append]
   refine ⟨inum, List.pairwise_singleton _ _, fun x hx y hy => ?_⟩
   rw [List.mem_singleton.1 hy]
   have := (iok x hx).2.2.1
   show x.num < nm + v
   omega
 · by_cases e : i < xs.length
   · have := ipos i e
     rw [List.getD_eq_getElem?_getD, List.getElem?_append_left e, ← List.getD_eq_getElem?_getD]; exact this
   · have e : i = xs.length := by simp at hi; omega
     subst e
     rw [List.getD_eq_getElem?_getD, List.getElem?_append_right (Nat.le_refl _), Nat.sub_self]
     exact hp
structure CtB (i N : Nat) (yss : List (List Pce)) : Prop where
 len : yss.length = N
 c20 : ∀ p ∈ yss, p.length ≤ 20
 ok : ∀ p ∈ yss, PcsOk p
 pl : ∀ p ∈ yss, ∀ x ∈ p, ∃ j : Nat, j < i ∧ x.1 = platesV j
 ap : yss.Pairwise (fun a b => ∀ x ∈ a, ∀ y ∈ b, x.1 ≠ y.1)
theorem CtB.nil (N : Nat) : CtB 0 N (List.replicate N []) := by
 refine ⟨by simp, fun p hp => ?_, fun p hp => ?_, fun p hp => ?_, ?_⟩
 · rw [List.eq_of_mem_replicate hp]; simp
 · rw [List.eq_of_mem_replicate hp]; exact ⟨fun _ h => (by cases h), .nil⟩
 · rw [List.eq_of_mem_replicate hp]; intro x hx; cases hx
 · rw [List.pairwise_replicate]; right; intro x hx; cases hx
theorem CtB.step {i N : Nat} {yss : List (List Pce)} (h : CtB i N yss) : CtB (i + 1) N yss :=
 ⟨h.len, h.c20, h.ok, fun p hp x hx => (h.pl p hp x hx).imp fun j hj => ⟨by omega, hj.2⟩, h.ap⟩
theorem platesV_ne {a b : Nat} (h : a < b) (hb : b < 1000) : platesV a ≠ platesV b := fun e => by
 have := platesV_lt (a := a) (b := b) (by omega) (by omega) (by omega)
 rw [e, (pltC_cmp.eq _ _).2 rfl] at this
 omega
theorem set_getD {α : Type} (l : List α) (k : Nat) (v d : α) (j : Nat) (hj : j < l.length) : (l.set k v).getD j d = if k = j then v else l.getD j d := by
 rw [List.getD_eq_getElem?_getD, List.getD_eq_getElem?_getD, List.getElem?_set]
 split
 · rename_i e; subst e; simp [hj]
 · rfl
theorem CtB.put {i N k : Nat} {yss : List (List Pce)} (h : CtB i N yss) (hi : i < 1000) (hk : k < N) (h20 : (yss.getD k []).length < 20) {w c : Int} (hw : 1 ≤ w ∧ w ≤ 999) (hc : 0 ≤ c ∧ c ≤ 4) : CtB (i + 1) N (yss.set k (yss.getD k [] ++ [(platesV i, w, c)])) := by
 obtain ⟨h1, h2, h3, h4, h5⟩ := h
 have hmem : yss.getD k [] ∈ yss := getD_mem (by omega)
 have key : ∀ p ∈ yss.set k (yss.getD k [] ++ [(platesV i, w, c)]), p ∈ yss ∨ p = yss.getD k [] ++ [(platesV i, w, c)] := fun p hp => by
  rcases List.mem_or_eq_of_mem_set hp with h | h
  · exact .inl h
  · exact .inr h
 refine ⟨by simp [h1], fun p hp => ?_, fun p hp => ?_, fun p hp x hx => ?_, ?_⟩
 · rcases key p hp with h | h
   · exact h2 p h
   · rw [h, List.length_append, List.length_singleton]; omega
 · rcases key p hp with h | h
   · exact h3 p h
   · subst h
     refine ⟨fun x hx => ?_, ?_⟩
     · rcases List.mem_append.1 hx with hx | hx
       · exact (h3 _ hmem).ok x hx
       · rw [List.mem_singleton.1 hx]
         unfold okPc inV
         simp only [platesV_ok, Bool.and_eq_true, decide_eq_true_eq, true_and]
         omega
     · rw [List.pairwise_append]
       refine ⟨(h3 _ hmem).srt, List.pairwise_singleton _ _, fun x hx y hy => ?_⟩
       rw [List.mem_singleton.1 hy]
       obtain ⟨j, hj, e⟩ := h4 _ hmem x hx
       rw [e]
       exact platesV_lt (by omega) (by omega) (by omega)
 · rcases key p hp with h | h
   · exact (h4 p h x hx).imp fun j hj => ⟨by omega, hj.2⟩
   · subst h
     rcases List.mem_append.1 hx with hx | hx
     · exact (h4 _ hmem x hx).imp fun j hj => ⟨by omega, hj.2⟩
     · rw [List.mem_singleton.1 hx]; exact ⟨i, by omega, rfl⟩
 · rw [pw_getD []] at h5 ⊢
   intro a b hab hb x hx y hy
   rw [List.length_set] at hb
   rw [set_getD _ _ _ _ _ (by omega)] at hx hy
   have hA : yss.getD a [] ∈ yss := getD_mem (by omega)
   have hB : yss.getD b [] ∈ yss := getD_mem hb
   by_cases ea : k = a
   · rw [if_pos ea] at hx
     rw [if_neg (by omega)] at hy
     rcases List.mem_append.1 hx with hx | hx
     · rw [ea] at hx; exact h5 a b hab hb x hx y hy
     · rw [List.mem_singleton.1 hx]
       obtain ⟨j, hj, e⟩ := h4 _ hB y hy
       rw [e]; exact (platesV_ne hj hi).symm
   · rw [if_neg ea] at hx
     by_cases eb : k = b
     · rw [if_pos eb] at hy
       rcases List.mem_append.1 hy with hy | hy
       · rw [eb] at hy; exact h5 a b hab hb x hx y hy
       · rw [List.mem_singleton.1 hy]
         obtain ⟨j, hj, e⟩ := h4 _ hA x hx
         rw [e]; exact platesV_ne hj hi
     · rw [if_neg eb] at hy
       exact h5 a b hab hb x hx y hy
theorem zipS_len {xs : List Cnt} {yss : List (List Pce)} (h : yss.length = xs.length) : ((xs.zip yss).map (fun q => setPcs q.1 q.2)).length = xs.length := by simp [h]
theorem zipS_getD {xs : List Cnt} {yss : List (List Pce)} (h : yss.length = xs.length) {i : Nat} (hi : i < xs.length) : ((xs.zip yss).map (fun q => setPcs q.1 q.2)).getD i ct0 = setPcs (xs.getD i ct0) (yss.getD i []) := by
 simp [List.getD_eq_getElem?_getD, hi, h]
theorem CtsR.mk' {most n nm k : Int} {i : Nat} {xs : List Cnt} {yss : List (List Pce)} (hA : CtA most k nm xs) (hk : 0 ≤ k) (hm : most ≤ 24) (hB : CtB i xs.length yss) (hi : (i : Int) ≤ n ∨ i = 0) : CtsR most n ((xs.zip yss).map (fun q => setPcs q.1 q.2)) := by
 obtain ⟨il, in0, in1, iok, inum, ipos⟩ := hA
 obtain ⟨h1, h2, h3, h4, h5⟩ := hB
 have hl := zipS_len h1
 have hg : ∀ c ∈ (xs.zip yss).map (fun q => setPcs q.1 q.2), ∃ x ∈ xs, ∃ p ∈ yss, c = setPcs x p := fun c hc => by
  obtain ⟨q, hq, rfl⟩ := List.mem_map.1 hc
  exact ⟨q.1, (List.of_mem_zip (a := q.1) (b := q.2) hq).1, q.2, (List.of_mem_zip (a := q.1) (b := q.2) hq).2, rfl⟩
 refine ⟨⟨by omega, fun c hc => ?_, (pw_getD ct0).2 fun a b hab hb => ?_, (pw_getD ct0).2 fun a b hab hb => ?_, (pw_getD ct0).2 fun a b hab hb => ?_⟩, by omega, fun c hc x hx => ?_, fun c hc => ?_⟩
 · obtain ⟨x, hx, p, hp, rfl⟩ := hg c hc
   exact ⟨(iok x hx).1, Nat.le_trans (h2 p hp) (by omega), h3 p hp⟩
 · rw [hl] at hb
   rw [zipS_getD (i := a) h1 (by omega), zipS_getD (i := b) h1 hb]
   exact (pw_getD ct0).1 inum a b hab hb
 · rw [hl] at hb
   rw [zipS_getD (i := a) h1 (by omega), zipS_getD (i := b) h1 hb]
   intro hp he
   have hp : (xs.getD b ct0).pos ≠ 0 := hp
   have he : (xs.getD a ct0).pos = (xs.getD b ct0).pos := he
   have := ipos a (by omega)
   have := ipos b hb
   omega
 · rw [hl] at hb
   rw [zipS_getD (i := a) h1 (by omega), zipS_getD (i := b) h1 hb]
   exact (pw_getD []).1 h5 a b hab (by omega)
 · obtain ⟨x0, hx0, p, hp, rfl⟩ := hg c hc
   obtain ⟨j, hj, e⟩ := h4 p hp x hx
   exact ⟨j, by omega, e⟩
 · obtain ⟨x0, hx0, p, hp, rfl⟩ := hg c hc
   exact (iok x0 hx0).2.2.2
def con8 : RCon := { ps := [.p 103 ySR, .d false (.int .i64), .d false (.int .i64)], rs := [.d false (.sl yCT)], pre := fun (x : Src × Int × Int × Unit) => 0 ≤ x.1.2 ∧ 0 ≤ x.2.1 ∧ x.2.1 ≤ 24 ∧ x.2.2.1 ≤ 1000, rel := fun (x : Src × Int × Int × Unit) (y : List Cnt × Unit) (z : Src × Int × Int × Unit) => 0 ≤ z.1.2 ∧ CtsR x.2.1 x.2.2.1 y.1 }
theorem c8 : RCtrOk Tryz.prog 8 con8.rctr :=
 rcon_sound (G := ⟨[(11, con11.ctr), (39, con39.ctr), (13, con13.ctr), (31, con31.ctr)], [], [(7, 87), (53, 87), (58, 1), (84, 3), (93, 5), (99, 1)], []⟩) tab_ok (EnvOk.cons c11 has11 (EnvOk.cons c39 has39 (EnvOk.cons c13 has13 (EnvOk.cons c31 has31 EnvOk.nil)))) rfl Tryz.func8 rfl con8 77371328692341128053669831 (by kernel_rfl) (by decide) (by decide) rfl (by decide) rfl (by
  rintro ⟨⟨(s : List Int), (a : Int)⟩, (most : Int), (n : Int), _⟩ hpre hwf X hT hG hk hK
  (simp -implicitDefEqProofs only [go_sem, Prod.eta, Option.isSome_none, Option.isSome_some, Int.toNat_zero, Nat.reduceAdd, Nat.reduceMul, Nat.reduceSub, Nat.reduceEqDiff, Nat.reduceLT, Nat.reduceLeDiff, Nat.reduceShiftRight, Nat.reduceMod, Nat.reduceBEq, reduceCtorEq, reduceIte, reduceDIte, Int.reduceNeg, Bool.not_eq_true', Bool.not_eq_false', Bool.or_eq_true, Bool.or_eq_false_iff, Bool.and_eq_true, Bool.and_eq_false_iff, decide_eq_true_eq, decide_eq_false_iff_not, Classical.not_not, not_or, maxLen, con8, con11, con39, con13, con31, hT, hG, hk, hK, Tryz.results8] at hwf ⊢); (try simp (disch := decide +kernel) only [drawn, true_and, and_true])
  obtain ⟨h1, h2, h3, h4⟩ : 0 ≤ a ∧ 0 ≤ most ∧ most ≤ 24 ∧ n ≤ 1000 := hpre
  have hs1 : 0 ≤ (Src.step (s, a)).snd := step_pos h1
  have hkb := goMod_bd (Src.raw (s, a)) (most + 1) (by omega)
  generalize goMod (Src.raw (s, a)) (most + 1) = K at hkb ⊢
  generalize Src.step (s, a) = S1 at hs1 ⊢
  obtain ⟨s1, a1⟩ := S1
  (repeat' (with_reducible (first | refine And.intro ?_ ?_ | intro _))) <;> (try (first | with_reducible (first | done | assumption | omega | contradiction) | decide))
  refine evk_loop ⟨{ q : Src × List Cnt × Int × Int // 0 ≤ q.1.2 ∧ CtA most q.2.2.2 q.2.2.1 q.2.1 ∧ 0 ≤ q.2.2.2 }, 1000, fun q => [(0, .one (.loc 0 0)), (2, .one (.int .i64 n)), (7, .one (.row 64)), (8, .one (.int .i64 q.1.2.2.1)), (9, .one (.int .i64 q.1.2.2.2))],
   fun q => [(0, .cells 103 [.sl (.int .i64) q.1.1.1 false, .int .i64 q.1.1.2]), (64, .rowg 107 yCT 10 65 q.1.2.1 none), (65, .fam 79 yPC (List.replicate q.1.2.1.length []))], fun q => q.1.2.2.2.toNat⟩ ⟨((s1, a1), [], 0, K), hs1, ⟨by simp only [List.length_nil]; omega, Int.le_refl _, by simp, fun _ h => (by cases h), .nil, fun i h => absurd h (by simp)⟩, hkb.1⟩ ?_ ?_
  · simp only [go_sem, Prod.eta, Option.isSome_none, Option.isSome_some, Int.toNat_zero, Nat.reduceAdd, Nat.reduceMul, Nat.reduceSub, Nat.reduceEqDiff, Nat.reduceLT, Nat.reduceLeDiff, Nat.reduceShiftRight, Nat.reduceMod, Nat.reduceBEq, reduceCtorEq, reduceIte, reduceDIte, Int.reduceNeg]
    try (first | rfl | exact ⟨rfl, rfl⟩ | (and_intros <;> first | trivial | rfl | omega))
  · rintro ⟨⟨⟨s, a⟩, xs, nm, k⟩, (h1 : 0 ≤ a), (hI : CtA most k nm xs), (hk0 : 0 ≤ k)⟩
    (simp -implicitDefEqProofs only [go_sem, Prod.eta, Option.isSome_none, Option.isSome_some, Int.toNat_zero, Nat.reduceAdd, Nat.reduceMul, Nat.reduceSub, Nat.reduceEqDiff, Nat.reduceLT, Nat.reduceLeDiff, Nat.reduceShiftRight, Nat.reduceMod, Nat.reduceBEq, reduceCtorEq, reduceIte, reduceDIte, Int.reduceNeg, Bool.not_eq_true', Bool.not_eq_false', Bool.or_eq_true, Bool.or_eq_false_iff, Bool.and_eq_true, Bool.and_eq_false_iff, decide_eq_true_eq, decide_eq_false_iff_not, Classical.not_not, not_or, maxLen, con8, con11, con39, con13, con31, hT, hG, hk, hK, Tryz.results8]); (try simp (disch := decide +kernel) only [drawn, true_and, and_true])
    obtain ⟨il, in0, in1, iok, inum, ipos⟩ := hI
    have r1 := goMod_bd (Src.raw (s, a)) 2 (by omega)
    have p1 : 0 ≤ (Src.step (s, a)).snd := step_pos h1
    have p2 : 0 ≤ (Src.step (s, a)).step.snd := step_pos p1
    have p3 : 0 ≤ (Src.step (s, a)).step.step.snd := step_pos p2
    have p4 : 0 ≤ (Src.step (s, a)).step.step.step.snd := step_pos p3
    have p5 : 0 ≤ (Src.step (s, a)).step.step.step.step.snd := step_pos p4
    have p6 : 0 ≤ (Src.step (s, a)).step.step.step.step.step.snd := step_pos p5
    have p7 : 0 ≤ (Src.step (s, a)).step.step.step.step.step.step.snd := step_pos p6
    have r2 := goMod_bd (Src.step (s, a)).raw 3 (by omega)
    have r3 := goMod_bd (Src.step (s, a)).step.raw 6 (by omega)
    have r4 := goMod_bd (Src.step (s, a)).step.step.raw 300 (by omega)
    have r5 := goMod_bd (Src.step (s, a)).step.step.step.raw 10 (by omega)
    have r6 := goMod_bd (Src.step (s, a)).step.step.step.step.raw 21 (by omega)
    have r7 := goMod_bd (Src.step (s, a)).step.step.step.step.step.raw 3 (by omega)
    generalize (Src.step (s, a)).step.step.step.step.step.step = S7 at p7 ⊢
    generalize goMod (Src.step (s, a)).step.step.step.step.step.raw 3 = V7 at r7 ⊢
    generalize goMod (Src.step (s, a)).step.step.step.step.raw 21 = V6 at r6 ⊢
    generalize goMod (Src.step (s, a)).step.step.step.raw 10 = V5 at r5 ⊢
    generalize goMod (Src.step (s, a)).step.step.raw 300 = V4 at r4 ⊢
    generalize goMod (Src.step (s, a)).raw 3 = V2 at r2 ⊢
    generalize goMod (Src.raw (s, a)) 2 = V1 at r1 ⊢
    obtain ⟨s7, a7⟩ := S7
    have hc31 : ∀ k : Int, 0 ≤ k ∧ k < 6 → 0 ≤ [31, 31, 31, 3, 30, 1].getD k.toNat (0 : Int) ∧ [31, 31, 31, 3, 30, 1].getD k.toNat (0 : Int) ≤ 31 := fun k hk => by
     rcases (by omega : k = 0 ∨ k = 1 ∨ k = 2 ∨ k = 3 ∨ k = 4 ∨ k = 5) with rfl | rfl | rfl | rfl | rfl | rfl <;> decide
    have hc31 := hc31 _ r3
    have hrep : List.replicate xs.length ([] : List Pce) ++ [[]] = List.replicate (xs.length + 1) [] := by rw [List.replicate_succ']
    have hI : CtA most k nm xs := ⟨il, in0, in1, iok, inum, ipos⟩
    (repeat' (with_reducible (first | refine And.intro ?_ ?_ | intro _))) <;> (try (first | with_reducible (first | done | assumption | omega | contradiction) | decide))
    all_goals first
     | (have hv7 : V7 > 0 := by assumption
        refine fin_lp ⟨((s7, a7), xs ++ [_], nm + (1 + V1), k - 1), p7, CtA.push (v := 1 + V1) (f := V2) (c := [31, 31, 31, 3, 30, 1].getD (goMod (Src.step (s, a)).step.raw 6).toNat 0) (l := 50 + V4) (m := 2 + V5) (p := xs.length + 1) (r := V6 - 10) hI h3 (by omega) (by omega) r2 hc31 (by omega) (by omega) (.inr rfl) (by omega), (by show 0 ≤ k - 1; omega)⟩ ?_ (by dsimp only; omega)
        simp only [go_sem, Prod.eta, Option.isSome_none, Option.isSome_some, Int.toNat_zero, Nat.reduceAdd, Nat.reduceMul, Nat.reduceSub, Nat.reduceEqDiff, Nat.reduceLT, Nat.reduceLeDiff, Nat.reduceShiftRight, Nat.reduceMod, Nat.reduceBEq, reduceCtorEq, reduceIte, reduceDIte, Int.reduceNeg]
        rw [hrep, List.length_append]
        try (first | rfl | exact ⟨rfl, rfl⟩ | (and_intros <;> first | trivial | rfl | omega))
        done)
     | (have hv7 : ¬ V7 > 0 := by assumption
        refine fin_lp ⟨((s7, a7), xs ++ [_], nm + (1 + V1), k - 1), p7, CtA.push (v := 1 + V1) (f := V2) (c := [31, 31, 31, 3, 30, 1].getD (goMod (Src.step (s, a)).step.raw 6).toNat 0) (l := 50 + V4) (m := 2 + V5) (p := 0) (r := V6 - 10) hI h3 (by omega) (by omega) r2 hc31 (by omega) (by omega) (.inl rfl) (by omega), (by show 0 ≤ k - 1; omega)⟩ ?_ (by dsimp only; omega)
        simp only [go_sem, Prod.eta, Option.isSome_none, Option.isSome_some, Int.toNat_zero, Nat.reduceAdd, Nat.reduceMul, Nat.reduceSub, Nat.reduceEqDiff, Nat.reduceLT, Nat.reduceLeDiff, Nat.reduceShiftRight, Nat.reduceMod, Nat.reduceBEq, reduceCtorEq, reduceIte, reduceDIte, Int.reduceNeg]
        rw [hrep, List.length_append]
        try (first | rfl | exact ⟨rfl, rfl⟩ | (and_intros <;> first | trivial | rfl | omega))
        done)
     | (have hl0 : xs.length = 0 := by omega
        refine ⟨((xs.zip (List.replicate xs.length [])).map (fun q => setPcs q.1 q.2), ()), ((s, a), most, n, ()), ⟨h1, CtsR.mk' hI hk0 h3 (CtB.nil _) (.inr rfl)⟩, rfl, rfl, putSls_ct _ _⟩)
     | (refine evk_loop ⟨{ q : Src × List (List Pce) × Nat // 0 ≤ q.1.2 ∧ CtB q.2.2 xs.length q.2.1 ∧ ((q.2.2 : Int) ≤ n ∨ q.2.2 = 0) }, 1000, fun q => [(0, .one (.loc 0 0)), (2, .one (.int .i64 n)), (7, .one (.row 64)), (11, .one (.int .i64 q.1.2.2))],
         fun q => [(0, .cells 103 [.sl (.int .i64) q.1.1.1 false, .int .i64 q.1.1.2]), (64, .rowg 107 yCT 10 65 xs none), (65, .fam 79 yPC q.1.2.1)], fun q => n.toNat - q.1.2.2⟩ ⟨((s, a), List.replicate xs.length [], 0), h1, CtB.nil _, .inr rfl⟩ ?_ ?_
        · simp only [go_sem, Prod.eta, Option.isSome_none, Option.isSome_some, Int.toNat_zero, Nat.reduceAdd, Nat.reduceMul, Nat.reduceSub, Nat.reduceEqDiff, Nat.reduceLT, Nat.reduceLeDiff, Nat.reduceShiftRight, Nat.reduceMod, Nat.reduceBEq, reduceCtorEq, reduceIte, reduceDIte, Int.reduceNeg]
          try (first | rfl | exact ⟨rfl, rfl⟩ | (and_intros <;> first | trivial | rfl | omega))
        · rintro ⟨⟨⟨s, a⟩, yss, i⟩, (h1 : 0 ≤ a), (hB : CtB i xs.length yss), (hin : (i : Int) ≤ n ∨ i = 0)⟩
          (simp -implicitDefEqProofs only [go_sem, Prod.eta, Option.isSome_none, Option.isSome_some, Int.toNat_zero, Nat.reduceAdd, Nat.reduceMul, Nat.reduceSub, Nat.reduceEqDiff, Nat.reduceLT, Nat.reduceLeDiff, Nat.reduceShiftRight, Nat.reduceMod, Nat.reduceBEq, reduceCtorEq, reduceIte, reduceDIte, Int.reduceNeg, Bool.not_eq_true', Bool.not_eq_false', Bool.or_eq_true, Bool.or_eq_false_iff, Bool.and_eq_true, Bool.and_eq_false_iff, decide_eq_true_eq, decide_eq_false_iff_not, Classical.not_not, not_or, maxLen, con8, con11, con39, con13, con31, hT, hG, hk, hK, Tryz.results8]); (try simp (disch := decide +kernel) only [drawn, true_and, and_true])
          have hxl : 0 < xs.length := by omega
          have r1 := goMod_bd (Src.raw (s, a)) 3 (by omega)
          have p1 : 0 ≤ (Src.step (s, a)).snd := step_pos h1
          have p2 : 0 ≤ (Src.step (s, a)).step.snd := step_pos p1
          have p3 : 0 ≤ (Src.step (s, a)).step.step.snd := step_pos p2
          have p4 : 0 ≤ (Src.step (s, a)).step.step.step.snd := step_pos p3
          have r2 := goMod_bd (Src.step (s, a)).raw xs.length (by omega)
          have r3 := goMod_bd (Src.step (s, a)).step.raw 30 (by omega)
          have r4 := goMod_bd (Src.step (s, a)).step.step.raw 8 (by omega)
          have hw : ∀ k : Int, 0 ≤ k ∧ k < 8 → 0 ≤ [0, 0, 0, 0, 1, 2, 3, 4].getD k.toNat (0 : Int) ∧ [0, 0, 0, 0, 1, 2, 3, 4].getD k.toNat (0 : Int) ≤ 4 := fun k hk => by
           rcases (by omega : k = 0 ∨ k = 1 ∨ k = 2 ∨ k = 3 ∨ k = 4 ∨ k = 5 ∨ k = 6 ∨ k = 7) with rfl | rfl | rfl | rfl | rfl | rfl | rfl | rfl <;> decide
          have hw := hw _ r4
          have hyl := hB.len
          have hbl : ∀ k : Nat, (yss.getD k []).length ≤ 20 := fun k => by
           by_cases h : k < yss.length
           · exact hB.c20 _ (getD_mem h)
           · rw [List.getD_eq_getElem?_getD, List.getElem?_eq_none (by omega)]; simp
          have hbk := hbl (goMod (Src.step (s, a)).raw xs.length).toNat
          generalize (Src.step (s, a)).step.step.step = S4 at p4 ⊢
          generalize goMod (Src.step (s, a)).step.step.raw 8 = V4 at r4 hw ⊢
          generalize goMod (Src.step (s, a)).step.raw 30 = V3 at r3 ⊢
          generalize goMod (Src.step (s, a)).raw xs.length = V2 at r2 hbk ⊢
          generalize goMod (Src.raw (s, a)) 3 = V1 at r1 ⊢
          generalize (Src.step (s, a)).step = S2 at p2 ⊢
          generalize Src.step (s, a) = S1 at p1 ⊢
          obtain ⟨s4, a4⟩ := S4
          obtain ⟨s2, a2⟩ := S2
          obtain ⟨s1, a1⟩ := S1
          (repeat' (with_reducible (first | refine And.intro ?_ ?_ | intro _))) <;> (try (first | with_reducible (first | done | assumption | omega | contradiction) | decide))
          all_goals first
           | (have hv : V1 = 0 := by assumption
              refine fin_lp ⟨((s1, a1), yss, i + 1), p1, hB.step, (by show ((i + 1 : Nat) : Int) ≤ n ∨ _; omega)⟩ ?_ (by dsimp only; omega)
              simp only [go_sem, Prod.eta, Option.isSome_none, Option.isSome_some, Int.toNat_zero, Nat.reduceAdd, Nat.reduceMul, Nat.reduceSub, Nat.reduceEqDiff, Nat.reduceLT, Nat.reduceLeDiff, Nat.reduceShiftRight, Nat.reduceMod, Nat.reduceBEq, reduceCtorEq, reduceIte, reduceDIte, Int.reduceNeg]
              try (first | rfl | exact ⟨rfl, rfl⟩ | (and_intros <;> first | trivial | rfl | omega))
              done)
           | exact step_pos p2
           | (have h20 : ((yss.getD V2.toNat []).length : Int) < 20 := by assumption
              refine fin_lp ⟨((s4, a4), yss.set V2.toNat (yss.getD V2.toNat [] ++ [(platesV i, 1 + V3, [0, 0, 0, 0, 1, 2, 3, 4].getD V4.toNat 0)]), i + 1), p4, hB.put (by omega) (by omega) (by omega) (by omega) hw, (by show ((i + 1 : Nat) : Int) ≤ n ∨ _; omega)⟩ ?_ (by dsimp only; omega)
              simp only [go_sem, Prod.eta, Option.isSome_none, Option.isSome_some, Int.toNat_zero, Nat.reduceAdd, Nat.reduceMul, Nat.reduceSub, Nat.reduceEqDiff, Nat.reduceLT, Nat.reduceLeDiff, Nat.reduceShiftRight, Nat.reduceMod, Nat.reduceBEq, reduceCtorEq, reduceIte, reduceDIte, Int.reduceNeg]
              rw [List.set_set]
              try (first | rfl | exact ⟨rfl, rfl⟩ | (and_intros <;> first | trivial | rfl | omega))
              done)
           | (have h20 : ¬ ((yss.getD V2.toNat []).length : Int) < 20 := by assumption
              refine fin_lp ⟨((s4, a4), yss, i + 1), p4, hB.step, (by show ((i + 1 : Nat) : Int) ≤ n ∨ _; omega)⟩ ?_ (by dsimp only; omega)
              simp only [go_sem, Prod.eta, Option.isSome_none, Option.isSome_some, Int.toNat_zero, Nat.reduceAdd, Nat.reduceMul, Nat.reduceSub, Nat.reduceEqDiff, Nat.reduceLT, Nat.reduceLeDiff, Nat.reduceShiftRight, Nat.reduceMod, Nat.reduceBEq, reduceCtorEq, reduceIte, reduceDIte, Int.reduceNeg]
              try (first | rfl | exact ⟨rfl, rfl⟩ | (and_intros <;> first | trivial | rfl | omega))
              done)
           | (refine ⟨((xs.zip yss).map (fun q => setPcs q.1 q.2), ()), ((s, a), most, n, ()), ⟨h1, CtsR.mk' hI hk0 h3 hB hin⟩, rfl, rfl, putSls_ct _ _⟩)
           | fail))
end Go.Proofs.YtjhoidgpecgfoaaGreat

/- The generator of schedules. -/
set_option linter.unusedSimpArgs false
set_option linter.unusedVariables false
set_option maxRecDepth 100000
set_option maxHeartbeats 8000000
namespace Go.Proofs.YtjhoidgpecgfoaaGreat
open Go.Ev

/-- A departure out of numbers. -/
def depS (s : Src) (a : Int) : Dpt :=
 (fltsV a, portV s, goMod s.step.raw 40, goMod s.step.raw 40 + 1 + goMod s.step.step.step.raw 20, goMod s.step.raw 40 + 1 + goMod s.step.step.step.raw 20 + goMod s.step.step.step.step.raw 10, goMod s.step.step.raw 100, [0, 0, 0, 0, 1, 2].getD (goMod s.step.step.step.step.step.raw 6).toNat 0)
def schV : Nat → Src → Int → List Dpt → Src × List Dpt
 | 0, s, _, l => (s, l)
 | k + 1, s, a, l => if a ≥ 27 then (s, l) else if a + goMod s.raw 3 ≥ 27 then (s.step, l) else
     schV k s.step.step.step.step.step.step.step (a + goMod s.raw 3 + 1) (l ++ [depS s.step (a + goMod s.raw 3)])
theorem schV_pos : ∀ (k : Nat) (s : Src) (a : Int) (l : List Dpt), 0 ≤ s.2 → 0 ≤ (schV k s a l).1.2
 | 0, s, _, _, h => h
 | k + 1, s, a, l, h => by
   unfold schV
   split
   · exact h
   · split
     · exact step_pos h
     · exact schV_pos k _ _ _ (step_pos (step_pos (step_pos (step_pos (step_pos (step_pos (step_pos h)))))))
def schR (s : Src) (most : Int) : Src × List Dpt := schV (goMod s.raw (most + 1)).toNat s.step 0 []
def con18 : Con := { ps := [.p 103 ySR, .d false (.int .i64)], rs := [.d false (.sl yDP)], pre := fun (x : Src × Int × Unit) => 0 ≤ x.1.2 ∧ 0 ≤ x.2.1 ∧ x.2.1 ≤ 1000, out := fun (x : Src × Int × Unit) => ((schR x.1 x.2.1).2, ()), nw := fun (x : Src × Int × Unit) => ((schR x.1 x.2.1).1, x.2) }
theorem c18 : CtrOk Tryz.prog 18 con18.ctr :=
 con_sound (G := ⟨[(11, con11.ctr), (59, con59.ctr), (13, con13.ctr)], [], [], []⟩) tab_ok (EnvOk.cons c11 has11 (EnvOk.cons c59 has59 (EnvOk.cons c13 has13 EnvOk.nil))) rfl Tryz.func18 rfl con18 269485043 (by kernel_rfl) (by decide) (by decide) rfl (by decide) rfl (by
  rintro ⟨⟨(s : List Int), (a : Int)⟩, (most : Int), _⟩ hpre hwf X hT hG hk hK
  obtain ⟨h1, h2, h3⟩ : 0 ≤ a ∧ 0 ≤ most ∧ most ≤ 1000 := hpre
  obtain ⟨RS, hRS⟩ : ∃ R, schR (s, a) most = R := ⟨_, rfl⟩
  (simp -implicitDefEqProofs only [go_sem, Prod.eta, Option.isSome_none, Option.isSome_some, Int.toNat_zero, Nat.reduceAdd, Nat.reduceMul, Nat.reduceSub, Nat.reduceEqDiff, Nat.reduceLT, Nat.reduceLeDiff, Nat.reduceShiftRight, Nat.reduceMod, Nat.reduceBEq, reduceCtorEq, reduceIte, reduceDIte, Int.reduceNeg, Bool.not_eq_true', Bool.not_eq_false', Bool.or_eq_true, Bool.or_eq_false_iff, Bool.and_eq_true, Bool.and_eq_false_iff, decide_eq_true_eq, decide_eq_false_iff_not, Classical.not_not, not_or, maxLen, con18, con11, con59, con13, hT, hG, hk, hK, Tryz.results18] at hwf ⊢); (try simp (disch := decide +kernel) only [drawn, true_and, and_true])
  have hRS2 := hRS
  unfold schR at hRS2
  have hs1 : 0 ≤ (Src.step (s, a)).snd := step_pos h1
  have hkb := goMod_bd (Src.raw (s, a)) (most + 1) (by omega)
  generalize goMod (Src.raw (s, a)) (most + 1) = K at hkb hRS2 ⊢
  generalize Src.step (s, a) = S1 at hs1 hRS2 ⊢
  obtain ⟨s1, a1⟩ := S1
  (repeat' (with_reducible (first | refine And.intro ?_ ?_ | intro _))) <;> (try (first | with_reducible (first | done | assumption | omega | contradiction) | decide))
  refine evk_loop ⟨{ q : Src × Int × List Dpt × Nat // 0 ≤ q.1.2 ∧ 0 ≤ q.2.1 ∧ q.2.1 ≤ 27 ∧ q.2.2.1.length ≤ q.2.2.2 ∧ q.2.2.2 ≤ K.toNat ∧ schV (K.toNat - q.2.2.2) q.1 q.2.1 q.2.2.1 = RS }, 1000, fun q => [(0, .one (.loc 0 0)), (5, .one (.int .i64 K)), (6, .one (.row 64)), (7, .one (.int .i64 q.1.2.1)), (8, .one (.int .i64 q.1.2.2.2))],
   fun q => [(0, .cells 103 [.sl (.int .i64) q.1.1.1 false, .int .i64 q.1.1.2]), (64, .row 57 yDP q.1.2.2.1)], fun q => K.toNat - q.1.2.2.2⟩ ⟨((s1, a1), 0, [], 0), hs1, Int.le_refl _, (by show (0 : Int) ≤ 27; decide), Nat.le_refl _, Nat.zero_le _, hRS2⟩ ?_ ?_
  · simp only [go_sem, Prod.eta, Option.isSome_none, Option.isSome_some, Int.toNat_zero, Nat.reduceAdd, Nat.reduceMul, Nat.reduceSub, Nat.reduceEqDiff, Nat.reduceLT, Nat.reduceLeDiff, Nat.reduceShiftRight, Nat.reduceMod, Nat.reduceBEq, reduceCtorEq, reduceIte, reduceDIte, Int.reduceNeg]
    try (first | rfl | exact ⟨rfl, rfl⟩ | (and_intros <;> first | trivial | rfl | omega))
  · rintro ⟨⟨⟨s, a⟩, t, l, i⟩, (h1 : 0 ≤ a), (ht0 : 0 ≤ t), (ht : t ≤ 27), (hl : l.length ≤ i), (hi : i ≤ K.toNat), (hR : schV (K.toNat - i) (s, a) t l = RS)⟩
    (simp -implicitDefEqProofs only [go_sem, Prod.eta, Option.isSome_none, Option.isSome_some, Int.toNat_zero, Nat.reduceAdd, Nat.reduceMul, Nat.reduceSub, Nat.reduceEqDiff, Nat.reduceLT, Nat.reduceLeDiff, Nat.reduceShiftRight, Nat.reduceMod, Nat.reduceBEq, reduceCtorEq, reduceIte, reduceDIte, Int.reduceNeg, Bool.not_eq_true', Bool.not_eq_false', Bool.or_eq_true, Bool.or_eq_false_iff, Bool.and_eq_true, Bool.and_eq_false_iff, decide_eq_true_eq, decide_eq_false_iff_not, Classical.not_not, not_or, maxLen, con18, con11, con59, con13, hT, hG, hk, hK, Tryz.results18]); (try simp (disch := decide +kernel) only [drawn, true_and, and_true])
    have p1 : 0 ≤ (Src.step (s, a)).snd := step_pos h1
    have p2 : 0 ≤ (Src.step (s, a)).step.snd := step_pos p1
    have p3 : 0 ≤ (Src.step (s, a)).step.step.snd := step_pos p2
    have p4 : 0 ≤ (Src.step (s, a)).step.step.step.snd := step_pos p3
    have p5 : 0 ≤ (Src.step (s, a)).step.step.step.step.snd := step_pos p4
    have p6 : 0 ≤ (Src.step (s, a)).step.step.step.step.step.snd := step_pos p5
    have p7 : 0 ≤ (Src.step (s, a)).step.step.step.step.step.step.snd := step_pos p6
    have r1 := goMod_bd (Src.raw (s, a)) 3 (by omega)
    have r2 := goMod_bd (Src.step (s, a)).step.raw 40 (by omega)
    have r3 := goMod_bd (Src.step (s, a)).step.step.raw 100 (by omega)
    have r4 := goMod_bd (Src.step (s, a)).step.step.step.raw 20 (by omega)
    have r5 := goMod_bd (Src.step (s, a)).step.step.step.step.raw 10 (by omega)
    have r6 := goMod_bd (Src.step (s, a)).step.step.step.step.step.raw 6 (by omega)
    have hst : i < K.toNat → t < 27 → RS = if t + goMod (Src.raw (s, a)) 3 ≥ 27 then (Src.step (s, a), l) else schV (K.toNat - (i + 1)) (Src.step (s, a)).step.step.step.step.step.step (t + goMod (Src.raw (s, a)) 3 + 1) (l ++ [depS (Src.step (s, a)) (t + goMod (Src.raw (s, a)) 3)]) := fun hlt h27 => by
     rw [← hR, show K.toNat - i = (K.toNat - (i + 1)) + 1 by omega, schV, if_neg (by omega)]
    have hen : K.toNat ≤ i ∨ 27 ≤ t → RS = ((s, a), l) := fun h => by
     rw [← hR]
     rcases h with h | h
     · rw [show K.toNat - i = 0 by omega, schV]
     · cases hq : K.toNat - i with
       | zero => rw [schV]
       | succ m => rw [schV, if_pos h]
    (repeat' (with_reducible (first | refine And.intro ?_ ?_ | intro _))) <;> (try (first | with_reducible (first | done | assumption | omega | contradiction) | decide))
    all_goals first
     | (rw [hRS, hst (by omega) (by omega), if_pos (by omega)]; done)
     | (rw [hRS, hen (by omega)]; done)
     | (refine fin_lp ⟨((Src.step (s, a)).step.step.step.step.step.step, t + goMod (Src.raw (s, a)) 3 + 1, l ++ [depS (Src.step (s, a)) (t + goMod (Src.raw (s, a)) 3)], i + 1), p7, (by show 0 ≤ t + goMod (Src.raw (s, a)) 3 + 1; omega), (by show t + goMod (Src.raw (s, a)) 3 + 1 ≤ 27; omega), (by rw [List.length_append, List.length_singleton]; show l.length + 1 ≤ i + 1; omega), (by show i + 1 ≤ K.toNat; omega), ((hst (by omega) (by omega)).trans (if_neg (by omega))).symm⟩ ?_ (by dsimp only; omega)
        simp only [go_sem, Prod.eta, Option.isSome_none, Option.isSome_some, Int.toNat_zero, Nat.reduceAdd, Nat.reduceMul, Nat.reduceSub, Nat.reduceEqDiff, Nat.reduceLT, Nat.reduceLeDiff, Nat.reduceShiftRight, Nat.reduceMod, Nat.reduceBEq, reduceCtorEq, reduceIte, reduceDIte, Int.reduceNeg]
        try (first | rfl | exact ⟨rfl, rfl⟩ | (and_intros <;> first | trivial | rfl | omega))
        done)
     | fail)
end Go.Proofs.YtjhoidgpecgfoaaGreat

/- The contract of DepartureBars. -/
set_option linter.unusedSimpArgs false
set_option linter.unusedVariables false
set_option maxRecDepth 100000
set_option maxHeartbeats 8000000
namespace Go.Proofs.YtjhoidgpecgfoaaGreat
open Go.Ev

theorem trail_len (l : List Opn) : (trail l).length ≤ l.length := by
 unfold trail
 rw [List.length_map]
 refine Nat.le_trans (List.takeWhile_sublist _).length_le ?_
 rw [List.length_reverse]; exact Nat.le_refl _
theorem placesV_may {l : List Opn} {z : Plc} (h : z ∈ placesV l) : z.2.2.length ≤ l.length := by
 unfold placesV at h
 split at h
 · cases h
 · obtain ⟨p, _, rfl⟩ := List.mem_map.1 h
   unfold placeV
   refine Nat.le_trans (compV_le _) ?_
   rw [sortI_len]
   exact Nat.le_trans (trail_len _) (about_len l p)
theorem dz (n : Nat) : decide (n = 0) = decide ((n : Int) = 0) := by rw [decide_eq_decide]; omega
def con3 : Con := { ps := [.d false (.sl yDP), .d true yFL, .d false (.int .i64), .d false (.sl yHH), .d false (.sl yCT), .d false (.sl yPM), .d false (.sl yRU), .d false (.sl (.int .i64))], rs := [.d false .bool], pre := fun _ => True, out := fun x => (true, ()), nw := id }
theorem c3 : CtrOk Tryz.prog 3 con3.ctr :=
 con_sound (G := ⟨[(6, con6.ctr), (7, con7.ctr), (11, con11.ctr), (12, con12.ctr), (13, con13.ctr), (14, con14.ctr), (15, con15.ctr), (16, con16.ctr), (17, con17.ctr), (18, con18.ctr), (19, con19.ctr), (20, con20.ctr), (21, con21.ctr), (22, con22.ctr), (23, con23.ctr)], [(8, con8.rctr), (9, con9.rctr), (10, con10.rctr)], [], []⟩) tab_ok (EnvOk.cons c6 has6 (EnvOk.cons c7 has7 (EnvOk.cons c11 has11 (EnvOk.cons c12 has12 (EnvOk.cons c13 has13 (EnvOk.cons c14 has14 (EnvOk.cons c15 has15 (EnvOk.cons c16 has16 (EnvOk.cons c17 has17 (EnvOk.cons c18 has18 (EnvOk.cons c19 has19 (EnvOk.cons c20 has20 (EnvOk.cons c21 has21 (EnvOk.cons c22 has22 (EnvOk.cons c23 has23 (EnvOk.rcons c8 has8 (EnvOk.rcons c9 has9 (EnvOk.rcons c10 has10 EnvOk.nil)))))))))))))))))) rfl Tryz.func3 rfl con3 6129982528838964766168934382945152110822142444614648575 (by kernel_rfl) (by decide) (by decide) rfl (by decide) rfl (by
  rintro ⟨(l : List Dpt), ⟨f1, (f2 : Int), f3, (f4 : Int)⟩, (now : Int), (h : List Hhd), (c : List Cnt), (p : List Plm), (r : List Rlg), (src : List Int), _⟩ hpre hwf X hT hG hk hK
  (simp -implicitDefEqProofs only [go_sem, Prod.eta, Option.isSome_none, Option.isSome_some, Int.toNat_zero, Nat.reduceAdd, Nat.reduceMul, Nat.reduceSub, Nat.reduceEqDiff, Nat.reduceLT, Nat.reduceLeDiff, Nat.reduceShiftRight, Nat.reduceMod, Nat.reduceBEq, reduceCtorEq, reduceIte, reduceDIte, Int.reduceNeg, Bool.not_eq_true', Bool.not_eq_false', Bool.or_eq_true, Bool.or_eq_false_iff, Bool.and_eq_true, Bool.and_eq_false_iff, decide_eq_true_eq, decide_eq_false_iff_not, Classical.not_not, not_or, maxLen, con3, con6, con7, con11, con12, con13, con14, con15, con16, con17, con18, con19, con20, con21, con22, con23, con8, con9, con10, hT, hG, hk, hK, Tryz.results3] at hwf ⊢); (try simp (disch := decide +kernel) only [drawn, true_and, and_true])
  clear hwf
  refine fun _ hs _ => ⟨by decide, ?_⟩
  rintro ⟨⟨(many : List Cnt), _⟩, ⟨⟨(s1 : List Int), (a1 : Int)⟩, _⟩⟩ hy1
  refine ⟨⟨hy1.1.1, by decide⟩, ?_⟩
  rintro ⟨⟨(ops : List Opn), _⟩, ⟨⟨(s2 : List Int), (a2 : Int)⟩, _⟩⟩ hy2
  refine ⟨⟨hy2.1.1, by decide⟩, ?_⟩
  rintro ⟨⟨(good : List Rlg), _⟩, ⟨⟨(s3 : List Int), (a3 : Int)⟩, _⟩⟩ hy3
  obtain ⟨⟨-, hmany⟩, -⟩ := hy1
  obtain ⟨⟨-, hops⟩, -⟩ := hy2
  obtain ⟨⟨h3, hgood⟩, -⟩ := hy3
  have h3 : 0 ≤ a3 := h3
  have hmany : CtsR 8 12 many := hmany
  have hops : OpsR 8 ops := hops
  obtain ⟨q1, q2, q3, q4, q5⟩ := smallD_of hs.1
  have hS1 : ∀ i, i < 2 → ([c, many].getD i []).length ≤ 1000 ∧ ∀ o ∈ [c, many].getD i [], o.pcs.length ≤ 1000 := fun i hi => by
   rcases (by omega : i = 0 ∨ i = 1) with rfl | rfl
   · exact ⟨by show c.length ≤ 1000; omega, fun o ho => by have := q2.1 o ho; omega⟩
   · exact ⟨by have := hmany.ok.len; show many.length ≤ 1000; omega, fun o ho => by have := (hmany.ok.ok o ho).2.1; omega⟩
  have hS2 : ∀ i, i < 3 → ([p, placesV ops, []].getD i []).length ≤ 1000 ∧ ∀ y ∈ [p, placesV ops, []].getD i [], y.2.2.length ≤ 1000 := fun i hi => by
   rcases (by omega : i = 0 ∨ i = 1 ∨ i = 2) with rfl | rfl | rfl
   · exact ⟨by show p.length ≤ 1000; omega, fun o ho => by have := q1 o ho; omega⟩
   · exact ⟨by have := placesV_len ops; show (placesV ops).length ≤ 1000; omega, fun o ho => by have := placesV_may ho; have := hops.len; omega⟩
   · exact ⟨by simp, fun o ho => by cases ho⟩
  refine evk_loop ⟨{ q : Src × List Hhd × Nat // 0 ≤ q.1.2 ∧ q.2.1.length ≤ q.2.2 ∧ q.2.2 ≤ 6 }, 1000, fun q => [(0, .one (.sl yDP l false)), (2, .one (.int .i64 now)), (3, .one (.sl yHH h false)), (4, .one (.sl yCT c false)), (5, .one (.sl yPM p false)), (6, .one (.sl yRU r false)), (9, .one (.loc 70 0)), (17, .one (.loc 72 0)), (18, .one (.sl yCT many false)), (19, .one (.sl yOP ops false)), (20, .one (.sl yRU good false)), (21, .one (.row 73)), (22, .one (.int .i64 (q.1.2.2 + 1)))],
   fun q => [(70, .cells 24 [.str f1, .int .i64 f2, .str f3, .int .i64 f4]), (72, .cells 103 [.sl (.int .i64) q.1.1.1 false, .int .i64 q.1.1.2]), (73, .row 40 yHH q.1.2.1)], fun q => 6 - q.1.2.2⟩ ⟨((s3, a3), [], 0), h3, Nat.le_refl _, Nat.zero_le _⟩ ?_ ?_
  · simp only [go_sem, Prod.eta, Option.isSome_none, Option.isSome_some, Int.toNat_zero, Nat.reduceAdd, Nat.reduceMul, Nat.reduceSub, Nat.reduceEqDiff, Nat.reduceLT, Nat.reduceLeDiff, Nat.reduceShiftRight, Nat.reduceMod, Nat.reduceBEq, reduceCtorEq, reduceIte, reduceDIte, Int.reduceNeg]
    try (first | rfl | exact ⟨rfl, rfl⟩ | (and_intros <;> first | trivial | rfl | omega))
  · rintro ⟨⟨⟨s, a⟩, dv, i⟩, (h1 : 0 ≤ a), (hdl : dv.length ≤ i), (hi : i ≤ 6)⟩
    (simp -implicitDefEqProofs only [go_sem, Prod.eta, Option.isSome_none, Option.isSome_some, Int.toNat_zero, Nat.reduceAdd, Nat.reduceMul, Nat.reduceSub, Nat.reduceEqDiff, Nat.reduceLT, Nat.reduceLeDiff, Nat.reduceShiftRight, Nat.reduceMod, Nat.reduceBEq, reduceCtorEq, reduceIte, reduceDIte, Int.reduceNeg, Bool.not_eq_true', Bool.not_eq_false', Bool.or_eq_true, Bool.or_eq_false_iff, Bool.and_eq_true, Bool.and_eq_false_iff, decide_eq_true_eq, decide_eq_false_iff_not, Classical.not_not, not_or, maxLen, con3, con6, con7, con11, con12, con13, con14, con15, con16, con17, con18, con19, con20, con21, con22, con23, con8, con9, con10, hT, hG, hk, hK, Tryz.results3]); (try simp (disch := decide +kernel) only [drawn, true_and, and_true])
    have p1 : 0 ≤ (Src.step (s, a)).snd := step_pos h1
    have p2 : 0 ≤ (Src.step (s, a)).step.snd := step_pos p1
    have r1 := goMod_bd (Src.raw (s, a)) 7 (by omega)
    have r2 := goMod_bd (Src.step (s, a)).raw 3 (by omega)
    generalize hS3 : (Src.step (s, a)).step = S3 at p2 ⊢
    generalize hS2' : Src.step (s, a) = S2 at p1 r2 hS3 ⊢
    obtain ⟨s2', a2'⟩ := S2
    obtain ⟨s3', a3'⟩ := S3
    (repeat' (with_reducible (first | refine And.intro ?_ ?_ | intro _))) <;> (try (first | with_reducible (first | done | assumption | omega | contradiction) | decide))
    all_goals first
     | (refine fin_lp ⟨((s3', a3'), dv ++ [((i : Int) + 1, 1, 0, decide (goMod (Src.raw (s2', a2')) 3 = 2), [], [], [])], i + 1), p2, (by rw [List.length_append, List.length_singleton]; show dv.length + 1 ≤ i + 1; omega), (by show i + 1 ≤ 6; omega)⟩ ?_ (by dsimp only; omega)
        simp only [go_sem, Prod.eta, Option.isSome_none, Option.isSome_some, Int.toNat_zero, Nat.reduceAdd, Nat.reduceMul, Nat.reduceSub, Nat.reduceEqDiff, Nat.reduceLT, Nat.reduceLeDiff, Nat.reduceShiftRight, Nat.reduceMod, Nat.reduceBEq, reduceCtorEq, reduceIte, reduceDIte, Int.reduceNeg]
        try (first | rfl | exact ⟨rfl, rfl⟩ | (and_intros <;> first | trivial | rfl | omega))
        done)
     | (obtain ⟨t, ht⟩ : ∃ t, goMod (Src.raw (s2', a2')) 80 = t := ⟨_, rfl⟩
        rw [ht]
        have p2 : 0 ≤ a3' := p2
        refine evk_loop ⟨{ q : Src × Nat // 0 ≤ q.1.2 ∧ q.2 ≤ 2 }, 1000, fun q => [(0, .one (.sl yDP l false)), (2, .one (.int .i64 now)), (3, .one (.sl yHH h false)), (6, .one (.sl yRU r false)), (9, .one (.loc 70 0)), (17, .one (.loc 72 0)), (20, .one (.sl yRU good false)), (21, .one (.sl yHH dv false)), (23, .one (.int .i64 t)), (5, .one (.sl yPM p false)), (19, .one (.sl yOP ops false)), (72, .one (.sl (.sl yCT) [c, many] false)), (73, .one (.int .i64 2)), (74, .one (.int .i64 q.1.2))], fun q => [(70, .cells 24 [.str f1, .int .i64 f2, .str f3, .int .i64 f4]), (72, .cells 103 [.sl (.int .i64) q.1.1.1 false, .int .i64 q.1.1.2])], fun q => 2 - q.1.2⟩ ⟨((s3', a3'), 0), (by show 0 ≤ _; assumption), Nat.zero_le _⟩ ?_ ?_
        · simp only [go_sem, Prod.eta, Option.isSome_none, Option.isSome_some, Int.toNat_zero, Nat.reduceAdd, Nat.reduceMul, Nat.reduceSub, Nat.reduceEqDiff, Nat.reduceLT, Nat.reduceLeDiff, Nat.reduceShiftRight, Nat.reduceMod, Nat.reduceBEq, reduceCtorEq, reduceIte, reduceDIte, Int.reduceNeg]
          try (first | rfl | exact ⟨rfl, rfl⟩ | (and_intros <;> first | trivial | rfl | omega))
        · rintro ⟨⟨⟨s, a⟩, i1⟩, (h1 : 0 ≤ a), (hi1 : i1 ≤ 2)⟩
          (simp -implicitDefEqProofs only [go_sem, Prod.eta, Option.isSome_none, Option.isSome_some, Int.toNat_zero, Nat.reduceAdd, Nat.reduceMul, Nat.reduceSub, Nat.reduceEqDiff, Nat.reduceLT, Nat.reduceLeDiff, Nat.reduceShiftRight, Nat.reduceMod, Nat.reduceBEq, reduceCtorEq, reduceIte, reduceDIte, Int.reduceNeg, Bool.not_eq_true', Bool.not_eq_false', Bool.or_eq_true, Bool.or_eq_false_iff, Bool.and_eq_true, Bool.and_eq_false_iff, decide_eq_true_eq, decide_eq_false_iff_not, Classical.not_not, not_or, maxLen, con3, con6, con7, con11, con12, con13, con14, con15, con16, con17, con18, con19, con20, con21, con22, con23, con8, con9, con10, hT, hG, hk, hK, Tryz.results3]); (try simp (disch := decide +kernel) only [drawn, true_and, and_true])
          obtain ⟨x, hx⟩ : ∃ x, [c, many].getD i1 [] = x := ⟨_, rfl⟩
          have ex : [c, many].getD (i1 : Int).toNat [] = x := hx
          try simp only [ex]
          (repeat' (with_reducible (first | refine And.intro ?_ ?_ | intro _))) <;> (try (first | with_reducible (first | done | assumption | omega | contradiction) | decide))
          all_goals first
           | (have hX := hS1 i1 (by omega)
              rw [hx] at hX
              refine evk_loop ⟨{ q : Src × Nat // 0 ≤ q.1.2 ∧ q.2 ≤ 3 }, 1000, fun q => [(0, .one (.sl yDP l false)), (2, .one (.int .i64 now)), (3, .one (.sl yHH h false)), (6, .one (.sl yRU r false)), (9, .one (.loc 70 0)), (17, .one (.loc 72 0)), (20, .one (.sl yRU good false)), (21, .one (.sl yHH dv false)), (23, .one (.int .i64 t)), (5, .one (.sl yPM p false)), (19, .one (.sl yOP ops false)), (72, .one (.sl (.sl yCT) [c, many] false)), (73, .one (.int .i64 2)), (74, .one (.int .i64 i1)), (25, .one (.sl yCT x false)), (81, .one (.sl (.sl yPM) [p, placesV ops, []] false)), (82, .one (.int .i64 3)), (83, .one (.int .i64 q.1.2))], fun q => [(70, .cells 24 [.str f1, .int .i64 f2, .str f3, .int .i64 f4]), (72, .cells 103 [.sl (.int .i64) q.1.1.1 false, .int .i64 q.1.1.2])], fun q => 3 - q.1.2⟩ ⟨((s, a), 0), (by show 0 ≤ _; assumption), Nat.zero_le _⟩ ?_ ?_
              · simp only [go_sem, Prod.eta, Option.isSome_none, Option.isSome_some, Int.toNat_zero, Nat.reduceAdd, Nat.reduceMul, Nat.reduceSub, Nat.reduceEqDiff, Nat.reduceLT, Nat.reduceLeDiff, Nat.reduceShiftRight, Nat.reduceMod, Nat.reduceBEq, reduceCtorEq, reduceIte, reduceDIte, Int.reduceNeg]
                try (first | rfl | exact ⟨rfl, rfl⟩ | (and_intros <;> first | trivial | rfl | omega))
              · rintro ⟨⟨⟨s, a⟩, i2⟩, (h1 : 0 ≤ a), (hi2 : i2 ≤ 3)⟩
                (simp -implicitDefEqProofs only [go_sem, Prod.eta, Option.isSome_none, Option.isSome_some, Int.toNat_zero, Nat.reduceAdd, Nat.reduceMul, Nat.reduceSub, Nat.reduceEqDiff, Nat.reduceLT, Nat.reduceLeDiff, Nat.reduceShiftRight, Nat.reduceMod, Nat.reduceBEq, reduceCtorEq, reduceIte, reduceDIte, Int.reduceNeg, Bool.not_eq_true', Bool.not_eq_false', Bool.or_eq_true, Bool.or_eq_false_iff, Bool.and_eq_true, Bool.and_eq_false_iff, decide_eq_true_eq, decide_eq_false_iff_not, Classical.not_not, not_or, maxLen, con3, con6, con7, con11, con12, con13, con14, con15, con16, con17, con18, con19, con20, con21, con22, con23, con8, con9, con10, hT, hG, hk, hK, Tryz.results3]); (try simp (disch := decide +kernel) only [drawn, true_and, and_true])
                obtain ⟨y, hy⟩ : ∃ y, [p, placesV ops, []].getD i2 [] = y := ⟨_, rfl⟩
                have ey : [p, placesV ops, []].getD (i2 : Int).toNat [] = y := hy
                try simp only [ey]
                have p1 : 0 ≤ (Src.step (s, a)).snd := step_pos h1
                have r1 := goMod_bd (Src.raw (s, a)) 3 (by omega)
                generalize hSq : Src.step (s, a) = S2 at p1 ⊢
                obtain ⟨s2'', a2''⟩ := S2
                have p1 : 0 ≤ a2'' := p1
                generalize goMod (Src.raw (s, a)) 3 = j at r1 ⊢
                (repeat' (with_reducible (first | refine And.intro ?_ ?_ | intro _))) <;> (try (first | with_reducible (first | done | assumption | omega | contradiction) | decide))
                all_goals first
                 | (have hY := hS2 i2 (by omega)
                    rw [hy] at hY
                    have hXY : SmC x y := ⟨hX.1, hX.2, hY.1, hY.2⟩
                    refine evk_loop ⟨{ q : Src × Nat // 0 ≤ q.1.2 ∧ q.2 ≤ 2 }, 1000, fun q => [(0, .one (.sl yDP l false)), (2, .one (.int .i64 now)), (3, .one (.sl yHH h false)), (6, .one (.sl yRU r false)), (9, .one (.loc 70 0)), (17, .one (.loc 72 0)), (20, .one (.sl yRU good false)), (21, .one (.sl yHH dv false)), (23, .one (.int .i64 t)), (5, .one (.sl yPM p false)), (19, .one (.sl yOP ops false)), (72, .one (.sl (.sl yCT) [c, many] false)), (73, .one (.int .i64 2)), (74, .one (.int .i64 i1)), (25, .one (.sl yCT x false)), (81, .one (.sl (.sl yPM) [p, placesV ops, []] false)), (82, .one (.int .i64 3)), (83, .one (.int .i64 i2)), (27, .one (.sl yPM y false)), (91, .one (.sl yFL [(f1, f2, f3, f4), fltsV j] false)), (92, .one (.int .i64 2)), (93, .one (.int .i64 q.1.2))], fun q => [(70, .cells 24 [.str f1, .int .i64 f2, .str f3, .int .i64 f4]), (72, .cells 103 [.sl (.int .i64) q.1.1.1 false, .int .i64 q.1.1.2])], fun q => 2 - q.1.2⟩ ⟨((s2'', a2''), 0), (by show 0 ≤ _; assumption), Nat.zero_le _⟩ ?_ ?_
                    · simp only [go_sem, Prod.eta, Option.isSome_none, Option.isSome_some, Int.toNat_zero, Nat.reduceAdd, Nat.reduceMul, Nat.reduceSub, Nat.reduceEqDiff, Nat.reduceLT, Nat.reduceLeDiff, Nat.reduceShiftRight, Nat.reduceMod, Nat.reduceBEq, reduceCtorEq, reduceIte, reduceDIte, Int.reduceNeg]
                      try (first | rfl | exact ⟨rfl, rfl⟩ | (and_intros <;> first | trivial | rfl | omega))
                    · rintro ⟨⟨⟨s, a⟩, i3⟩, (h1 : 0 ≤ a), (hi3 : i3 ≤ 2)⟩
                      (simp -implicitDefEqProofs only [go_sem, Prod.eta, Option.isSome_none, Option.isSome_some, Int.toNat_zero, Nat.reduceAdd, Nat.reduceMul, Nat.reduceSub, Nat.reduceEqDiff, Nat.reduceLT, Nat.reduceLeDiff, Nat.reduceShiftRight, Nat.reduceMod, Nat.reduceBEq, reduceCtorEq, reduceIte, reduceDIte, Int.reduceNeg, Bool.not_eq_true', Bool.not_eq_false', Bool.or_eq_true, Bool.or_eq_false_iff, Bool.and_eq_true, Bool.and_eq_false_iff, decide_eq_true_eq, decide_eq_false_iff_not, Classical.not_not, not_or, maxLen, con3, con6, con7, con11, con12, con13, con14, con15, con16, con17, con18, con19, con20, con21, con22, con23, con8, con9, con10, hT, hG, hk, hK, Tryz.results3]); (try simp (disch := decide +kernel) only [drawn, true_and, and_true])
                      obtain ⟨g, hg⟩ : ∃ g, [(f1, f2, f3, f4), fltsV j].getD i3 (ByteArray.empty, 0, ByteArray.empty, 0) = g := ⟨_, rfl⟩
                      have eg : [(f1, f2, f3, f4), fltsV j].getD (i3 : Int).toNat (ByteArray.empty, 0, ByteArray.empty, 0) = g := hg
                      try simp only [eg]
                      (repeat' (with_reducible (first | refine And.intro ?_ ?_ | intro _))) <;> (try (first | with_reducible (first | done | assumption | omega | contradiction) | decide))
                      all_goals first
                       | exact hXY
                       | (refine evk_loop ⟨{ q : Src × Nat // 0 ≤ q.1.2 ∧ q.2 ≤ 2 }, 1000, fun q => [(0, .one (.sl yDP l false)), (2, .one (.int .i64 now)), (3, .one (.sl yHH h false)), (6, .one (.sl yRU r false)), (9, .one (.loc 70 0)), (17, .one (.loc 72 0)), (20, .one (.sl yRU good false)), (21, .one (.sl yHH dv false)), (23, .one (.int .i64 t)), (5, .one (.sl yPM p false)), (19, .one (.sl yOP ops false)), (72, .one (.sl (.sl yCT) [c, many] false)), (73, .one (.int .i64 2)), (74, .one (.int .i64 i1)), (25, .one (.sl yCT x false)), (81, .one (.sl (.sl yPM) [p, placesV ops, []] false)), (82, .one (.int .i64 3)), (83, .one (.int .i64 i2)), (27, .one (.sl yPM y false)), (91, .one (.sl yFL [(f1, f2, f3, f4), fltsV j] false)), (92, .one (.int .i64 2)), (93, .one (.int .i64 i3)), (29, .one (.loc 77 0)), (109, .one (.sl (.sl yRU) [r, good] false)), (110, .one (.int .i64 2)), (111, .one (.int .i64 q.1.2))], fun q => [(70, .cells 24 [.str f1, .int .i64 f2, .str f3, .int .i64 f4]), (72, .cells 103 [.sl (.int .i64) q.1.1.1 false, .int .i64 q.1.1.2]), (77, .cells 24 [.str g.1, .int .i64 g.2.1, .str g.2.2.1, .int .i64 g.2.2.2])], fun q => 2 - q.1.2⟩ ⟨((s, a), 0), (by show 0 ≤ _; assumption), Nat.zero_le _⟩ ?_ ?_
                          · simp only [go_sem, Prod.eta, Option.isSome_none, Option.isSome_some, Int.toNat_zero, Nat.reduceAdd, Nat.reduceMul, Nat.reduceSub, Nat.reduceEqDiff, Nat.reduceLT, Nat.reduceLeDiff, Nat.reduceShiftRight, Nat.reduceMod, Nat.reduceBEq, reduceCtorEq, reduceIte, reduceDIte, Int.reduceNeg]
                            try (first | rfl | exact ⟨rfl, rfl⟩ | (and_intros <;> first | trivial | rfl | omega))
                          · rintro ⟨⟨⟨s, a⟩, i4⟩, (h1 : 0 ≤ a), (hi4 : i4 ≤ 2)⟩
                            (simp -implicitDefEqProofs only [go_sem, Prod.eta, Option.isSome_none, Option.isSome_some, Int.toNat_zero, Nat.reduceAdd, Nat.reduceMul, Nat.reduceSub, Nat.reduceEqDiff, Nat.reduceLT, Nat.reduceLeDiff, Nat.reduceShiftRight, Nat.reduceMod, Nat.reduceBEq, reduceCtorEq, reduceIte, reduceDIte, Int.reduceNeg, Bool.not_eq_true', Bool.not_eq_false', Bool.or_eq_true, Bool.or_eq_false_iff, Bool.and_eq_true, Bool.and_eq_false_iff, decide_eq_true_eq, decide_eq_false_iff_not, Classical.not_not, not_or, maxLen, con3, con6, con7, con11, con12, con13, con14, con15, con16, con17, con18, con19, con20, con21, con22, con23, con8, con9, con10, hT, hG, hk, hK, Tryz.results3]); (try simp (disch := decide +kernel) only [drawn, true_and, and_true])
                            obtain ⟨z, hz⟩ : ∃ z, [r, good].getD i4 [] = z := ⟨_, rfl⟩
                            have ez : [r, good].getD (i4 : Int).toNat [] = z := hz
                            try simp only [ez]
                            have p1 := schV_pos (goMod (Src.raw (s, a)) (6 + 1)).toNat (Src.step (s, a)) 0 [] (step_pos h1)
                            have p1 : 0 ≤ (schR (s, a) 6).1.2 := p1
                            have r1 := goMod_bd (Src.raw (schR (s, a) 6).1) 3 (by omega)
                            have p2 : 0 ≤ (Src.step (schR (s, a) 6).1).2 := step_pos p1
                            generalize hSq : Src.step (schR (s, a) 6).1 = S2 at p2 ⊢
                            obtain ⟨s2'', a2''⟩ := S2
                            have p2 : 0 ≤ a2'' := p2
                            (repeat' (with_reducible (first | refine And.intro ?_ ?_ | intro _))) <;> (try (first | with_reducible (first | done | assumption | omega | contradiction) | decide))
                            all_goals first
                             | (rename_i hx; rcases hx with hx | hx <;> exact hx (dz _))
                             | (refine fin_lp ⟨((s2'', a2''), i4 + 1), p2, (by show i4 + 1 ≤ 2; omega)⟩ ?_ (by dsimp only; omega)
                                simp only [go_sem, Prod.eta, Option.isSome_none, Option.isSome_some, Int.toNat_zero, Nat.reduceAdd, Nat.reduceMul, Nat.reduceSub, Nat.reduceEqDiff, Nat.reduceLT, Nat.reduceLeDiff, Nat.reduceShiftRight, Nat.reduceMod, Nat.reduceBEq, reduceCtorEq, reduceIte, reduceDIte, Int.reduceNeg]
                                try (first | rfl | exact ⟨rfl, rfl⟩ | (and_intros <;> first | trivial | rfl | omega))
                                done)
                             | (refine fin_lp ⟨((s, a), i3 + 1), h1, (by show i3 + 1 ≤ 2; omega)⟩ ?_ (by dsimp only; omega)
                                simp only [go_sem, Prod.eta, Option.isSome_none, Option.isSome_some, Int.toNat_zero, Nat.reduceAdd, Nat.reduceMul, Nat.reduceSub, Nat.reduceEqDiff, Nat.reduceLT, Nat.reduceLeDiff, Nat.reduceShiftRight, Nat.reduceMod, Nat.reduceBEq, reduceCtorEq, reduceIte, reduceDIte, Int.reduceNeg]
                                try (first | rfl | exact ⟨rfl, rfl⟩ | (and_intros <;> first | trivial | rfl | omega))
                                done)
                             | fail)
                       | (refine fin_lp ⟨((s, a), i2 + 1), h1, (by show i2 + 1 ≤ 3; omega)⟩ ?_ (by dsimp only; omega)
                          simp only [go_sem, Prod.eta, Option.isSome_none, Option.isSome_some, Int.toNat_zero, Nat.reduceAdd, Nat.reduceMul, Nat.reduceSub, Nat.reduceEqDiff, Nat.reduceLT, Nat.reduceLeDiff, Nat.reduceShiftRight, Nat.reduceMod, Nat.reduceBEq, reduceCtorEq, reduceIte, reduceDIte, Int.reduceNeg]
                          try (first | rfl | exact ⟨rfl, rfl⟩ | (and_intros <;> first | trivial | rfl | omega))
                          done)
                       | fail)
                 | (refine fin_lp ⟨((s, a), i1 + 1), h1, (by show i1 + 1 ≤ 2; omega)⟩ ?_ (by dsimp only; omega)
                    simp only [go_sem, Prod.eta, Option.isSome_none, Option.isSome_some, Int.toNat_zero, Nat.reduceAdd, Nat.reduceMul, Nat.reduceSub, Nat.reduceEqDiff, Nat.reduceLT, Nat.reduceLeDiff, Nat.reduceShiftRight, Nat.reduceMod, Nat.reduceBEq, reduceCtorEq, reduceIte, reduceDIte, Int.reduceNeg]
                    try (first | rfl | exact ⟨rfl, rfl⟩ | (and_intros <;> first | trivial | rfl | omega))
                    done)
                 | fail)
           | fail)
     | fail)
end Go.Proofs.YtjhoidgpecgfoaaGreat
