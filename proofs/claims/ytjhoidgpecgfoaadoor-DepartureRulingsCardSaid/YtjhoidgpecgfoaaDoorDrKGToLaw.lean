/- The generator of containers. -/
import Derived.Test.YtjhoidgpecgfoaaDoorDrKBToRow
import Derived.Test.YtjhoidgpecgfoaaDoorEvLawToKR
import Derived.Test.YtjhoidgpecgfoaaDoorDrTab
import Derived.WalkKit
import Derived.ProofKit
set_option linter.unusedSimpArgs false
set_option linter.unusedVariables false
set_option maxRecDepth 100000
set_option maxHeartbeats 8000000
namespace Go.Proofs.YtjhoidgpecgfoaaDoor
open Go.Ev

attribute [local go_sem] List.set_cons_succ List.set_cons_zero List.getD_cons_succ List.getD_cons_zero List.set_nil
/-- What Containers gives. -/
structure CtsR (most n : Int) (l : List Cnt) : Prop where
 ok : CtsOk l
 len : (l.length : Int) ≤ most
 pl : ∀ c ∈ l, ∀ x ∈ c.pcs, ∃ j : Nat, (j : Int) < n ∧ x.1 = platesV j
 fl : ∀ c ∈ l, ∃ j : Nat, j < 3 ∧ c.flt = fltsV j
structure CtA (most k nm : Int) (xs : List Cnt) : Prop where
 len : (xs.length : Int) + k ≤ most
 n0 : 0 ≤ nm
 n1 : nm ≤ 2 * xs.length
 ok : ∀ c ∈ xs, propC c = true ∧ c.pcs = [] ∧ c.num ≤ nm ∧ ∃ j : Nat, j < 3 ∧ c.flt = fltsV j
 num : xs.Pairwise (fun a b => a.num < b.num)
 pos : ∀ i, i < xs.length → (xs.getD i ct0).pos = 0 ∨ (xs.getD i ct0).pos = i + 1
theorem CtA.push {most k nm : Int} {xs : List Cnt} (h : CtA most k nm xs) (hm : most ≤ 24) (hk : 0 < k) {v f c l m p r : Int} (hv : 1 ≤ v ∧ v ≤ 2) (hf : 0 ≤ f ∧ f < 3) (hc : 0 ≤ c ∧ c ≤ 31) (hl : 0 ≤ l ∧ l ≤ 20000) (hmo : 0 ≤ m ∧ m ≤ 60) (hp : p = 0 ∨ p = xs.length + 1) (hr : -50 ≤ r ∧ r ≤ 50) : CtA most (k - 1) (nm + v) (xs ++ [(nm + v, fltsV f, c, l, m, p, r, [])]) := by
 obtain ⟨il, in0, in1, iok, inum, ipos⟩ := h
 refine ⟨by simp; omega, by omega, by simp; omega, fun x hx => ?_, ?_, fun i hi => ?_⟩
 · rcases List.mem_append.1 hx with hx | hx
   · obtain ⟨h1, h2, h3, h4⟩ := iok x hx
     exact ⟨h1, h2, by omega, h4⟩
   · rw [List.mem_singleton.1 hx]
     refine ⟨?_, rfl, Int.le_refl _, f.toNat, by omega, by rw [show ((f.toNat : Nat) : Int) = f by omega]⟩
     unfold propC inV
     simp only [Cnt.num, Cnt.flt, Cnt.cats, Cnt.lim, Cnt.most, Cnt.pos, Cnt.arm, fltsV_ok, Bool.and_eq_true, decide_eq_true_eq, and_true]
     rcases hp with hp | hp <;> subst hp <;> omega
 · rw [List.pairwise_append]
   refine ⟨inum, List.pairwise_singleton _ _, fun x hx y hy => ?_⟩
   rw [List.mem_singleton.1 hy]
   have := (iok x hx).2.2.1
   show x.num < nm + v
   omega
 · by_cases e : i < xs.length
   · have := ipos i e
     rw [List.getD_eq_getElem?_getD, List.getElem?_append_left e, ← List.getD_eq_getElem?_getD]; exact this
   · have e : i = xs.length := by simp at hi; omega
     subst e
     rw [List.getD_eq_getElem?_getD, List.getElem?_append_right (Nat.le_refl _), Nat.sub_self]
     exact hp
structure CtB (i N : Nat) (yss : List (List Pce)) : Prop where
 len : yss.length = N
 c20 : ∀ p ∈ yss, p.length ≤ 20
 ok : ∀ p ∈ yss, PcsOk p
 pl : ∀ p ∈ yss, ∀ x ∈ p, ∃ j : Nat, j < i ∧ x.1 = platesV j
 ap : yss.Pairwise (fun a b => ∀ x ∈ a, ∀ y ∈ b, x.1 ≠ y.1)
theorem CtB.nil (N : Nat) : CtB 0 N (List.replicate N []) := by
 refine ⟨by simp, fun p hp => ?_, fun p hp => ?_, fun p hp => ?_, ?_⟩
 · rw [List.eq_of_mem_replicate hp]; simp
 · rw [List.eq_of_mem_replicate hp]; exact ⟨fun _ h => (by cases h), .nil⟩
 · rw [List.eq_of_mem_replicate hp]; intro x hx; cases hx
 · rw [List.pairwise_replicate]; right; intro x hx; cases hx
theorem CtB.step {i N : Nat} {yss : List (List Pce)} (h : CtB i N yss) : CtB (i + 1) N yss :=
 ⟨h.len, h.c20, h.ok, fun p hp x hx => (h.pl p hp x hx).imp fun j hj => ⟨by omega, hj.2⟩, h.ap⟩
theorem platesV_ne {a b : Nat} (h : a < b) (hb : b < 1000) : platesV a ≠ platesV b := fun e => by
 have := platesV_lt (a := a) (b := b) (by omega) (by omega) (by omega)
 rw [e, (pltC_cmp.eq _ _).2 rfl] at this
 omega
theorem set_getD {α : Type} (l : List α) (k : Nat) (v d : α) (j : Nat) (hj : j < l.length) : (l.set k v).getD j d = if k = j then v else l.getD j d := by
 rw [List.getD_eq_getElem?_getD, List.getD_eq_getElem?_getD, List.getElem?_set]
 split
 · rename_i e; subst e; simp [hj]
 · rfl
theorem CtB.put {i N k : Nat} {yss : List (List Pce)} (h : CtB i N yss) (hi : i < 1000) (hk : k < N) (h20 : (yss.getD k []).length < 20) {w c : Int} (hw : 1 ≤ w ∧ w ≤ 999) (hc : 0 ≤ c ∧ c ≤ 4) : CtB (i + 1) N (yss.set k (yss.getD k [] ++ [(platesV i, w, c)])) := by
 obtain ⟨h1, h2, h3, h4, h5⟩ := h
 have hmem : yss.getD k [] ∈ yss := getD_mem (by omega)
 have key : ∀ p ∈ yss.set k (yss.getD k [] ++ [(platesV i, w, c)]), p ∈ yss ∨ p = yss.getD k [] ++ [(platesV i, w, c)] := fun p hp => by
  rcases List.mem_or_eq_of_mem_set hp with h | h
  · exact .inl h
  · exact .inr h
 refine ⟨by simp [h1], fun p hp => ?_, fun p hp => ?_, fun p hp x hx => ?_, ?_⟩
 · rcases key p hp with h | h
   · exact h2 p h
   · rw [h, List.length_append, List.length_singleton]; omega
 · rcases key p hp with h | h
   · exact h3 p h
   · subst h
     refine ⟨fun x hx => ?_, ?_⟩
     · rcases List.mem_append.1 hx with hx | hx
       · exact (h3 _ hmem).ok x hx
       · rw [List.mem_singleton.1 hx]
         unfold okPc inV
         simp only [platesV_ok, Bool.and_eq_true, decide_eq_true_eq, true_and]
         omega
     · rw [List.pairwise_append]
       refine ⟨(h3 _ hmem).srt, List.pairwise_singleton _ _, fun x hx y hy => ?_⟩
       rw [List.mem_singleton.1 hy]
       obtain ⟨j, hj, e⟩ := h4 _ hmem x hx
       rw [e]
       exact platesV_lt (by omega) (by omega) (by omega)
 · rcases key p hp with h | h
   · exact (h4 p h x hx).imp fun j hj => ⟨by omega, hj.2⟩
   · subst h
     rcases List.mem_append.1 hx with hx | hx
     · exact (h4 _ hmem x hx).imp fun j hj => ⟨by omega, hj.2⟩
     · rw [List.mem_singleton.1 hx]; exact ⟨i, by omega, rfl⟩
 · rw [pw_getD []] at h5 ⊢
   intro a b hab hb x hx y hy
   rw [List.length_set] at hb
   rw [set_getD _ _ _ _ _ (by omega)] at hx hy
   have hA : yss.getD a [] ∈ yss := getD_mem (by omega)
   have hB : yss.getD b [] ∈ yss := getD_mem hb
   by_cases ea : k = a
   · rw [if_pos ea] at hx
     rw [if_neg (by omega)] at hy
     rcases List.mem_append.1 hx with hx | hx
     · rw [ea] at hx; exact h5 a b hab hb x hx y hy
     · rw [List.mem_singleton.1 hx]
       obtain ⟨j, hj, e⟩ := h4 _ hB y hy
       rw [e]; exact (platesV_ne hj hi).symm
   · rw [if_neg ea] at hx
     by_cases eb : k = b
     · rw [if_pos eb] at hy
       rcases List.mem_append.1 hy with hy | hy
       · rw [eb] at hy; exact h5 a b hab hb x hx y hy
       · rw [List.mem_singleton.1 hy]
         obtain ⟨j, hj, e⟩ := h4 _ hA x hx
         rw [e]; exact platesV_ne hj hi
     · rw [if_neg eb] at hy
       exact h5 a b hab hb x hx y hy
theorem zipS_len {xs : List Cnt} {yss : List (List Pce)} (h : yss.length = xs.length) : ((xs.zip yss).map (fun q => setPcs q.1 q.2)).length = xs.length := by simp [h]
theorem zipS_getD {xs : List Cnt} {yss : List (List Pce)} (h : yss.length = xs.length) {i : Nat} (hi : i < xs.length) : ((xs.zip yss).map (fun q => setPcs q.1 q.2)).getD i ct0 = setPcs (xs.getD i ct0) (yss.getD i []) := by
 simp [List.getD_eq_getElem?_getD, hi, h]
theorem CtsR.mk' {most n nm k : Int} {i : Nat} {xs : List Cnt} {yss : List (List Pce)} (hA : CtA most k nm xs) (hk : 0 ≤ k) (hm : most ≤ 24) (hB : CtB i xs.length yss) (hi : (i : Int) ≤ n ∨ i = 0) : CtsR most n ((xs.zip yss).map (fun q => setPcs q.1 q.2)) := by
 obtain ⟨il, in0, in1, iok, inum, ipos⟩ := hA
 obtain ⟨h1, h2, h3, h4, h5⟩ := hB
 have hl := zipS_len h1
 have hg : ∀ c ∈ (xs.zip yss).map (fun q => setPcs q.1 q.2), ∃ x ∈ xs, ∃ p ∈ yss, c = setPcs x p := fun c hc => by
  obtain ⟨q, hq, rfl⟩ := List.mem_map.1 hc
  exact ⟨q.1, (List.of_mem_zip (a := q.1) (b := q.2) hq).1, q.2, (List.of_mem_zip (a := q.1) (b := q.2) hq).2, rfl⟩
 refine ⟨⟨by omega, fun c hc => ?_, (pw_getD ct0).2 fun a b hab hb => ?_, (pw_getD ct0).2 fun a b hab hb => ?_, (pw_getD ct0).2 fun a b hab hb => ?_⟩, by omega, fun c hc x hx => ?_, fun c hc => ?_⟩
 · obtain ⟨x, hx, p, hp, rfl⟩ := hg c hc
   exact ⟨(iok x hx).1, Nat.le_trans (h2 p hp) (by omega), h3 p hp⟩
 · rw [hl] at hb
   rw [zipS_getD (i := a) h1 (by omega), zipS_getD (i := b) h1 hb]
   exact (pw_getD ct0).1 inum a b hab hb
 · rw [hl] at hb
   rw [zipS_getD (i := a) h1 (by omega), zipS_getD (i := b) h1 hb]
   intro hp he
   have hp : (xs.getD b ct0).pos ≠ 0 := hp
   have he : (xs.getD a ct0).pos = (xs.getD b ct0).pos := he
   have := ipos a (by omega)
   have := ipos b hb
   omega
 · rw [hl] at hb
   rw [zipS_getD (i := a) h1 (by omega), zipS_getD (i := b) h1 hb]
   exact (pw_getD []).1 h5 a b hab (by omega)
 · obtain ⟨x0, hx0, p, hp, rfl⟩ := hg c hc
   obtain ⟨j, hj, e⟩ := h4 p hp x hx
   exact ⟨j, by omega, e⟩
 · obtain ⟨x0, hx0, p, hp, rfl⟩ := hg c hc
   exact (iok x0 hx0).2.2.2
def con7 : RCon := { ps := [.p 65 ySR, .d false (.int .i64), .d false (.int .i64)], rs := [.d false (.sl yCT)], pre := fun (x : Src × Int × Int × Unit) => 0 ≤ x.1.2 ∧ 0 ≤ x.2.1 ∧ x.2.1 ≤ 24 ∧ x.2.2.1 ≤ 1000, rel := fun (x : Src × Int × Int × Unit) (y : List Cnt × Unit) (z : Src × Int × Int × Unit) => 0 ≤ z.1.2 ∧ CtsR x.2.1 x.2.2.1 y.1 }
theorem c7 : RCtrOk Tryd.prog 7 con7.rctr :=
 rcon_sound (G := ⟨[(10, con10.ctr), (19, con19.ctr), (11, con11.ctr), (9, con9.ctr)], [], [(7, 84), (53, 84), (58, 1), (84, 3), (93, 5), (99, 1)], [], []⟩) tab_ok (EnvOk.cons c10 has10 (EnvOk.cons c19 has19 (EnvOk.cons c11 has11 (EnvOk.cons c9 has9 EnvOk.nil)))) rfl Tryd.func7 rfl con7 77371328692341128053669831 (by kernel_rfl) (by decide) (by decide) rfl (by decide) rfl (by
  rintro ⟨⟨(s : List Int), (a : Int)⟩, (most : Int), (n : Int), _⟩ hpre hwf X hT hG hk hK
  (simp -implicitDefEqProofs (maxSteps := 4000000) only [go_sem, Bool.not_eq_true', Bool.not_eq_false', Bool.or_eq_true, Bool.or_eq_false_iff, Bool.and_eq_true, Bool.and_eq_false_iff, decide_eq_true_eq, decide_eq_false_iff_not, Classical.not_not, not_or, maxLen, con7, con10, con19, con11, con9, hT, hG, hk, hK, Tryd.results7] at hwf ⊢); (try simp (disch := decide +kernel) only [drawn, true_and, and_true])
  obtain ⟨h1, h2, h3, h4⟩ : 0 ≤ a ∧ 0 ≤ most ∧ most ≤ 24 ∧ n ≤ 1000 := hpre
  have hs1 : 0 ≤ (Src.step (s, a)).snd := step_pos h1
  have hkb := goMod_bd (Src.raw (s, a)) (most + 1) (by omega)
  generalize goMod (Src.raw (s, a)) (most + 1) = K at hkb ⊢
  generalize Src.step (s, a) = S1 at hs1 ⊢
  obtain ⟨s1, a1⟩ := S1
  (repeat' (with_reducible (first | refine And.intro ?_ ?_ | intro _))) <;> (try (first | with_reducible (first | done | assumption | omega | contradiction) | decide))
  refine evk_loop ⟨{ q : Src × List Cnt × Int × Int // 0 ≤ q.1.2 ∧ CtA most q.2.2.2 q.2.2.1 q.2.1 ∧ 0 ≤ q.2.2.2 }, 1000, fun q => [(0, .one (.loc 0 0)), (2, .one (.int .i64 n)), (7, .one (.row 64)), (8, .one (.int .i64 q.1.2.2.1)), (9, .one (.int .i64 q.1.2.2.2))],
   fun q => [(0, .cells 65 [.sl (.int .i64) q.1.1.1 false, .int .i64 q.1.1.2]), (64, .rowg 74 yCT 10 65 q.1.2.1 none), (65, .fam 76 yPC (List.replicate q.1.2.1.length []))], fun q => q.1.2.2.2.toNat⟩ ⟨((s1, a1), [], 0, K), hs1, ⟨by simp only [List.length_nil]; omega, Int.le_refl _, by simp, fun _ h => (by cases h), .nil, fun i h => absurd h (by simp)⟩, hkb.1⟩ ?_ ?_
  · simp only [go_sem]
    try (first | rfl | exact ⟨rfl, rfl⟩ | (and_intros <;> first | trivial | rfl | omega))
  · rintro ⟨⟨⟨s, a⟩, xs, nm, k⟩, (h1 : 0 ≤ a), (hI : CtA most k nm xs), (hk0 : 0 ≤ k)⟩
    (simp -implicitDefEqProofs (maxSteps := 4000000) only [go_sem, Bool.not_eq_true', Bool.not_eq_false', Bool.or_eq_true, Bool.or_eq_false_iff, Bool.and_eq_true, Bool.and_eq_false_iff, decide_eq_true_eq, decide_eq_false_iff_not, Classical.not_not, not_or, maxLen, con7, con10, con19, con11, con9, hT, hG, hk, hK, Tryd.results7]); (try simp (disch := decide +kernel) only [drawn, true_and, and_true])
    obtain ⟨il, in0, in1, iok, inum, ipos⟩ := hI
    have r1 := goMod_bd (Src.raw (s, a)) 2 (by omega)
    have p1 : 0 ≤ (Src.step (s, a)).snd := step_pos h1
    have p2 : 0 ≤ (Src.step (s, a)).step.snd := step_pos p1
    have p3 : 0 ≤ (Src.step (s, a)).step.step.snd := step_pos p2
    have p4 : 0 ≤ (Src.step (s, a)).step.step.step.snd := step_pos p3
    have p5 : 0 ≤ (Src.step (s, a)).step.step.step.step.snd := step_pos p4
    have p6 : 0 ≤ (Src.step (s, a)).step.step.step.step.step.snd := step_pos p5
    have p7 : 0 ≤ (Src.step (s, a)).step.step.step.step.step.step.snd := step_pos p6
    have r2 := goMod_bd (Src.step (s, a)).raw 3 (by omega)
    have r3 := goMod_bd (Src.step (s, a)).step.raw 6 (by omega)
    have r4 := goMod_bd (Src.step (s, a)).step.step.raw 300 (by omega)
    have r5 := goMod_bd (Src.step (s, a)).step.step.step.raw 10 (by omega)
    have r6 := goMod_bd (Src.step (s, a)).step.step.step.step.raw 21 (by omega)
    have r7 := goMod_bd (Src.step (s, a)).step.step.step.step.step.raw 3 (by omega)
    generalize (Src.step (s, a)).step.step.step.step.step.step = S7 at p7 ⊢
    generalize goMod (Src.step (s, a)).step.step.step.step.step.raw 3 = V7 at r7 ⊢
    generalize goMod (Src.step (s, a)).step.step.step.step.raw 21 = V6 at r6 ⊢
    generalize goMod (Src.step (s, a)).step.step.step.raw 10 = V5 at r5 ⊢
    generalize goMod (Src.step (s, a)).step.step.raw 300 = V4 at r4 ⊢
    generalize goMod (Src.step (s, a)).raw 3 = V2 at r2 ⊢
    generalize goMod (Src.raw (s, a)) 2 = V1 at r1 ⊢
    obtain ⟨s7, a7⟩ := S7
    have hc31 : ∀ k : Int, 0 ≤ k ∧ k < 6 → 0 ≤ [31, 31, 31, 3, 30, 1].getD k.toNat (0 : Int) ∧ [31, 31, 31, 3, 30, 1].getD k.toNat (0 : Int) ≤ 31 := fun k hk => by
     rcases (by omega : k = 0 ∨ k = 1 ∨ k = 2 ∨ k = 3 ∨ k = 4 ∨ k = 5) with rfl | rfl | rfl | rfl | rfl | rfl <;> decide
    have hc31 := hc31 _ r3
    have hrep : List.replicate xs.length ([] : List Pce) ++ [[]] = List.replicate (xs.length + 1) [] := by rw [List.replicate_succ']
    have hI : CtA most k nm xs := ⟨il, in0, in1, iok, inum, ipos⟩
    (repeat' (with_reducible (first | refine And.intro ?_ ?_ | intro _))) <;> (try (first | with_reducible (first | done | assumption | omega | contradiction) | decide))
    all_goals first
     | (have hv7 : V7 > 0 := by assumption
        refine fin_lp ⟨((s7, a7), xs ++ [_], nm + (1 + V1), k - 1), p7, CtA.push (v := 1 + V1) (f := V2) (c := [31, 31, 31, 3, 30, 1].getD (goMod (Src.step (s, a)).step.raw 6).toNat 0) (l := 50 + V4) (m := 2 + V5) (p := xs.length + 1) (r := V6 - 10) hI h3 (by omega) (by omega) r2 hc31 (by omega) (by omega) (.inr rfl) (by omega), (by show 0 ≤ k - 1; omega)⟩ ?_ (by dsimp only; omega)
        simp only [go_sem]
        rw [hrep, List.length_append]
        try (first | rfl | exact ⟨rfl, rfl⟩ | (and_intros <;> first | trivial | rfl | omega))
        done)
     | (have hv7 : ¬ V7 > 0 := by assumption
        refine fin_lp ⟨((s7, a7), xs ++ [_], nm + (1 + V1), k - 1), p7, CtA.push (v := 1 + V1) (f := V2) (c := [31, 31, 31, 3, 30, 1].getD (goMod (Src.step (s, a)).step.raw 6).toNat 0) (l := 50 + V4) (m := 2 + V5) (p := 0) (r := V6 - 10) hI h3 (by omega) (by omega) r2 hc31 (by omega) (by omega) (.inl rfl) (by omega), (by show 0 ≤ k - 1; omega)⟩ ?_ (by dsimp only; omega)
        simp only [go_sem]
        rw [hrep, List.length_append]
        try (first | rfl | exact ⟨rfl, rfl⟩ | (and_intros <;> first | trivial | rfl | omega))
        done)
     | (have hl0 : xs.length = 0 := by omega
        refine ⟨((xs.zip (List.replicate xs.length [])).map (fun q => setPcs q.1 q.2), ()), ((s, a), most, n, ()), ⟨h1, CtsR.mk' hI hk0 h3 (CtB.nil _) (.inr rfl)⟩, rfl, rfl, putSls_ct _ _⟩)
     | (refine evk_loop ⟨{ q : Src × List (List Pce) × Nat // 0 ≤ q.1.2 ∧ CtB q.2.2 xs.length q.2.1 ∧ ((q.2.2 : Int) ≤ n ∨ q.2.2 = 0) }, 1000, fun q => [(0, .one (.loc 0 0)), (2, .one (.int .i64 n)), (7, .one (.row 64)), (11, .one (.int .i64 q.1.2.2))],
         fun q => [(0, .cells 65 [.sl (.int .i64) q.1.1.1 false, .int .i64 q.1.1.2]), (64, .rowg 74 yCT 10 65 xs none), (65, .fam 76 yPC q.1.2.1)], fun q => n.toNat - q.1.2.2⟩ ⟨((s, a), List.replicate xs.length [], 0), h1, CtB.nil _, .inr rfl⟩ ?_ ?_
        · simp only [go_sem]
          try (first | rfl | exact ⟨rfl, rfl⟩ | (and_intros <;> first | trivial | rfl | omega))
        · rintro ⟨⟨⟨s, a⟩, yss, i⟩, (h1 : 0 ≤ a), (hB : CtB i xs.length yss), (hin : (i : Int) ≤ n ∨ i = 0)⟩
          (simp -implicitDefEqProofs (maxSteps := 4000000) only [go_sem, Bool.not_eq_true', Bool.not_eq_false', Bool.or_eq_true, Bool.or_eq_false_iff, Bool.and_eq_true, Bool.and_eq_false_iff, decide_eq_true_eq, decide_eq_false_iff_not, Classical.not_not, not_or, maxLen, con7, con10, con19, con11, con9, hT, hG, hk, hK, Tryd.results7]); (try simp (disch := decide +kernel) only [drawn, true_and, and_true])
          have hxl : 0 < xs.length := by omega
          have r1 := goMod_bd (Src.raw (s, a)) 3 (by omega)
          have p1 : 0 ≤ (Src.step (s, a)).snd := step_pos h1
          have p2 : 0 ≤ (Src.step (s, a)).step.snd := step_pos p1
          have p3 : 0 ≤ (Src.step (s, a)).step.step.snd := step_pos p2
          have p4 : 0 ≤ (Src.step (s, a)).step.step.step.snd := step_pos p3
          have r2 := goMod_bd (Src.step (s, a)).raw xs.length (by omega)
          have r3 := goMod_bd (Src.step (s, a)).step.raw 30 (by omega)
          have r4 := goMod_bd (Src.step (s, a)).step.step.raw 8 (by omega)
          have hw : ∀ k : Int, 0 ≤ k ∧ k < 8 → 0 ≤ [0, 0, 0, 0, 1, 2, 3, 4].getD k.toNat (0 : Int) ∧ [0, 0, 0, 0, 1, 2, 3, 4].getD k.toNat (0 : Int) ≤ 4 := fun k hk => by
           rcases (by omega : k = 0 ∨ k = 1 ∨ k = 2 ∨ k = 3 ∨ k = 4 ∨ k = 5 ∨ k = 6 ∨ k = 7) with rfl | rfl | rfl | rfl | rfl | rfl | rfl | rfl <;> decide
          have hw := hw _ r4
          have hyl := hB.len
          have hbl : ∀ k : Nat, (yss.getD k []).length ≤ 20 := fun k => by
           by_cases h : k < yss.length
           · exact hB.c20 _ (getD_mem h)
           · rw [List.getD_eq_getElem?_getD, List.getElem?_eq_none (by omega)]; simp
          have hbk := hbl (goMod (Src.step (s, a)).raw xs.length).toNat
          generalize (Src.step (s, a)).step.step.step = S4 at p4 ⊢
          generalize goMod (Src.step (s, a)).step.step.raw 8 = V4 at r4 hw ⊢
          generalize goMod (Src.step (s, a)).step.raw 30 = V3 at r3 ⊢
          generalize goMod (Src.step (s, a)).raw xs.length = V2 at r2 hbk ⊢
          generalize goMod (Src.raw (s, a)) 3 = V1 at r1 ⊢
          generalize (Src.step (s, a)).step = S2 at p2 ⊢
          generalize Src.step (s, a) = S1 at p1 ⊢
          obtain ⟨s4, a4⟩ := S4
          obtain ⟨s2, a2⟩ := S2
          obtain ⟨s1, a1⟩ := S1
          (repeat' (with_reducible (first | refine And.intro ?_ ?_ | intro _))) <;> (try (first | with_reducible (first | done | assumption | omega | contradiction) | decide))
          all_goals first
           | (have hv : V1 = 0 := by assumption
              refine fin_lp ⟨((s1, a1), yss, i + 1), p1, hB.step, (by show ((i + 1 : Nat) : Int) ≤ n ∨ _; omega)⟩ ?_ (by dsimp only; omega)
              simp only [go_sem]
              try (first | rfl | exact ⟨rfl, rfl⟩ | (and_intros <;> first | trivial | rfl | omega))
              done)
           | exact step_pos p2
           | (have h20 : ((yss.getD V2.toNat []).length : Int) < 20 := by assumption
              refine fin_lp ⟨((s4, a4), yss.set V2.toNat (yss.getD V2.toNat [] ++ [(platesV i, 1 + V3, [0, 0, 0, 0, 1, 2, 3, 4].getD V4.toNat 0)]), i + 1), p4, hB.put (by omega) (by omega) (by omega) (by omega) hw, (by show ((i + 1 : Nat) : Int) ≤ n ∨ _; omega)⟩ ?_ (by dsimp only; omega)
              simp only [go_sem]
              rw [List.set_set]
              try (first | rfl | exact ⟨rfl, rfl⟩ | (and_intros <;> first | trivial | rfl | omega))
              done)
           | (have h20 : ¬ ((yss.getD V2.toNat []).length : Int) < 20 := by assumption
              refine fin_lp ⟨((s4, a4), yss, i + 1), p4, hB.step, (by show ((i + 1 : Nat) : Int) ≤ n ∨ _; omega)⟩ ?_ (by dsimp only; omega)
              simp only [go_sem]
              try (first | rfl | exact ⟨rfl, rfl⟩ | (and_intros <;> first | trivial | rfl | omega))
              done)
           | (refine ⟨((xs.zip yss).map (fun q => setPcs q.1 q.2), ()), ((s, a), most, n, ()), ⟨h1, CtsR.mk' hI hk0 h3 hB hin⟩, rfl, rfl, putSls_ct _ _⟩)
           | fail))
end Go.Proofs.YtjhoidgpecgfoaaDoor

/- DepartureRulings. -/
set_option linter.unusedSimpArgs false
set_option linter.unusedVariables false
set_option maxRecDepth 100000
set_option maxHeartbeats 8000000
namespace Go.Proofs.YtjhoidgpecgfoaaDoor
open Go.Ev

def fc0 : Fcs := (false, ((0, 0, 0), lgN, lgN, [], 0, 0, 0, false, ByteArray.empty, ByteArray.empty, 0, ByteArray.empty, false), 0, false)
/-- A bag's plate. -/
def fcP (x : Fcs) : Plt := x.2.1.1
def rulV (g : Fcs → Dcs) (x : Fcs) : Rlg := (fcP x, g x)
/-- What authority does not grant, plate by plate. -/
def wntX (g : Fcs → Dcs) (p : Plt) (x : Fcs) : List Bar := if fcP x = p ∧ (g x).1 = false then [(4, (g x).2.2, p)] else []
def wntP (g : Fcs → Dcs) (fs : List Fcs) (p : Plt) : List Bar := fs.flatMap (wntX g p)
def is4 (b : Bar) : Bool := decide (b.1 = 4)
theorem wntX_len (g : Fcs → Dcs) (p : Plt) (x : Fcs) : (wntX g p x).length ≤ 1 := by unfold wntX; split <;> simp
theorem flat_one {α β : Type} (h : α → List β) (d : α) : ∀ (l : List α) (j : Nat), j < l.length → (∀ i, i < l.length → i ≠ j → h (l.getD i d) = []) → l.flatMap h = h (l.getD j d)
 | [], j, hj, _ => absurd hj (by simp)
 | a :: l, 0, _, hz => by
   rw [List.flatMap_cons, List.flatMap_eq_nil_iff.2 (fun x hx => by
    obtain ⟨k, hk, rfl⟩ := mem_getD (d := d) hx
    exact hz (k + 1) (by simpa using hk) (by omega)), List.append_nil]
   rfl
 | a :: l, j + 1, hj, hz => by
   have h0 := hz 0 (by simp) (by omega)
   rw [List.flatMap_cons, show h a = [] from h0, List.nil_append]
   exact flat_one h d l j (by simpa using hj) (fun i hi hne => hz (i + 1) (by simpa using hi) (by omega))
theorem ru_one {g : Fcs → Dcs} {fs : List Fcs} (hP : ∀ i : Nat, i < fs.length → fcP (fs.getD i fc0) = platesV i) (hl : fs.length ≤ 1000) {j : Nat} (hj : j < fs.length) :
 brA (fs.map (rulV g)) (platesV j) = wntP g fs (platesV j) := by
 have hne : ∀ i : Nat, i < fs.length → i ≠ j → platesV i ≠ platesV j := fun i hi h => by
  rcases Nat.lt_or_ge i j with q | q
  · exact platesV_ne q (by omega)
  · exact (platesV_ne (show j < i by omega) (by omega)).symm
 have hg : ∀ i, i < fs.length → (fs.map (rulV g)).getD i rl0 = rulV g (fs.getD i fc0) := fun i hi => by
  simp [List.getD_eq_getElem?_getD, hi]
 have e : rlIdx (fs.map (rulV g)) (platesV j) = j := idxV_at (d := rl0) (fun k hk => by
  rw [hg k (by omega)]
  exact decide_eq_false (by show fcP _ ≠ _; rw [hP k (by omega)]; exact hne k (by omega) (by omega))) (by simpa using hj) (by
  rw [hg j hj]; exact decide_eq_true (hP j hj))
 have e2 : (fs.map (rulV g)).getD (rlIdx (fs.map (rulV g)) (platesV j)).toNat rl0 = rulV g (fs.getD j fc0) := by rw [e]; exact hg j hj
 have e3 : mayV (fs.map (rulV g)) (platesV j) = (g (fs.getD j fc0)).1 := by unfold mayV; rw [e2, if_pos (by rw [e]; omega)]; rfl
 have e4 : reasonV (fs.map (rulV g)) (platesV j) = (g (fs.getD j fc0)).2.2 := by unfold reasonV; rw [e2, if_pos (by rw [e]; omega)]; rfl
 unfold wntP
 rw [flat_one (wntX g (platesV j)) fc0 fs j hj (fun i hi h => by unfold wntX; rw [if_neg (fun k => hne i hi h (by rw [← hP i hi]; exact k.1))])]
 unfold brA wntX
 rw [e3, e4, hP j hj]
 by_cases q : (g (fs.getD j fc0)).1 = false
 · rw [if_pos q, if_pos ⟨rfl, q⟩]
 · rw [if_neg q, if_neg (fun k => q k.2)]
theorem conc_of {f : Flt} {c : List Cnt} {x : Plt} (h : x ∈ concV f c []) : ∃ o ∈ c, ∃ y ∈ o.pcs, y.1 = x := by
 unfold concV at h
 rw [(setP_spec _).2, List.flatMap_nil, List.append_nil] at h
 unfold rawA at h
 obtain ⟨o, ho, hx⟩ := List.mem_flatMap.1 h
 unfold rawC at hx
 split at hx
 · obtain ⟨y, hy, e⟩ := List.mem_map.1 hx
   exact ⟨o, ho, y, hy, e⟩
 · cases hx
theorem bars4 {l : List Dpt} {f : Flt} {t : Int} {h : List Hhd} {c : List Cnt} {p : List Plm} {r : List Rlg} : (barsV l f t h c p r).filter is4 = (concV f c p).flatMap (brA r) := by
 unfold barsV
 simp only [List.filter_append]
 have h1 : (brS (stateV l f t)).filter is4 = [] := by unfold brS; split <;> rfl
 have h2 : (h.flatMap brH).filter is4 = [] := List.filter_eq_nil_iff.2 fun b hb => by
  obtain ⟨x, _, hx⟩ := List.mem_flatMap.1 hb
  unfold brH at hx; split at hx
  · rw [List.mem_singleton.1 hx]; simp [is4]
  · cases hx
 have h3 : ((concV f c p).flatMap (brU p)).filter is4 = [] := List.filter_eq_nil_iff.2 fun b hb => by
  obtain ⟨x, _, hx⟩ := List.mem_flatMap.1 hb
  unfold brU at hx; split at hx
  · rw [List.mem_singleton.1 hx]; simp [is4]
  · cases hx
 have h5 : (c.flatMap (brC f)).filter is4 = [] := List.filter_eq_nil_iff.2 fun b hb => by
  obtain ⟨x, _, hx⟩ := List.mem_flatMap.1 hb
  unfold brC at hx; split at hx
  · rw [List.mem_singleton.1 hx]; simp [is4]
  · cases hx
 have h4 : ((concV f c p).flatMap (brA r)).filter is4 = (concV f c p).flatMap (brA r) := List.filter_eq_self.2 fun b hb => by
  obtain ⟨x, _, hx⟩ := List.mem_flatMap.1 hb
  unfold brA at hx; split at hx
  · rw [List.mem_singleton.1 hx]; rfl
  · cases hx
 rw [h1, h2, h3, h4, h5]; simp
theorem flatMap_ext {α β : Type} {g h : α → List β} : ∀ {l : List α}, (∀ x ∈ l, g x = h x) → l.flatMap g = l.flatMap h
 | [], _ => rfl
 | a :: l, k => by rw [List.flatMap_cons, List.flatMap_cons, k a (by simp), flatMap_ext fun x hx => k x (by simp [hx])]
/-- The bars of authority are what authority does not grant. -/
theorem ru_law {g : Fcs → Dcs} {fs : List Fcs} (hP : ∀ i : Nat, i < fs.length → fcP (fs.getD i fc0) = platesV i) (hl : fs.length = 10) {l : List Dpt} {f : Flt} {t m : Int} {h : List Hhd} {c : List Cnt} (hc : CtsR m 10 c) :
 (barsV l f t h c [] (fs.map (rulV g))).filter is4 = (concV f c []).flatMap (wntP g fs) := by
 rw [bars4]
 refine flatMap_ext fun x hx => ?_
 obtain ⟨o, ho, y, hy, rfl⟩ := conc_of hx
 obtain ⟨j, hj, e⟩ := hc.pl o ho y hy
 rw [e]
 exact ru_one hP (by omega) (by omega)

theorem fc_push {fs : List Fcs} {i : Nat} (hl : fs.length = i) (hz : ∀ k, k < i → fcP (fs.getD k fc0) = platesV k) (x : Fcs) (hx : fcP x = platesV i) : ∀ k, k < i + 1 → fcP ((fs ++ [x]).getD k fc0) = platesV k := fun k hk => by
 rcases Nat.lt_or_ge k i with q | q
 · rw [List.getD_eq_getElem?_getD, List.getElem?_append_left (by omega), ← List.getD_eq_getElem?_getD]; exact hz k q
 · have e : k = i := by omega
   subst e
   rw [List.getD_eq_getElem?_getD, List.getElem?_append_right (by omega), hl, Nat.sub_self]
   exact hx
theorem day_ok : dayV.length ≤ 24 ∧ (∀ k, k < dayV.length → dptOk (dayV.getD k dp0) = true) ∧ (∀ k, k + 1 < dayV.length → cmpR (dayV.getD k dp0).1 (dayV.getD (k + 1) dp0).1 < 0) := by
 have hl : dayV.length = 3 := dayL_len 3
 have e0 : dptOk (dayV.getD 0 dp0) = true := by decide +kernel
 have e1 : dptOk (dayV.getD 1 dp0) = true := by decide +kernel
 have e2 : dptOk (dayV.getD 2 dp0) = true := by decide +kernel
 have c0 : cmpR (dayV.getD 0 dp0).1 (dayV.getD 1 dp0).1 < 0 := by decide +kernel
 have c1 : cmpR (dayV.getD 1 dp0).1 (dayV.getD 2 dp0).1 < 0 := by decide +kernel
 refine ⟨by omega, fun k hk => ?_, fun k hk => ?_⟩
 · rcases (by omega : k = 0 ∨ k = 1 ∨ k = 2) with rfl | rfl | rfl
   · exact e0
   · exact e1
   · exact e2
 · rcases (by omega : k = 0 ∨ k = 1) with rfl | rfl
   · exact c0
   · exact c1
def con3 : Con := { ps := [.d false (.sl (.int .i64)), .d false (.int .i64)], rs := [.d false .bool], pre := fun _ => True, out := fun _ => (true, ()), nw := id }
theorem c3 : CtrG gvs Tryd.prog 3 con3.ctr :=
 con_soundG (G := ⟨[(4, con4.ctr), (5, con5.ctr), (10, con10.ctr), (11, con11.ctr), (9, con9.ctr), (17, con17.ctr), (12, con12.ctr), (13, con13.ctr), (14, con14.ctr), (15, con15.ctr), (16, con16.ctr)], [(7, con7.rctr), (6, con6.rctr), (8, con8.rctr)], [], [], gvs⟩) tab_ok (EnvG.cons c4.g has4 (EnvG.cons c5.g has5 (EnvG.cons c10.g has10 (EnvG.cons c11.g has11 (EnvG.cons c9.g has9 (EnvG.cons c17.g has17 (EnvG.cons c12 has12 (EnvG.cons c13.g has13 (EnvG.cons c14.g has14 (EnvG.cons c15.g has15 (EnvG.cons c16.g has16 (EnvG.rcons c7.g has7 (EnvG.rcons c6.g has6 (EnvG.rcons c8.g has8 EnvG.nil)))))))))))))) rfl Tryd.func3 rfl con3 5763533238919509532503787173258765205491 (by kernel_rfl) (by decide) (by decide) rfl (by decide) rfl (by
  rintro ⟨(src : List Int), (now : Int), _⟩ hpre hwf X hT hG hk hK
  (simp -implicitDefEqProofs (maxSteps := 4000000) only [go_sem, Bool.not_eq_true', Bool.not_eq_false', Bool.or_eq_true, Bool.or_eq_false_iff, Bool.and_eq_true, Bool.and_eq_false_iff, decide_eq_true_eq, decide_eq_false_iff_not, Classical.not_not, not_or, maxLen, con3, con4, con5, con10, con11, con9, con17, con12, con13, con14, con15, con16, con7, con6, con8, hT, hG, hk, hK, Tryd.results3, gvs] at hwf ⊢); (try simp (disch := decide +kernel) only [drawn, true_and, and_true])
  clear hwf
  intro _ _
  refine ⟨Int.le_refl 0, ?_⟩
  rintro ⟨⟨(m : List Mnf), _⟩, ⟨⟨(s2 : List Int), (a2 : Int)⟩, _⟩⟩ ⟨(p2 : 0 ≤ a2), _⟩
  refine ⟨⟨p2, by omega, by omega, by omega⟩, ?_⟩
  rintro ⟨⟨(c : List Cnt), _⟩, ⟨⟨(s3 : List Int), (a3 : Int)⟩, _⟩⟩ ⟨⟨(p3 : 0 ≤ a3), (hC : CtsR 4 10 c)⟩, _⟩
  refine evk_loop ⟨{ q : Src × List Fcs × Nat // 0 ≤ q.1.2 ∧ q.2.1.length = q.2.2 ∧ q.2.2 ≤ 10 ∧ ∀ k, k < q.2.2 → fcP (q.2.1.getD k fc0) = platesV k }, 1000, fun q => [(1, .one (.int .i64 now)), (5, .one (.loc 70 0)), (6, .one (.row 71)), (7, .one (.sl (.pair yFL (.pair (.int .i64) (.pair (.sl (.int .i64)) (.sl (.int .i64))))) m false)), (8, .one (.sl yCT c false)), (9, .one (.row 72)), (10, .one (.row 73)), (11, .one (.int .i64 q.1.2.2))],
   fun q => [(70, .cells 65 [.sl (.int .i64) q.1.1.1 false, .int .i64 q.1.1.2]), (71, .row 67 yDP dayV), (72, .row 52 yRU []), (73, .row 43 (.pair .bool (.pair (.pair yPL (.pair (.pair yFL (.pair .str .str)) (.pair (.pair yFL (.pair .str .str)) (.pair (.sl (.pair yFL (.pair .str .str))) (.pair (.int .i64) (.pair (.int .i64) (.pair (.int .i64) (.pair .bool (.pair .str (.pair .str (.pair (.int .i64) (.pair .str .bool)))))))))))) (.pair (.int .i64) .bool))) q.1.2.1)], fun q => 10 - q.1.2.2⟩ ⟨((s3, a3), [], 0), p3, rfl, Nat.zero_le _, fun k hk => absurd hk (Nat.not_lt_zero _)⟩ ?_ ?_
  · simp only [go_sem]
    try (first | rfl | exact ⟨rfl, rfl⟩ | (and_intros <;> first | trivial | rfl | omega))
  · rintro ⟨⟨⟨s, a⟩, fs, i⟩, (h1 : 0 ≤ a), (hl : fs.length = i), (hi : i ≤ 10), (hz : ∀ k, k < i → fcP (fs.getD k fc0) = platesV k)⟩
    (simp -implicitDefEqProofs (maxSteps := 4000000) only [go_sem, Bool.not_eq_true', Bool.not_eq_false', Bool.or_eq_true, Bool.or_eq_false_iff, Bool.and_eq_true, Bool.and_eq_false_iff, decide_eq_true_eq, decide_eq_false_iff_not, Classical.not_not, not_or, maxLen, con3, con4, con5, con10, con11, con9, con17, con12, con13, con14, con15, con16, con7, con6, con8, hT, hG, hk, hK, Tryd.results3, gvs]); (try simp (disch := decide +kernel) only [drawn, true_and, and_true])
    refine ⟨fun hlt => ⟨h1, ?_⟩, fun hge => ?_⟩
    · rintro ⟨⟨(x : Fcs), _⟩, ⟨⟨(s4 : List Int), (a4 : Int)⟩, _⟩⟩ ⟨(p4 : 0 ≤ a4), _⟩ _
      refine ⟨p4, fun _ => ?_⟩
      have p5 : 0 ≤ (Src.step (s4, a4)).snd := step_pos p4
      generalize goMod (Src.raw (s4, a4)) 2 = V
      generalize Src.step (s4, a4) = S5 at p5 ⊢
      obtain ⟨s5, a5⟩ := S5
      (repeat' (with_reducible (first | refine And.intro ?_ ?_ | intro _))) <;> (try (first | with_reducible (first | done | assumption | omega | contradiction) | decide))
      all_goals first
       | omega
       | (refine fin_lp ⟨((s5, a5), fs ++ [(x.1, (platesV i, x.2.1.2.1, x.2.1.2.2.1, x.2.1.2.2.2.1, x.2.1.2.2.2.2.1, 4, x.2.1.2.2.2.2.2.2), x.2.2)], i + 1), p5, (by rw [List.length_append, List.length_singleton]; show fs.length + 1 = i + 1; omega), (by show i + 1 ≤ 10; omega), fc_push hl hz _ rfl⟩ ?_ (by dsimp only; omega)
          simp only [go_sem]
          try (first | rfl | exact ⟨rfl, rfl⟩ | (and_intros <;> first | trivial | rfl | omega))
          done)
       | (refine fin_lp ⟨((s5, a5), fs ++ [(x.1, (platesV i, x.2.1.2), x.2.2)], i + 1), p5, (by rw [List.length_append, List.length_singleton]; show fs.length + 1 = i + 1; omega), (by show i + 1 ≤ 10; omega), fc_push hl hz _ rfl⟩ ?_ (by dsimp only; omega)
          simp only [go_sem]
          try (first | rfl | exact ⟨rfl, rfl⟩ | (and_intros <;> first | trivial | rfl | omega))
          done)
       | (trace_state; fail)
    · have hl10 : fs.length = 10 := by omega
      have hsm : SmC c [] := ⟨by have := hC.ok.len; omega, fun o ho => by have := (hC.ok.ok o ho).2.1; omega, by simp, fun y hy => (by cases hy)⟩
      have hzz : ∀ k : Nat, k < fs.length → fcP (fs.getD k fc0) = platesV k := fun k hk => hz k (by omega)
      refine ⟨h1, ?_⟩
      intros
      obtain ⟨F, hF⟩ : ∃ F : Flt, fltsV (goMod (Src.raw (s, a)) 3) = F := ⟨_, rfl⟩
      simp only [hF]
      obtain ⟨g, hg⟩ : ∃ g : Fcs → Dcs, (fun x => decideV x m dayV F now true) = g := ⟨_, rfl⟩
      have hgx : ∀ x, decideV x m dayV F now true = g x := fun x => congrFun hg x
      refine evk_loop ⟨{ i : Nat // i ≤ fs.length }, 2000, fun q => [(1, .one (.int .i64 now)), (6, .one (.row 71)), (7, .one (.sl (.pair yFL (.pair (.int .i64) (.pair (.sl (.int .i64)) (.sl (.int .i64))))) m false)), (8, .one (.sl yCT c false)), (9, .one (.row 72)), (10, .one (.row 73)), (13, .one (.loc 74 0)), (53, .one (.int .i64 fs.length)), (54, .one (.int .i64 q.1))],
       fun q => [(71, .row 67 yDP dayV), (74, .cells 36 [.str F.1, .int .i64 F.2.1, .str F.2.2.1, .int .i64 F.2.2.2]), (72, .row 52 yRU ((fs.take q.1).map (rulV g))), (73, .row 43 (.pair .bool (.pair (.pair yPL (.pair (.pair yFL (.pair .str .str)) (.pair (.pair yFL (.pair .str .str)) (.pair (.sl (.pair yFL (.pair .str .str))) (.pair (.int .i64) (.pair (.int .i64) (.pair (.int .i64) (.pair .bool (.pair .str (.pair .str (.pair (.int .i64) (.pair .str .bool)))))))))))) (.pair (.int .i64) .bool))) fs)], fun q => fs.length - q.1⟩ ⟨0, Nat.zero_le _⟩ ?_ ?_
      · simp only [go_sem]
        try (first | rfl | exact ⟨rfl, rfl⟩ | (and_intros <;> first | trivial | rfl | omega))
      · rintro ⟨i2, (hi2 : i2 ≤ fs.length)⟩
        (simp -implicitDefEqProofs (maxSteps := 4000000) only [go_sem, Bool.not_eq_true', Bool.not_eq_false', Bool.or_eq_true, Bool.or_eq_false_iff, Bool.and_eq_true, Bool.and_eq_false_iff, decide_eq_true_eq, decide_eq_false_iff_not, Classical.not_not, not_or, maxLen, con3, con4, con5, con10, con11, con9, con17, con12, con13, con14, con15, con16, con7, con6, con8, hT, hG, hk, hK, Tryd.results3, gvs]); (try simp (disch := decide +kernel) only [drawn, true_and, and_true])
        simp only [hgx]
        obtain ⟨o, ho⟩ : ∃ o, fs.getD i2 fc0 = o := ⟨_, rfl⟩
        have eo : fs.getD (i2 : Int).toNat (false, ((0, 0, 0), ((ByteArray.empty, 0, ByteArray.empty, 0), ByteArray.empty, ByteArray.empty), ((ByteArray.empty, 0, ByteArray.empty, 0), ByteArray.empty, ByteArray.empty), [], 0, 0, 0, false, ByteArray.empty, ByteArray.empty, 0, ByteArray.empty, false), 0, false) = o := ho
        simp only [eo]
        have er : i2 < fs.length → (fs.take (i2 + 1)).map (rulV g) = (fs.take i2).map (rulV g) ++ [(o.2.1.1, g o)] := fun h => by
         rw [List.take_succ_eq_append_getElem h, List.map_append]
         have e1 : fs[i2] = o := by rw [← ho]; simp [h]
         rw [e1]; rfl
        have hrl : ((fs.take i2).map (rulV g)).length ≤ 10 := by rw [List.length_map, List.length_take]; omega
        (repeat' (with_reducible (first | refine And.intro ?_ ?_ | intro _))) <;> (try (first | with_reducible (first | done | assumption | omega | contradiction) | decide))
        all_goals try (first
         | omega
         | (refine Nat.le_trans (Nat.mul_le_mul_right _ (Nat.add_le_add_right hrl 1)) ?_; omega)
         | (refine fin_lp ⟨i2 + 1, by omega⟩ ?_ (by dsimp only; omega)
            simp only [go_sem]
            rw [er (by omega)]
            try (first | rfl | exact ⟨rfl, rfl⟩ | (and_intros <;> first | trivial | rfl | omega))
            done)
         | (refine fin_lp ⟨i2 + 1, by omega⟩ ?_ (by dsimp only; omega)
            simp only [go_sem]
            exact ⟨(er (by omega)).symm, by omega⟩))
        all_goals try exact hsm
        all_goals (
         have e2 : fs.take i2 = fs := List.take_of_length_le (by omega)
         rw [e2]
         obtain ⟨P, hP⟩ : ∃ P : List Plt, concV F c [] = P := ⟨_, rfl⟩
         have hPl : P.length ≤ 1001000 := by rw [← hP]; exact concV_len hsm
         have hlaw := ru_law (g := g) (l := dayV) (f := F) (t := now) (h := []) hzz hl10 hC
         rw [hP] at hlaw
         try simp only [hP]
         clear er eo ho hrl
         refine evk_loop ⟨{ i : Nat // i ≤ P.length }, 3000, fun q => [(1, .one (.int .i64 now)), (6, .one (.row 71)), (7, .one (.sl (.pair yFL (.pair (.int .i64) (.pair (.sl (.int .i64)) (.sl (.int .i64))))) m false)), (8, .one (.sl yCT c false)), (9, .one (.row 72)), (10, .one (.row 73)), (13, .one (.loc 74 0)), (15, .one (.row 75)), (79, .one (.sl yPL P false)), (80, .one (.int .i64 P.length)), (81, .one (.int .i64 q.1))],
          fun q => [(71, .row 67 yDP dayV), (74, .cells 36 [.str F.1, .int .i64 F.2.1, .str F.2.2.1, .int .i64 F.2.2.2]), (72, .row 52 yRU (fs.map (rulV g))), (73, .row 43 (.pair .bool (.pair (.pair yPL (.pair (.pair yFL (.pair .str .str)) (.pair (.pair yFL (.pair .str .str)) (.pair (.sl (.pair yFL (.pair .str .str))) (.pair (.int .i64) (.pair (.int .i64) (.pair (.int .i64) (.pair .bool (.pair .str (.pair .str (.pair (.int .i64) (.pair .str .bool)))))))))))) (.pair (.int .i64) .bool))) fs), (75, .row 57 yBR ((P.take q.1).flatMap (wntP g fs)))], fun q => P.length - q.1⟩ ⟨0, Nat.zero_le _⟩ ?_ ?_
         · simp only [go_sem]
           try (first | rfl | exact ⟨rfl, rfl⟩ | (and_intros <;> first | trivial | rfl | omega))
         · rintro ⟨i3, (hi3 : i3 ≤ P.length)⟩
           (simp -implicitDefEqProofs (maxSteps := 4000000) only [go_sem, Bool.not_eq_true', Bool.not_eq_false', Bool.or_eq_true, Bool.or_eq_false_iff, Bool.and_eq_true, Bool.and_eq_false_iff, decide_eq_true_eq, decide_eq_false_iff_not, Classical.not_not, not_or, maxLen, con3, con4, con5, con10, con11, con9, con17, con12, con13, con14, con15, con16, con7, con6, con8, hT, hG, hk, hK, Tryd.results3, gvs]); (try simp (disch := decide +kernel) only [drawn, true_and, and_true])
           obtain ⟨p, hp⟩ : ∃ p, P.getD i3 pl0 = p := ⟨_, rfl⟩
           have ep : P.getD (i3 : Int).toNat (0, 0, 0) = p := hp
           simp only [ep]
           have hW : ((P.take i3).flatMap (wntP g fs)).length ≤ 10010000 := by
            have := flat_len (wntP g fs) 10 (P.take i3) (fun x _ => by
             have := fl1 (g := wntX g x) (wntX_len g x) fs
             unfold wntP; omega)
            rw [List.length_take] at this
            omega
           have ew : i3 < P.length → (P.take (i3 + 1)).flatMap (wntP g fs) = (P.take i3).flatMap (wntP g fs) ++ fs.flatMap (wntX g p) := fun h => by
            rw [flat_take _ pl0 h, hp]; rfl
           (repeat' (with_reducible (first | refine And.intro ?_ ?_ | intro _))) <;> (try (first | with_reducible (first | done | assumption | omega | contradiction) | decide))
           all_goals try omega
           all_goals first
            | (refine evk_loop ⟨{ k : Nat // k ≤ fs.length ∧ i3 < P.length }, 4000, fun q => [(1, .one (.int .i64 now)), (6, .one (.row 71)), (7, .one (.sl (.pair yFL (.pair (.int .i64) (.pair (.sl (.int .i64)) (.sl (.int .i64))))) m false)), (8, .one (.sl yCT c false)), (9, .one (.row 72)), (10, .one (.row 73)), (13, .one (.loc 74 0)), (15, .one (.row 75)), (17, .one (.loc 76 0)), (79, .one (.sl yPL P false)), (80, .one (.int .i64 P.length)), (81, .one (.int .i64 i3)), (86, .one (.int .i64 fs.length)), (87, .one (.int .i64 q.1))],
                fun q => [(71, .row 67 yDP dayV), (74, .cells 36 [.str F.1, .int .i64 F.2.1, .str F.2.2.1, .int .i64 F.2.2.2]), (76, .cells 34 [.int .i64 p.1, .int .i64 p.2.1, .int .i64 p.2.2]), (72, .row 52 yRU (fs.map (rulV g))), (73, .row 43 (.pair .bool (.pair (.pair yPL (.pair (.pair yFL (.pair .str .str)) (.pair (.pair yFL (.pair .str .str)) (.pair (.sl (.pair yFL (.pair .str .str))) (.pair (.int .i64) (.pair (.int .i64) (.pair (.int .i64) (.pair .bool (.pair .str (.pair .str (.pair (.int .i64) (.pair .str .bool)))))))))))) (.pair (.int .i64) .bool))) fs), (75, .row 57 yBR ((P.take i3).flatMap (wntP g fs) ++ (fs.take q.1).flatMap (wntX g p)))], fun q => fs.length - q.1⟩ ⟨0, Nat.zero_le _, by omega⟩ ?_ ?_
               · simp only [go_sem]
                 try simp only [List.take_zero, List.flatMap_nil, List.append_nil]
                 try (first | rfl | exact ⟨rfl, rfl⟩ | (and_intros <;> first | trivial | rfl | omega))
               · rintro ⟨k, (hk2 : k ≤ fs.length), (hi4 : i3 < P.length)⟩
                 (simp -implicitDefEqProofs (maxSteps := 4000000) only [go_sem, Bool.not_eq_true', Bool.not_eq_false', Bool.or_eq_true, Bool.or_eq_false_iff, Bool.and_eq_true, Bool.and_eq_false_iff, decide_eq_true_eq, decide_eq_false_iff_not, Classical.not_not, not_or, maxLen, con3, con4, con5, con10, con11, con9, con17, con12, con13, con14, con15, con16, con7, con6, con8, hT, hG, hk, hK, Tryd.results3, gvs]); (try simp (disch := decide +kernel) only [drawn, true_and, and_true])
                 simp only [hgx]
                 obtain ⟨o, ho⟩ : ∃ o, fs.getD k fc0 = o := ⟨_, rfl⟩
                 have eo : fs.getD (k : Int).toNat (false, ((0, 0, 0), ((ByteArray.empty, 0, ByteArray.empty, 0), ByteArray.empty, ByteArray.empty), ((ByteArray.empty, 0, ByteArray.empty, 0), ByteArray.empty, ByteArray.empty), [], 0, 0, 0, false, ByteArray.empty, ByteArray.empty, 0, ByteArray.empty, false), 0, false) = o := ho
                 simp only [eo]
                 have hps : k < fs.length → (fs.take (k + 1)).flatMap (wntX g p) = (fs.take k).flatMap (wntX g p) ++ wntX g p o := fun h => by
                  rw [flat_take _ fc0 h, ho]
                 have hWX : ((P.take i3).flatMap (wntP g fs) ++ (fs.take k).flatMap (wntX g p)).length ≤ 10010010 := by
                  have := fl1 (g := wntX g p) (wntX_len g p) (fs.take k)
                  rw [List.length_take] at this
                  rw [List.length_append]
                  omega
                 have x1 : fcP o = p → (g o).1 = false → wntX g p o = [(4, (g o).2.2, p)] := fun h1 h2 => by unfold wntX; rw [if_pos ⟨h1, h2⟩]
                 have x2 : fcP o ≠ p → wntX g p o = [] := fun h1 => by unfold wntX; rw [if_neg (fun h => h1 h.1)]
                 have x3 : (g o).1 = true → wntX g p o = [] := fun h1 => by unfold wntX; rw [if_neg (fun h => by rw [h1] at h; cases h.2)]
                 (repeat' (with_reducible (first | refine And.intro ?_ ?_ | intro _))) <;> (try (first | with_reducible (first | done | assumption | omega | contradiction) | decide))
                 all_goals first
                  | omega
                  | (refine Nat.le_trans (Nat.mul_le_mul_right _ (Nat.add_le_add_right hWX 1)) ?_; omega)
                  | (have hq : ¬ o.2.1.1.1 = p.1 ∨ ¬ o.2.1.1.2.1 = p.2.1 ∨ ¬ o.2.1.1.2.2 = p.2.2 := by assumption
                     have hx := (hps (by omega)).trans (by rw [x2 ((pltN o.2.1.1 p).mp hq), List.append_nil])
                     refine fin_lp ⟨k + 1, by omega, hi4⟩ ?_ (by dsimp only; omega)
                     simp only [go_sem]
                     first | exact ⟨by rw [hx], by omega⟩ | (rw [hx]; try (first | rfl | exact ⟨rfl, rfl⟩ | (and_intros <;> first | trivial | rfl | omega)); done))
                  | (have hq : o.2.1.1.1 = p.1 ∧ o.2.1.1.2.1 = p.2.1 ∧ o.2.1.1.2.2 = p.2.2 := by assumption
                     have hf : (g o).1 = false := by assumption
                     have hx := (hps (by omega)).trans (by rw [x1 ((pltE o.2.1.1 p).mp hq) hf])
                     refine fin_lp ⟨k + 1, by omega, hi4⟩ ?_ (by dsimp only; omega)
                     simp only [go_sem]
                     first | exact ⟨by rw [hx, ← List.append_assoc] <;> rfl, by omega⟩ | (rw [hx, ← List.append_assoc]; try (first | rfl | exact ⟨rfl, rfl⟩ | (and_intros <;> first | trivial | rfl | omega)); done))
                  | (have hf : (g o).1 = true := by assumption
                     have hx := (hps (by omega)).trans (by rw [x3 hf, List.append_nil])
                     refine fin_lp ⟨k + 1, by omega, hi4⟩ ?_ (by dsimp only; omega)
                     simp only [go_sem]
                     first | exact ⟨by rw [hx], by omega⟩ | (rw [hx]; try (first | rfl | exact ⟨rfl, rfl⟩ | (and_intros <;> first | trivial | rfl | omega)); done))
                  | (have e4 : fs.take k = fs := List.take_of_length_le (by omega)
                     rw [e4]
                     refine fin_lp ⟨i3 + 1, by omega⟩ ?_ (by dsimp only; omega)
                     simp only [go_sem]
                     first | exact ⟨(ew (by omega)).symm, by omega⟩ | (rw [ew (by omega)]; try (first | rfl | exact ⟨rfl, rfl⟩ | (and_intros <;> first | trivial | rfl | omega)); done))
                  | (trace_state; fail))
            | (have e3 : P.take i3 = P := List.take_of_length_le (by omega)
               rw [e3]
               obtain ⟨B, hB⟩ : ∃ B, barsV dayV F now [] c [] (fs.map (rulV g)) = B := ⟨_, rfl⟩
               rw [hB] at hlaw
               try simp only [hB]
               have hBl : B.length ≤ 10000000 := by
                rw [← hB]
                unfold barsV
                have u1 := brS_len (stateV dayV F now)
                have u2 := fl1 (g := brU []) (brU_len []) (concV F c [])
                have u3 := fl1 (g := brA (fs.map (rulV g))) (brA_len _) (concV F c [])
                have u4 := fl1 (g := brC F) (brC_len F) c
                have u5 := hC.ok.len
                rw [hP] at u2 u3 ⊢
                simp only [List.length_append, List.flatMap_nil, List.length_nil]
                omega
               refine evk_loop ⟨{ k : Nat // k ≤ B.length }, 5000, fun q => [(6, .one (.sl yDP dayV false)), (15, .one (.row 75)), (20, .one (.row 77)), (124, .one (.sl yBR B false)), (125, .one (.int .i64 B.length)), (126, .one (.int .i64 q.1))],
                fun q => [(75, .row 57 yBR (P.flatMap (wntP g fs))), (77, .row 57 yBR ((B.take q.1).filter is4))], fun q => B.length - q.1⟩ ⟨0, Nat.zero_le _⟩ ?_ ?_
               · simp only [go_sem]
                 try (first | rfl | exact ⟨rfl, rfl⟩ | (and_intros <;> first | trivial | rfl | omega))
               · rintro ⟨k, (hk2 : k ≤ B.length)⟩
                 (simp -implicitDefEqProofs (maxSteps := 4000000) only [go_sem, Bool.not_eq_true', Bool.not_eq_false', Bool.or_eq_true, Bool.or_eq_false_iff, Bool.and_eq_true, Bool.and_eq_false_iff, decide_eq_true_eq, decide_eq_false_iff_not, Classical.not_not, not_or, maxLen, con3, con4, con5, con10, con11, con9, con17, con12, con13, con14, con15, con16, con7, con6, con8, hT, hG, hk, hK, Tryd.results3, gvs]); (try simp (disch := decide +kernel) only [drawn, true_and, and_true])
                 obtain ⟨o, ho⟩ : ∃ o, B.getD k br0 = o := ⟨_, rfl⟩
                 have eo : B.getD (k : Int).toNat (0, 0, 0, 0, 0) = o := ho
                 simp only [eo]
                 have hfl : ((B.take k).filter is4).length ≤ 10000000 := Nat.le_trans (List.length_filter_le _ _) (by rw [List.length_take]; omega)
                 have hst : k < B.length → (B.take (k + 1)).filter is4 = (B.take k).filter is4 ++ (if is4 o = true then [o] else []) := fun h => by
                  rw [List.take_succ_eq_append_getElem h, List.filter_append]
                  have e1 : B[k] = o := by rw [← ho]; simp [h]
                  rw [e1]
                  by_cases q : is4 o = true <;> simp [q]
                 have hd := day_ok
                 (repeat' (with_reducible (first | refine And.intro ?_ ?_ | intro _))) <;> (try (first | with_reducible (first | done | assumption | omega | contradiction) | decide))
                 all_goals first
                  | omega
                  | exact hd
                  | exact hd.2.1 _ (by assumption)
                  | exact hd.2.2 _ (by assumption)
                  | (refine Nat.le_trans (Nat.mul_le_mul_right _ (Nat.add_le_add_right hfl 1)) ?_; omega)
                  | (have hq : o.1 = 4 := by assumption
                     have hx := (hst (by omega)).trans (congrArg _ (if_pos (decide_eq_true hq)))
                     refine fin_lp ⟨k + 1, by omega⟩ ?_ (by dsimp only; omega)
                     simp only [go_sem]
                     first | exact ⟨hx.symm, by omega⟩ | (rw [hx]; try (first | rfl | exact ⟨rfl, rfl⟩ | (and_intros <;> first | trivial | rfl | omega)); done))
                  | (have hq : ¬ o.1 = 4 := by assumption
                     have hx := (hst (by omega)).trans ((congrArg _ (if_neg (by unfold is4; rw [decide_eq_true_eq]; exact hq))).trans (List.append_nil _))
                     refine fin_lp ⟨k + 1, by omega⟩ ?_ (by dsimp only; omega)
                     simp only [go_sem]
                     first | exact ⟨hx.symm, by omega⟩ | (rw [hx]; try (first | rfl | exact ⟨rfl, rfl⟩ | (and_intros <;> first | trivial | rfl | omega)); done))
                  | (have e5 : B.take k = B := List.take_of_length_le (by omega)
                     first
                      | (rw [e5, hlaw]; simp; done)
                      | (rw [e5]; simp [hlaw]; done)
                      | (rw [e5, hlaw] at *; simp_all; done))
                  | (trace_state; fail))))
end Go.Proofs.YtjhoidgpecgfoaaDoor

/- The bulk of the second form's premise fits our reading of data; the program's frame. -/
namespace Go.Proofs.YtjhoidgpecgfoaaDoor
open Go.Ev Go.ChangeShapes Go.WideShapes Go.ChangeAt Go.RowKit

theorem bulk_ok (H : Type) : Bulk (H := H) Rows.uptoBulk Rows.uptoBulkAll where
 lit l := by cases l <;> simp [Rows.uptoBulk]
 str b := by simp [Rows.uptoBulk]
 nil := by simp [Rows.uptoBulk]
 sl a b := by simp only [Rows.uptoBulk]; omega
 agg a := by simp only [Rows.uptoBulk]; omega
 cons d r := by simp only [Rows.uptoBulkAll]

theorem own : ownKnob Tryd.prog.godebug = none := by kernel_rfl
theorem laid : laidOutB Tryd.prog = true := by kernel_rfl
end Go.Proofs.YtjhoidgpecgfoaaDoor
