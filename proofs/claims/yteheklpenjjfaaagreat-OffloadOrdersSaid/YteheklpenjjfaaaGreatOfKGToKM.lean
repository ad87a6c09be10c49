/- The generator of containers. -/
import Derived.Test.YteheklpenjjfaaaGreatEvSealToKX
import Derived.Test.YteheklpenjjfaaaGreatOfKCToKI
import Derived.Test.YteheklpenjjfaaaGreatOfK8ToKQ
set_option linter.unusedSimpArgs false
set_option linter.unusedVariables false
set_option maxRecDepth 100000
set_option maxHeartbeats 8000000
namespace Go.Proofs.YteheklpenjjfaaaGreat
open Go.Ev

attribute [local go_sem] List.set_cons_succ List.set_cons_zero List.getD_cons_succ List.getD_cons_zero List.set_nil
/-- What Containers gives. -/
structure CtsR (most n : Int) (l : List Cnt) : Prop where
 ok : CtsOk l
 len : (l.length : Int) ≤ most
 pl : ∀ c ∈ l, ∀ x ∈ c.pcs, ∃ j : Nat, (j : Int) < n ∧ x.1 = platesV j
 fl : ∀ c ∈ l, ∃ j : Nat, j < 3 ∧ c.flt = fltsV j
structure CtA (most k nm : Int) (xs : List Cnt) : Prop where
 len : (xs.length : Int) + k ≤ most
 n0 : 0 ≤ nm
 n1 : nm ≤ 2 * xs.length
 ok : ∀ c ∈ xs, propC c = true ∧ c.pcs = [] ∧ c.num ≤ nm ∧ ∃ j : Nat, j < 3 ∧ c.flt = fltsV j
 num : xs.Pairwise (fun a b => a.num < b.num)
 pos : ∀ i, i < xs.length → (xs.getD i ct0).pos = 0 ∨ (xs.getD i ct0).pos = i + 1
theorem CtA.push {most k nm : Int} {xs : List Cnt} (h : CtA most k nm xs) (hm : most ≤ 24) (hk : 0 < k) {v f c l m p r : Int} (hv : 1 ≤ v ∧ v ≤ 2) (hf : 0 ≤ f ∧ f < 3) (hc : 0 ≤ c ∧ c ≤ 31) (hl : 0 ≤ l ∧ l ≤ 20000) (hmo : 0 ≤ m ∧ m ≤ 60) (hp : p = 0 ∨ p = xs.length + 1) (hr : -50 ≤ r ∧ r ≤ 50) : CtA most (k - 1) (nm + v) (xs ++ [(nm + v, fltsV f, c, l, m, p, r, [])]) := by
 obtain ⟨il, in0, in1, iok, inum, ipos⟩ := h
 refine ⟨by simp; omega, by omega, by simp; omega, fun x hx => ?_, ?_, fun i hi => ?_⟩
 · rcases List.mem_append.1 hx with hx | hx
   · obtain ⟨h1, h2, h3, h4⟩ := iok x hx
     exact ⟨h1, h2, by omega, h4⟩
   · rw [List.mem_singleton.1 hx]
     refine ⟨?_, rfl, Int.le_refl _, f.toNat, by omega, by rw [show ((f.toNat : Nat) : Int) = f by omega]⟩
     unfold propC inV
     simp only [Cnt.num, Cnt.flt, Cnt.cats, Cnt.lim, Cnt.most, Cnt.pos, Cnt.arm, fltsV_ok, Bool.and_eq_true, decide_eq_true_eq, and_true]
     rcases hp with hp | hp <;> subst hp <;> omega
 · rw [List.pairwise_append]
   refine ⟨inum, List.pairwise_singleton _ _, fun x hx y hy => ?_⟩
   rw [List.mem_singleton.1 hy]
   have := (iok x hx).2.2.1
   show x.num < nm + v
   omega
 · by_cases e : i < xs.length
   · have := ipos i e
     rw [List.getD_eq_getElem?_getD, List.getElem?_append_left e, ← List.getD_eq_getElem?_getD]; exact this
   · have e : i = xs.length := by simp at hi; omega
     subst e
     rw [List.getD_eq_getElem?_getD, List.getElem?_append_right (Nat.le_refl _), Nat.sub_self]
     exact hp
structure CtB (i N : Nat) (yss : List (List Pce)) : Prop where
 len : yss.length = N
 c20 : ∀ p ∈ yss, p.length ≤ 20
 ok : ∀ p ∈ yss, PcsOk p
 pl : ∀ p ∈ yss, ∀ x ∈ p, ∃ j : Nat, j < i ∧ x.1 = platesV j
 ap : yss.Pairwise (fun a b => ∀ x ∈ a, ∀ y ∈ b, x.1 ≠ y.1)
theorem CtB.nil (N : Nat) : CtB 0 N (List.replicate N []) := by
 refine ⟨by simp, fun p hp => ?_, fun p hp => ?_, fun p hp => ?_, ?_⟩
 · rw [List.eq_of_mem_replicate hp]; simp
 · rw [List.eq_of_mem_replicate hp]; exact ⟨fun _ h => (by cases h), .nil⟩
 · rw [List.eq_of_mem_replicate hp]; intro x hx; cases hx
 · rw [List.pairwise_replicate]; right; intro x hx; cases hx
theorem CtB.step {i N : Nat} {yss : List (List Pce)} (h : CtB i N yss) : CtB (i + 1) N yss :=
 ⟨h.len, h.c20, h.ok, fun p hp x hx => (h.pl p hp x hx).imp fun j hj => ⟨by omega, hj.2⟩, h.ap⟩
theorem platesV_ne {a b : Nat} (h : a < b) (hb : b < 1000) : platesV a ≠ platesV b := fun e => by
 have := platesV_lt (a := a) (b := b) (by omega) (by omega) (by omega)
 rw [e, (pltC_cmp.eq _ _).2 rfl] at this
 omega
theorem set_getD {α : Type} (l : List α) (k : Nat) (v d : α) (j : Nat) (hj : j < l.length) : (l.set k v).getD j d = if k = j then v else l.getD j d := by
 rw [List.getD_eq_getElem?_getD, List.getD_eq_getElem?_getD, List.getElem?_set]
 split
 · rename_i e; subst e; simp [hj]
 · rfl
theorem CtB.put {i N k : Nat} {yss : List (List Pce)} (h : CtB i N yss) (hi : i < 1000) (hk : k < N) (h20 : (yss.getD k []).length < 20) {w c : Int} (hw : 1 ≤ w ∧ w ≤ 999) (hc : 0 ≤ c ∧ c ≤ 4) : CtB (i + 1) N (yss.set k (yss.getD k [] ++ [(platesV i, w, c)])) := by
 obtain ⟨h1, h2, h3, h4, h5⟩ := h
 have hmem : yss.getD k [] ∈ yss := getD_mem (by omega)
 have key : ∀ p ∈ yss.set k (yss.getD k [] ++ [(platesV i, w, c)]), p ∈ yss ∨ p = yss.getD k [] ++ [(platesV i, w, c)] := fun p hp => by
  rcases List.mem_or_eq_of_mem_set hp with h | h
  · exact .inl h
  · exact .inr h
 refine ⟨by simp [h1], fun p hp => ?_, fun p hp => ?_, fun p hp x hx => ?_, ?_⟩
 · rcases key p hp with h | h
   · exact h2 p h
   · rw [h, List.length_append, List.length_singleton]; omega
 · rcases key p hp with h | h
   · exact h3 p h
   · subst h
     refine ⟨fun x hx => ?_, ?_⟩
     · rcases List.mem_append.1 hx with hx | hx
       · exact (h3 _ hmem).ok x hx
       · rw [List.mem_singleton.1 hx]
         unfold okPc inV
         simp only [platesV_ok, Bool.and_eq_true, decide_eq_true_eq, true_and]
         omega
     · rw [List.pairwise_append]
       refine ⟨(h3 _ hmem).srt, List.pairwise_singleton _ _, fun x hx y hy => ?_⟩
       rw [List.mem_singleton.1 hy]
       obtain ⟨j, hj, e⟩ := h4 _ hmem x hx
       rw [e]
       exact platesV_lt (by omega) (by omega) (by omega)
 · rcases key p hp with h | h
   · exact (h4 p h x hx).imp fun j hj => ⟨by omega, hj.2⟩
   · subst h
     rcases List.mem_append.1 hx with hx | hx
     · exact (h4 _ hmem x hx).imp fun j hj => ⟨by omega, hj.2⟩
     · rw [List.mem_singleton.1 hx]; exact ⟨i, by omega, rfl⟩
 · rw [pw_getD []] at h5 ⊢
   intro a b hab hb x hx y hy
   rw [List.length_set] at hb
   rw [set_getD _ _ _ _ _ (by omega)] at hx hy
   have hA : yss.getD a [] ∈ yss := getD_mem (by omega)
   have hB : yss.getD b [] ∈ yss := getD_mem hb
   by_cases ea : k = a
   · rw [if_pos ea] at hx
     rw [if_neg (by omega)] at hy
     rcases List.mem_append.1 hx with hx | hx
     · rw [ea] at hx; exact h5 a b hab hb x hx y hy
     · rw [List.mem_singleton.1 hx]
       obtain ⟨j, hj, e⟩ := h4 _ hB y hy
       rw [e]; exact (platesV_ne hj hi).symm
   · rw [if_neg ea] at hx
     by_cases eb : k = b
     · rw [if_pos eb] at hy
       rcases List.mem_append.1 hy with hy | hy
       · rw [eb] at hy; exact h5 a b hab hb x hx y hy
       · rw [List.mem_singleton.1 hy]
         obtain ⟨j, hj, e⟩ := h4 _ hA x hx
         rw [e]; exact platesV_ne hj hi
     · rw [if_neg eb] at hy
       exact h5 a b hab hb x hx y hy
theorem zipS_len {xs : List Cnt} {yss : List (List Pce)} (h : yss.length = xs.length) : ((xs.zip yss).map (fun q => setPcs q.1 q.2)).length = xs.length := by simp [h]
theorem zipS_getD {xs : List Cnt} {yss : List (List Pce)} (h : yss.length = xs.length) {i : Nat} (hi : i < xs.length) : ((xs.zip yss).map (fun q => setPcs q.1 q.2)).getD i ct0 = setPcs (xs.getD i ct0) (yss.getD i []) := by
 simp [List.getD_eq_getElem?_getD, hi, h]
theorem CtsR.mk' {most n nm k : Int} {i : Nat} {xs : List Cnt} {yss : List (List Pce)} (hA : CtA most k nm xs) (hk : 0 ≤ k) (hm : most ≤ 24) (hB : CtB i xs.length yss) (hi : (i : Int) ≤ n ∨ i = 0) : CtsR most n ((xs.zip yss).map (fun q => setPcs q.1 q.2)) := by
 obtain ⟨il, in0, in1, iok, inum, ipos⟩ := hA
 obtain ⟨h1, h2, h3, h4, h5⟩ := hB
 have hl := zipS_len h1
 have hg : ∀ c ∈ (xs.zip yss).map (fun q => setPcs q.1 q.2), ∃ x ∈ xs, ∃ p ∈ yss, c = setPcs x p := fun c hc => by
  obtain ⟨q, hq, rfl⟩ := List.mem_map.1 hc
  exact ⟨q.1, (List.of_mem_zip (a := q.1) (b := q.2) hq).1, q.2, (List.of_mem_zip (a := q.1) (b := q.2) hq).2, rfl⟩
 refine ⟨⟨by omega, fun c hc => ?_, (pw_getD ct0).2 fun a b hab hb => ?_, (pw_getD ct0).2 fun a b hab hb => ?_, (pw_getD ct0).2 fun a b hab hb => ?_⟩, by omega, fun c hc x hx => ?_, fun c hc => ?_⟩
 · obtain ⟨x, hx, p, hp, rfl⟩ := hg c hc
   exact ⟨(iok x hx).1, Nat.le_trans (h2 p hp) (by omega), h3 p hp⟩
 · rw [hl] at hb
   rw [zipS_getD (i := a) h1 (by omega), zipS_getD (i := b) h1 hb]
   exact (pw_getD ct0).1 inum a b hab hb
 · rw [hl] at hb
   rw [zipS_getD (i := a) h1 (by omega), zipS_getD (i := b) h1 hb]
   intro hp he
   have hp : (xs.getD b ct0).pos ≠ 0 := hp
   have he : (xs.getD a ct0).pos = (xs.getD b ct0).pos := he
   have := ipos a (by omega)
   have := ipos b hb
   omega
 · rw [hl] at hb
   rw [zipS_getD (i := a) h1 (by omega), zipS_getD (i := b) h1 hb]
   exact (pw_getD []).1 h5 a b hab (by omega)
 · obtain ⟨x0, hx0, p, hp, rfl⟩ := hg c hc
   obtain ⟨j, hj, e⟩ := h4 p hp x hx
   exact ⟨j, by omega, e⟩
 · obtain ⟨x0, hx0, p, hp, rfl⟩ := hg c hc
   exact (iok x0 hx0).2.2.2
def con9 : RCon := { ps := [.p 62 ySR, .d false (.int .i64), .d false (.int .i64)], rs := [.d false (.sl yCT)], pre := fun (x : Src × Int × Int × Unit) => 0 ≤ x.1.2 ∧ 0 ≤ x.2.1 ∧ x.2.1 ≤ 24 ∧ x.2.2.1 ≤ 1000, rel := fun (x : Src × Int × Int × Unit) (y : List Cnt × Unit) (z : Src × Int × Int × Unit) => 0 ≤ z.1.2 ∧ CtsR x.2.1 x.2.2.1 y.1 }
theorem c9 : RCtrOk Tryz.prog 9 con9.rctr :=
 rcon_sound (G := ⟨[(12, con12.ctr), (27, con27.ctr), (11, con11.ctr), (28, con28.ctr)], [], [(7, 76), (53, 76), (58, 1), (84, 3), (93, 5), (99, 1)], [], []⟩) tab_ok (EnvOk.cons c12 has12 (EnvOk.cons c27 has27 (EnvOk.cons c11 has11 (EnvOk.cons c28 has28 EnvOk.nil)))) rfl Tryz.func9 rfl con9 77371328692341128053669831 (by kernel_rfl) (by decide) (by decide) rfl (by decide) rfl (by
  rintro ⟨⟨(s : List Int), (a : Int)⟩, (most : Int), (n : Int), _⟩ hpre hwf X hT hG hk hK
  (simp -implicitDefEqProofs (maxSteps := 4000000) only [go_sem, Bool.not_eq_true', Bool.not_eq_false', Bool.or_eq_true, Bool.or_eq_false_iff, Bool.and_eq_true, Bool.and_eq_false_iff, decide_eq_true_eq, decide_eq_false_iff_not, Classical.not_not, not_or, maxLen, con9, con12, con27, con11, con28, hT, hG, hk, hK, Tryz.results9] at hwf ⊢); (try simp (disch := decide +kernel) only [drawn, true_and, and_true])
  obtain ⟨h1, h2, h3, h4⟩ : 0 ≤ a ∧ 0 ≤ most ∧ most ≤ 24 ∧ n ≤ 1000 := hpre
  have hs1 : 0 ≤ (Src.step (s, a)).snd := step_pos h1
  have hkb := goMod_bd (Src.raw (s, a)) (most + 1) (by omega)
  generalize goMod (Src.raw (s, a)) (most + 1) = K at hkb ⊢
  generalize Src.step (s, a) = S1 at hs1 ⊢
  obtain ⟨s1, a1⟩ := S1
  (repeat' (with_reducible (first | refine And.intro ?_ ?_ | intro _))) <;> (try (first | with_reducible (first | done | assumption | omega | contradiction) | decide))
  refine evk_loop ⟨{ q : Src × List Cnt × Int × Int // 0 ≤ q.1.2 ∧ CtA most q.2.2.2 q.2.2.1 q.2.1 ∧ 0 ≤ q.2.2.2 }, 1000, fun q => [(0, .one (.loc 0 0)), (2, .one (.int .i64 n)), (7, .one (.row 64)), (8, .one (.int .i64 q.1.2.2.1)), (9, .one (.int .i64 q.1.2.2.2))],
   fun q => [(0, .cells 62 [.sl (.int .i64) q.1.1.1 false, .int .i64 q.1.1.2]), (64, .rowg 44 yCT 10 65 q.1.2.1 none), (65, .fam 68 yPC (List.replicate q.1.2.1.length []))], fun q => q.1.2.2.2.toNat⟩ ⟨((s1, a1), [], 0, K), hs1, ⟨by simp only [List.length_nil]; omega, Int.le_refl _, by simp, fun _ h => (by cases h), .nil, fun i h => absurd h (by simp)⟩, hkb.1⟩ ?_ ?_
  · simp only [go_sem]
    try (first | rfl | exact ⟨rfl, rfl⟩ | (and_intros <;> first | trivial | rfl | omega))
  · rintro ⟨⟨⟨s, a⟩, xs, nm, k⟩, (h1 : 0 ≤ a), (hI : CtA most k nm xs), (hk0 : 0 ≤ k)⟩
    (simp -implicitDefEqProofs (maxSteps := 4000000) only [go_sem, Bool.not_eq_true', Bool.not_eq_false', Bool.or_eq_true, Bool.or_eq_false_iff, Bool.and_eq_true, Bool.and_eq_false_iff, decide_eq_true_eq, decide_eq_false_iff_not, Classical.not_not, not_or, maxLen, con9, con12, con27, con11, con28, hT, hG, hk, hK, Tryz.results9]); (try simp (disch := decide +kernel) only [drawn, true_and, and_true])
    obtain ⟨il, in0, in1, iok, inum, ipos⟩ := hI
    have r1 := goMod_bd (Src.raw (s, a)) 2 (by omega)
    have p1 : 0 ≤ (Src.step (s, a)).snd := step_pos h1
    have p2 : 0 ≤ (Src.step (s, a)).step.snd := step_pos p1
    have p3 : 0 ≤ (Src.step (s, a)).step.step.snd := step_pos p2
    have p4 : 0 ≤ (Src.step (s, a)).step.step.step.snd := step_pos p3
    have p5 : 0 ≤ (Src.step (s, a)).step.step.step.step.snd := step_pos p4
    have p6 : 0 ≤ (Src.step (s, a)).step.step.step.step.step.snd := step_pos p5
    have p7 : 0 ≤ (Src.step (s, a)).step.step.step.step.step.step.snd := step_pos p6
    have r2 := goMod_bd (Src.step (s, a)).raw 3 (by omega)
    have r3 := goMod_bd (Src.step (s, a)).step.raw 6 (by omega)
    have r4 := goMod_bd (Src.step (s, a)).step.step.raw 300 (by omega)
    have r5 := goMod_bd (Src.step (s, a)).step.step.step.raw 10 (by omega)
    have r6 := goMod_bd (Src.step (s, a)).step.step.step.step.raw 21 (by omega)
    have r7 := goMod_bd (Src.step (s, a)).step.step.step.step.step.raw 3 (by omega)
    generalize (Src.step (s, a)).step.step.step.step.step.step = S7 at p7 ⊢
    generalize goMod (Src.step (s, a)).step.step.step.step.step.raw 3 = V7 at r7 ⊢
    generalize goMod (Src.step (s, a)).step.step.step.step.raw 21 = V6 at r6 ⊢
    generalize goMod (Src.step (s, a)).step.step.step.raw 10 = V5 at r5 ⊢
    generalize goMod (Src.step (s, a)).step.step.raw 300 = V4 at r4 ⊢
    generalize goMod (Src.step (s, a)).raw 3 = V2 at r2 ⊢
    generalize goMod (Src.raw (s, a)) 2 = V1 at r1 ⊢
    obtain ⟨s7, a7⟩ := S7
    have hc31 : ∀ k : Int, 0 ≤ k ∧ k < 6 → 0 ≤ [31, 31, 31, 3, 30, 1].getD k.toNat (0 : Int) ∧ [31, 31, 31, 3, 30, 1].getD k.toNat (0 : Int) ≤ 31 := fun k hk => by
     rcases (by omega : k = 0 ∨ k = 1 ∨ k = 2 ∨ k = 3 ∨ k = 4 ∨ k = 5) with rfl | rfl | rfl | rfl | rfl | rfl <;> decide
    have hc31 := hc31 _ r3
    have hrep : List.replicate xs.length ([] : List Pce) ++ [[]] = List.replicate (xs.length + 1) [] := by rw [List.replicate_succ']
    have hI : CtA most k nm xs := ⟨il, in0, in1, iok, inum, ipos⟩
    (repeat' (with_reducible (first | refine And.intro ?_ ?_ | intro _))) <;> (try (first | with_reducible (first | done | assumption | omega | contradiction) | decide))
    all_goals first
     | (have hv7 : V7 > 0 := by assumption
        refine fin_lp ⟨((s7, a7), xs ++ [_], nm + (1 + V1), k - 1), p7, CtA.push (v := 1 + V1) (f := V2) (c := [31, 31, 31, 3, 30, 1].getD (goMod (Src.step (s, a)).step.raw 6).toNat 0) (l := 50 + V4) (m := 2 + V5) (p := xs.length + 1) (r := V6 - 10) hI h3 (by omega) (by omega) r2 hc31 (by omega) (by omega) (.inr rfl) (by omega), (by show 0 ≤ k - 1; omega)⟩ ?_ (by dsimp only; omega)
        simp only [go_sem]
        rw [hrep, List.length_append]
        try (first | rfl | exact ⟨rfl, rfl⟩ | (and_intros <;> first | trivial | rfl | omega))
        done)
     | (have hv7 : ¬ V7 > 0 := by assumption
        refine fin_lp ⟨((s7, a7), xs ++ [_], nm + (1 + V1), k - 1), p7, CtA.push (v := 1 + V1) (f := V2) (c := [31, 31, 31, 3, 30, 1].getD (goMod (Src.step (s, a)).step.raw 6).toNat 0) (l := 50 + V4) (m := 2 + V5) (p := 0) (r := V6 - 10) hI h3 (by omega) (by omega) r2 hc31 (by omega) (by omega) (.inl rfl) (by omega), (by show 0 ≤ k - 1; omega)⟩ ?_ (by dsimp only; omega)
        simp only [go_sem]
        rw [hrep, List.length_append]
        try (first | rfl | exact ⟨rfl, rfl⟩ | (and_intros <;> first | trivial | rfl | omega))
        done)
     | (have hl0 : xs.length = 0 := by omega
        refine ⟨((xs.zip (List.replicate xs.length [])).map (fun q => setPcs q.1 q.2), ()), ((s, a), most, n, ()), ⟨h1, CtsR.mk' hI hk0 h3 (CtB.nil _) (.inr rfl)⟩, rfl, rfl, putSls_ct _ _⟩)
     | (refine evk_loop ⟨{ q : Src × List (List Pce) × Nat // 0 ≤ q.1.2 ∧ CtB q.2.2 xs.length q.2.1 ∧ ((q.2.2 : Int) ≤ n ∨ q.2.2 = 0) }, 1000, fun q => [(0, .one (.loc 0 0)), (2, .one (.int .i64 n)), (7, .one (.row 64)), (11, .one (.int .i64 q.1.2.2))],
         fun q => [(0, .cells 62 [.sl (.int .i64) q.1.1.1 false, .int .i64 q.1.1.2]), (64, .rowg 44 yCT 10 65 xs none), (65, .fam 68 yPC q.1.2.1)], fun q => n.toNat - q.1.2.2⟩ ⟨((s, a), List.replicate xs.length [], 0), h1, CtB.nil _, .inr rfl⟩ ?_ ?_
        · simp only [go_sem]
          try (first | rfl | exact ⟨rfl, rfl⟩ | (and_intros <;> first | trivial | rfl | omega))
        · rintro ⟨⟨⟨s, a⟩, yss, i⟩, (h1 : 0 ≤ a), (hB : CtB i xs.length yss), (hin : (i : Int) ≤ n ∨ i = 0)⟩
          (simp -implicitDefEqProofs (maxSteps := 4000000) only [go_sem, Bool.not_eq_true', Bool.not_eq_false', Bool.or_eq_true, Bool.or_eq_false_iff, Bool.and_eq_true, Bool.and_eq_false_iff, decide_eq_true_eq, decide_eq_false_iff_not, Classical.not_not, not_or, maxLen, con9, con12, con27, con11, con28, hT, hG, hk, hK, Tryz.results9]); (try simp (disch := decide +kernel) only [drawn, true_and, and_true])
          have hxl : 0 < xs.length := by omega
          have r1 := goMod_bd (Src.raw (s, a)) 3 (by omega)
          have p1 : 0 ≤ (Src.step (s, a)).snd := step_pos h1
          have p2 : 0 ≤ (Src.step (s, a)).step.snd := step_pos p1
          have p3 : 0 ≤ (Src.step (s, a)).step.step.snd := step_pos p2
          have p4 : 0 ≤ (Src.step (s, a)).step.step.step.snd := step_pos p3
          have r2 := goMod_bd (Src.step (s, a)).raw xs.length (by omega)
          have r3 := goMod_bd (Src.step (s, a)).step.raw 30 (by omega)
          have r4 := goMod_bd (Src.step (s, a)).step.step.raw 8 (by omega)
          have hw : ∀ k : Int, 0 ≤ k ∧ k < 8 → 0 ≤ [0, 0, 0, 0, 1, 2, 3, 4].getD k.toNat (0 : Int) ∧ [0, 0, 0, 0, 1, 2, 3, 4].getD k.toNat (0 : Int) ≤ 4 := fun k hk => by
           rcases (by omega : k = 0 ∨ k = 1 ∨ k = 2 ∨ k = 3 ∨ k = 4 ∨ k = 5 ∨ k = 6 ∨ k = 7) with rfl | rfl | rfl | rfl | rfl | rfl | rfl | rfl <;> decide
          have hw := hw _ r4
          have hyl := hB.len
          have hbl : ∀ k : Nat, (yss.getD k []).length ≤ 20 := fun k => by
           by_cases h : k < yss.length
           · exact hB.c20 _ (getD_mem h)
           · rw [List.getD_eq_getElem?_getD, List.getElem?_eq_none (by omega)]; simp
          have hbk := hbl (goMod (Src.step (s, a)).raw xs.length).toNat
          generalize (Src.step (s, a)).step.step.step = S4 at p4 ⊢
          generalize goMod (Src.step (s, a)).step.step.raw 8 = V4 at r4 hw ⊢
          generalize goMod (Src.step (s, a)).step.raw 30 = V3 at r3 ⊢
          generalize goMod (Src.step (s, a)).raw xs.length = V2 at r2 hbk ⊢
          generalize goMod (Src.raw (s, a)) 3 = V1 at r1 ⊢
          generalize (Src.step (s, a)).step = S2 at p2 ⊢
          generalize Src.step (s, a) = S1 at p1 ⊢
          obtain ⟨s4, a4⟩ := S4
          obtain ⟨s2, a2⟩ := S2
          obtain ⟨s1, a1⟩ := S1
          (repeat' (with_reducible (first | refine And.intro ?_ ?_ | intro _))) <;> (try (first | with_reducible (first | done | assumption | omega | contradiction) | decide))
          all_goals first
           | (have hv : V1 = 0 := by assumption
              refine fin_lp ⟨((s1, a1), yss, i + 1), p1, hB.step, (by show ((i + 1 : Nat) : Int) ≤ n ∨ _; omega)⟩ ?_ (by dsimp only; omega)
              simp only [go_sem]
              try (first | rfl | exact ⟨rfl, rfl⟩ | (and_intros <;> first | trivial | rfl | omega))
              done)
           | exact step_pos p2
           | (have h20 : ((yss.getD V2.toNat []).length : Int) < 20 := by assumption
              refine fin_lp ⟨((s4, a4), yss.set V2.toNat (yss.getD V2.toNat [] ++ [(platesV i, 1 + V3, [0, 0, 0, 0, 1, 2, 3, 4].getD V4.toNat 0)]), i + 1), p4, hB.put (by omega) (by omega) (by omega) (by omega) hw, (by show ((i + 1 : Nat) : Int) ≤ n ∨ _; omega)⟩ ?_ (by dsimp only; omega)
              simp only [go_sem]
              rw [List.set_set]
              try (first | rfl | exact ⟨rfl, rfl⟩ | (and_intros <;> first | trivial | rfl | omega))
              done)
           | (have h20 : ¬ ((yss.getD V2.toNat []).length : Int) < 20 := by assumption
              refine fin_lp ⟨((s4, a4), yss, i + 1), p4, hB.step, (by show ((i + 1 : Nat) : Int) ≤ n ∨ _; omega)⟩ ?_ (by dsimp only; omega)
              simp only [go_sem]
              try (first | rfl | exact ⟨rfl, rfl⟩ | (and_intros <;> first | trivial | rfl | omega))
              done)
           | (refine ⟨((xs.zip yss).map (fun q => setPcs q.1 q.2), ()), ((s, a), most, n, ()), ⟨h1, CtsR.mk' hI hk0 h3 hB hin⟩, rfl, rfl, putSls_ct _ _⟩)
           | fail))
end Go.Proofs.YteheklpenjjfaaaGreat

/- The generators of empty containers and of spoilt ones. -/
set_option linter.unusedSimpArgs false
set_option linter.unusedVariables false
set_option maxRecDepth 100000
set_option maxHeartbeats 8000000
namespace Go.Proofs.YteheklpenjjfaaaGreat
open Go.Ev

attribute [local go_sem] List.set_cons_succ List.set_cons_zero List.getD_cons_succ List.getD_cons_zero List.set_nil
def empC (i j : Nat) : Cnt := ((i : Int) + 1, fltsV j, 31, 500, 20, (i : Int) + 1, 0, [])
/-- What Empties gives. -/
structure EmpR (most : Int) (l : List Cnt) : Prop where
 len : (l.length : Int) ≤ most
 at_ : ∀ i, i < l.length → ∃ j : Nat, j < 3 ∧ l.getD i ct0 = empC i j
theorem EmpR.ok {most : Int} {l : List Cnt} (h : EmpR most l) (hm : most ≤ 24) : CtsOk l := by
 have hl := h.len
 have hp : ∀ i j : Nat, i < 24 → propC (empC i j) = true := fun i j hi => by
  unfold propC inV empC
  simp only [Cnt.num, Cnt.flt, Cnt.cats, Cnt.lim, Cnt.most, Cnt.pos, Cnt.arm, fltsV_ok, Bool.and_eq_true, decide_eq_true_eq, and_true]
  omega
 refine ⟨by omega, fun c hc => ?_, (pw_getD ct0).2 fun a b hab hb => ?_, (pw_getD ct0).2 fun a b hab hb => ?_, (pw_getD ct0).2 fun a b hab hb => ?_⟩
 · obtain ⟨i, hi, rfl⟩ := getD_ct hc
   obtain ⟨j, _, e⟩ := h.at_ i hi
   rw [e]
   exact ⟨hp i j (by omega), (by show (0 : Nat) ≤ 60; omega), fun x hx => (by cases hx), .nil⟩
 · obtain ⟨j, _, e⟩ := h.at_ a (by omega)
   obtain ⟨k, _, e2⟩ := h.at_ b hb
   rw [e, e2]; show ((a : Int) + 1) < (b : Int) + 1; omega
 · obtain ⟨j, _, e⟩ := h.at_ a (by omega)
   obtain ⟨k, _, e2⟩ := h.at_ b hb
   rw [e, e2]; intro _ hq
   have hq : (a : Int) + 1 = (b : Int) + 1 := hq
   omega
 · obtain ⟨j, _, e⟩ := h.at_ a (by omega)
   rw [e]; intro x hx; cases hx
def con10 : RCon := { ps := [.p 62 ySR, .d false (.sl yCT)], rs := [.d false (.sl yCT)], pre := fun (x : Src × List Cnt × Unit) => 0 ≤ x.1.2 ∧ x.2.1.length ≤ 1000 ∧ ∀ o ∈ x.2.1, o.pcs.length ≤ 1000, rel := fun (x : Src × List Cnt × Unit) (y : List Cnt × Unit) (z : Src × List Cnt × Unit) => 0 ≤ z.1.2 }
theorem c10 : RCtrOk Tryz.prog 10 con10.rctr :=
 rcon_sound (G := ⟨[(12, con12.ctr), (27, con27.ctr), (29, con29.ctr), (28, con28.ctr)], [], [(5, 76), (25, 76), (31, 1), (99, 5), (114, 5), (136, 1)], [], []⟩) tab_ok (EnvOk.cons c12 has12 (EnvOk.cons c27 has27 (EnvOk.cons c29 has29 (EnvOk.cons c28 has28 EnvOk.nil)))) rfl Tryz.func10 rfl con10 170141264592588371583434028650734820851 (by kernel_rfl) (by decide) (by decide) rfl (by decide) rfl (by
  rintro ⟨⟨(s : List Int), (a : Int)⟩, (l : List Cnt), _⟩ hpre hwf X hT hG hk hK
  (simp -implicitDefEqProofs (maxSteps := 4000000) only [go_sem, Bool.not_eq_true', Bool.not_eq_false', Bool.or_eq_true, Bool.or_eq_false_iff, Bool.and_eq_true, Bool.and_eq_false_iff, decide_eq_true_eq, decide_eq_false_iff_not, Classical.not_not, not_or, maxLen, con10, con12, con27, con29, con28, hT, hG, hk, hK, Tryz.results10] at hwf ⊢); (try simp (disch := decide +kernel) only [drawn, true_and, and_true])
  obtain ⟨h1, h2, h3⟩ : 0 ≤ a ∧ l.length ≤ 1000 ∧ ∀ o ∈ l, o.pcs.length ≤ 1000 := hpre
  refine fun _ => evk_loop ⟨{ i : Nat // i ≤ l.length }, 1000, fun q => [(0, .one (.loc 0 0)), (1, .one (.sl yCT l false)), (5, .one (.row 64)), (10, .one (.int .i64 l.length)), (11, .one (.int .i64 q.1))],
   fun q => [(0, .cells 62 [.sl (.int .i64) s false, .int .i64 a]), (64, .rowg 44 yCT 10 65 ((l.take q.1).map (fun o => setPcs o [])) none), (65, .fam 68 yPC ((l.take q.1).map (fun o => o.pcs)))], fun q => l.length - q.1⟩ ⟨0, Nat.zero_le _⟩ ?_ ?_
  · simp only [go_sem]
    try (first | rfl | exact ⟨rfl, rfl⟩ | (and_intros <;> first | trivial | rfl | omega))
  · rintro ⟨i, (hi : i ≤ l.length)⟩
    (simp -implicitDefEqProofs (maxSteps := 4000000) only [go_sem, Bool.not_eq_true', Bool.not_eq_false', Bool.or_eq_true, Bool.or_eq_false_iff, Bool.and_eq_true, Bool.and_eq_false_iff, decide_eq_true_eq, decide_eq_false_iff_not, Classical.not_not, not_or, maxLen, con10, con12, con27, con29, con28, hT, hG, hk, hK, Tryz.results10]); (try simp (disch := decide +kernel) only [drawn, true_and, and_true])
    obtain ⟨o, ho⟩ : ∃ o, l.getD i ct0 = o := ⟨_, rfl⟩
    have eo : l.getD (i : Int).toNat (0, (ByteArray.empty, 0, ByteArray.empty, 0), 0, 0, 0, 0, 0, []) = o := ho
    try simp only [eo]
    have htl : ((l.take i).map (fun o => setPcs o [])).length = i := by rw [List.length_map, List.length_take]; omega
    have hop : i < l.length → o.pcs.length ≤ 1000 := fun h => h3 o (by rw [← ho]; exact getD_mem h)
    have hts : i < l.length → l.take (i + 1) = l.take i ++ [o] := fun h => by rw [List.take_succ_eq_append_getElem h, ← getD_lt (d := ct0) h, ho]
    have p1 : 0 ≤ (Src.step (s, a)).snd := step_pos h1
    have p2 : 0 ≤ (Src.step (s, a)).step.snd := step_pos p1
    have p3 : 0 ≤ (Src.step (s, a)).step.step.snd := step_pos p2
    have p4 : 0 ≤ (Src.step (s, a)).step.step.step.snd := step_pos p3
    have p5 : 0 ≤ (Src.step (s, a)).step.step.step.step.snd := step_pos p4
    have r1 : 0 < l.length → 0 ≤ goMod (Src.raw (s, a)) l.length ∧ goMod (Src.raw (s, a)) l.length < l.length := fun h => goMod_bd _ _ (by omega)
    simp only [htl]
    refine ⟨fun hlt => ?_, fun hge => ?_⟩
    · have hop : List.length o.2.2.2.2.2.2.2 ≤ 1000 := hop (by omega)
      have e1 := hts (by omega)
      (repeat' (with_reducible (first | refine And.intro ?_ ?_ | intro _))) <;> (try (first | with_reducible (first | done | assumption | omega | contradiction) | decide))
      all_goals first
       | (refine fin_lp ⟨i + 1, by omega⟩ ?_ (by dsimp only; omega)
          simp only [go_sem]
          rw [e1, List.map_append, List.map_append]
          try (first | rfl | exact ⟨rfl, rfl⟩ | (and_intros <;> first | trivial | rfl | omega))
          done)
       | omega
       | fail
    · have ei : l.take i = l := List.take_of_length_le (by omega)
      have eil : i = l.length := by omega
      simp only [eil, List.take_length]
      have hpl : ∀ k : Nat, (((l.map (fun o => o.pcs)).getD k []).length) ≤ 1000 := fun k => by
       by_cases h : k < l.length
       · rw [getD_lt (by rw [List.length_map]; exact h), List.getElem_map]; exact h3 _ (List.getElem_mem h)
       · rw [List.getD_eq_getElem?_getD, List.getElem?_eq_none (by rw [List.length_map]; omega)]; simp
      (repeat' (with_reducible (first | refine And.intro ?_ ?_ | intro _))) <;> (try (first | with_reducible (first | done | assumption | omega | contradiction) | decide))
      all_goals first
       | (have hl0 : 0 < l.length := by omega
          have r1 := r1 hl0
          omega)
       | exact ⟨(_, ()), ((_, _), l, ()), (by first | exact h1 | exact p1 | exact p2 | exact p3 | exact p4 | exact step_pos p1 | exact step_pos p2 | exact step_pos p3 | exact step_pos p4 | exact step_pos p5), rfl, rfl, rfl⟩
       | (have := hpl (goMod (Src.raw (s, a)) l.length).toNat
          omega)
       | (rw [putSls_ct, List.length_map, List.length_zip, List.length_map, List.length_map]; omega)
       | exact p1
       | exact p2
       | exact p3
       | exact p4
       | exact p5
       | fail)
end Go.Proofs.YteheklpenjjfaaaGreat

/- The generator of spoilt containers once more: it gives few of them. -/
set_option linter.unusedSimpArgs false
set_option linter.unusedVariables false
set_option maxRecDepth 100000
set_option maxHeartbeats 8000000
namespace Go.Proofs.YteheklpenjjfaaaGreat
open Go.Ev
attribute [local go_sem] List.set_cons_succ List.set_cons_zero List.getD_cons_succ List.getD_cons_zero List.set_nil

def conSpL : RCon := { ps := [.p 62 ySR, .d false (.sl yCT)], rs := [.d false (.sl yCT)], pre := fun (x : Src × List Cnt × Unit) => 0 ≤ x.1.2 ∧ x.2.1.length ≤ 1000 ∧ ∀ o ∈ x.2.1, o.pcs.length ≤ 1000, rel := fun (x : Src × List Cnt × Unit) (y : List Cnt × Unit) (z : Src × List Cnt × Unit) => 0 ≤ z.1.2 ∧ y.1.length ≤ 1001 }
theorem cSpL : RCtrOk Tryz.prog 10 conSpL.rctr :=
 rcon_sound (G := ⟨[(12, con12.ctr), (27, con27.ctr), (29, con29.ctr), (28, con28.ctr)], [], [(5, 76), (25, 76), (31, 1), (99, 5), (114, 5), (136, 1)], [], []⟩) tab_ok (EnvOk.cons c12 has12 (EnvOk.cons c27 has27 (EnvOk.cons c29 has29 (EnvOk.cons c28 has28 EnvOk.nil)))) rfl Tryz.func10 rfl conSpL 170141264592588371583434028650734820851 (by kernel_rfl) (by decide) (by decide) rfl (by decide) rfl (by
  rintro ⟨⟨(s : List Int), (a : Int)⟩, (l : List Cnt), _⟩ hpre hwf X hT hG hk hK
  (simp -implicitDefEqProofs (maxSteps := 4000000) only [go_sem, Bool.not_eq_true', Bool.not_eq_false', Bool.or_eq_true, Bool.or_eq_false_iff, Bool.and_eq_true, Bool.and_eq_false_iff, decide_eq_true_eq, decide_eq_false_iff_not, Classical.not_not, not_or, maxLen, conSpL, con12, con27, con29, con28, hT, hG, hk, hK, Tryz.results10] at hwf ⊢); (try simp (disch := decide +kernel) only [drawn, true_and, and_true])
  obtain ⟨h1, h2, h3⟩ : 0 ≤ a ∧ l.length ≤ 1000 ∧ ∀ o ∈ l, o.pcs.length ≤ 1000 := hpre
  refine fun _ => evk_loop ⟨{ i : Nat // i ≤ l.length }, 1000, fun q => [(0, .one (.loc 0 0)), (1, .one (.sl yCT l false)), (5, .one (.row 64)), (10, .one (.int .i64 l.length)), (11, .one (.int .i64 q.1))],
   fun q => [(0, .cells 62 [.sl (.int .i64) s false, .int .i64 a]), (64, .rowg 44 yCT 10 65 ((l.take q.1).map (fun o => setPcs o [])) none), (65, .fam 68 yPC ((l.take q.1).map (fun o => o.pcs)))], fun q => l.length - q.1⟩ ⟨0, Nat.zero_le _⟩ ?_ ?_
  · simp only [go_sem]
    try (first | rfl | exact ⟨rfl, rfl⟩ | (and_intros <;> first | trivial | rfl | omega))
  · rintro ⟨i, (hi : i ≤ l.length)⟩
    (simp -implicitDefEqProofs (maxSteps := 4000000) only [go_sem, Bool.not_eq_true', Bool.not_eq_false', Bool.or_eq_true, Bool.or_eq_false_iff, Bool.and_eq_true, Bool.and_eq_false_iff, decide_eq_true_eq, decide_eq_false_iff_not, Classical.not_not, not_or, maxLen, conSpL, con12, con27, con29, con28, hT, hG, hk, hK, Tryz.results10]); (try simp (disch := decide +kernel) only [drawn, true_and, and_true])
    obtain ⟨o, ho⟩ : ∃ o, l.getD i ct0 = o := ⟨_, rfl⟩
    have eo : l.getD (i : Int).toNat (0, (ByteArray.empty, 0, ByteArray.empty, 0), 0, 0, 0, 0, 0, []) = o := ho
    try simp only [eo]
    have htl : ((l.take i).map (fun o => setPcs o [])).length = i := by rw [List.length_map, List.length_take]; omega
    have hop : i < l.length → o.pcs.length ≤ 1000 := fun h => h3 o (by rw [← ho]; exact getD_mem h)
    have hts : i < l.length → l.take (i + 1) = l.take i ++ [o] := fun h => by rw [List.take_succ_eq_append_getElem h, ← getD_lt (d := ct0) h, ho]
    have p1 : 0 ≤ (Src.step (s, a)).snd := step_pos h1
    have p2 : 0 ≤ (Src.step (s, a)).step.snd := step_pos p1
    have p3 : 0 ≤ (Src.step (s, a)).step.step.snd := step_pos p2
    have p4 : 0 ≤ (Src.step (s, a)).step.step.step.snd := step_pos p3
    have p5 : 0 ≤ (Src.step (s, a)).step.step.step.step.snd := step_pos p4
    have r1 : 0 < l.length → 0 ≤ goMod (Src.raw (s, a)) l.length ∧ goMod (Src.raw (s, a)) l.length < l.length := fun h => goMod_bd _ _ (by omega)
    simp only [htl]
    refine ⟨fun hlt => ?_, fun hge => ?_⟩
    · have hop : List.length o.2.2.2.2.2.2.2 ≤ 1000 := hop (by omega)
      have e1 := hts (by omega)
      (repeat' (with_reducible (first | refine And.intro ?_ ?_ | intro _))) <;> (try (first | with_reducible (first | done | assumption | omega | contradiction) | decide))
      all_goals first
       | (refine fin_lp ⟨i + 1, by omega⟩ ?_ (by dsimp only; omega)
          simp only [go_sem]
          rw [e1, List.map_append, List.map_append]
          try (first | rfl | exact ⟨rfl, rfl⟩ | (and_intros <;> first | trivial | rfl | omega))
          done)
       | omega
       | fail
    · have ei : l.take i = l := List.take_of_length_le (by omega)
      have eil : i = l.length := by omega
      simp only [eil, List.take_length]
      have hpl : ∀ k : Nat, (((l.map (fun o => o.pcs)).getD k []).length) ≤ 1000 := fun k => by
       by_cases h : k < l.length
       · rw [getD_lt (by rw [List.length_map]; exact h), List.getElem_map]; exact h3 _ (List.getElem_mem h)
       · rw [List.getD_eq_getElem?_getD, List.getElem?_eq_none (by rw [List.length_map]; omega)]; simp
      (repeat' (with_reducible (first | refine And.intro ?_ ?_ | intro _))) <;> (try (first | with_reducible (first | done | assumption | omega | contradiction) | decide))
      all_goals first
       | (have hl0 : 0 < l.length := by omega
          have r1 := r1 hl0
          omega)
       | (refine ⟨(_, ()), ((_, _), l, ()), ⟨(by first | exact h1 | exact p1 | exact p2 | exact p3 | exact p4 | exact step_pos p1 | exact step_pos p2 | exact step_pos p3 | exact step_pos p4 | exact step_pos p5), ?_⟩, rfl, rfl, rfl⟩
          dsimp only
          first
           | (simp only [putSls_ct, List.length_append, List.length_map, List.length_zip, List.length_set, List.length_take, List.length_cons, List.length_nil]; omega)
           | fail)
       | (have := hpl (goMod (Src.raw (s, a)) l.length).toNat
          omega)
       | (rw [putSls_ct, List.length_map, List.length_zip, List.length_map, List.length_map]; omega)
       | exact p1
       | exact p2
       | exact p3
       | exact p4
       | exact p5
       | fail)
end Go.Proofs.YteheklpenjjfaaaGreat

/- The contract of OffloadOrders. -/
set_option linter.unusedSimpArgs false
set_option linter.unusedVariables false
set_option maxRecDepth 100000
set_option maxHeartbeats 16000000
namespace Go.Proofs.YteheklpenjjfaaaGreat
open Go.Ev

def con3 : Con := { ps := [.d false (.sl yCT), .d false (.sl (.int .i64)), .d true yFL, .d false (.sl yTK), .d false (.int .i64)], rs := [.d false .bool], pre := fun _ => True, out := fun x => (true, ()), nw := id }
theorem c3 : CtrOk Tryz.prog 3 con3.ctr :=
 con_sound (G := ⟨[(7, con7.ctr), (8, con8.ctr), (12, con12.ctr), (11, con11.ctr), (14, con14.ctr), (17, con17.ctr), (20, con20.ctr), (15, con15.ctr), (18, con18.ctr), (21, con21.ctr), (16, con16.ctr), (19, con19.ctr), (22, con22.ctr)], [(9, con9.rctr), (10, conSpL.rctr), (13, con13.rctr)], [], [], []⟩) tab_ok (EnvOk.cons c7 has7 (EnvOk.cons c8 has8 (EnvOk.cons c12 has12 (EnvOk.cons c11 has11 (EnvOk.cons c14 has14 (EnvOk.cons c17 has17 (EnvOk.cons c20 has20 (EnvOk.cons c15 has15 (EnvOk.cons c18 has18 (EnvOk.cons c21 has21 (EnvOk.cons c16 has16 (EnvOk.cons c19 has19 (EnvOk.cons c22 has22 (EnvOk.rcons c9 has9 (EnvOk.rcons cSpL has10 (EnvOk.rcons c13 has13 EnvOk.nil)))))))))))))))) rfl Tryz.func3 rfl con3 46768074695339076802158212235231915082416670989471 (by kernel_rfl) (by decide) (by decide) rfl (by decide) rfl (by
  rintro ⟨(c : List Cnt), (src : List Int), ⟨f1, (f2 : Int), f3, (f4 : Int)⟩, (t : List Tsk), (nu : Int), _⟩ hpre hwf X hT hG hk hK
  (simp -implicitDefEqProofs (maxSteps := 4000000) only [go_sem, Bool.not_eq_true', Bool.not_eq_false', Bool.or_eq_true, Bool.or_eq_false_iff, Bool.and_eq_true, Bool.and_eq_false_iff, decide_eq_true_eq, decide_eq_false_iff_not, Classical.not_not, not_or, maxLen, con3, con7, con8, con12, con11, con14, con17, con20, con15, con18, con21, con16, con19, con22, con9, conSpL, con13, hT, hG, hk, hK, Tryz.results3] at hwf ⊢); (try simp (disch := decide +kernel) only [drawn, true_and, and_true])
  clear hwf
  obtain ⟨f, hf⟩ : ∃ f : Flt, (f1, f2, f3, f4) = f := ⟨_, rfl⟩
  refine fun _ hs _ => ⟨by decide, ?_⟩
  have hcl := (smallC_of hs.1).2
  have hcp := (smallC_of hs.1).1
  rintro ⟨⟨(many : List Cnt), _⟩, ⟨⟨(s1 : List Int), (a1 : Int)⟩, _⟩⟩ hy1
  obtain ⟨⟨h1, hmr⟩, -⟩ := hy1
  have h1 : 0 ≤ a1 := h1
  have hmr : CtsR 9 5 many := hmr
  have hml := hmr.ok.len
  refine ⟨⟨h1, (by show many.length ≤ 1000; omega), fun o ho => by have := (hmr.ok.ok o ho).2.1; omega⟩, ?_⟩
  rintro ⟨⟨(spc : List Cnt), _⟩, ⟨⟨(s2 : List Int), (a2 : Int)⟩, _⟩⟩ hy2
  have h2 : 0 ≤ a2 := hy2.1.1
  have hsl : spc.length ≤ 1001 := hy2.1.2
  clear hy2
  dsimp only
  refine fun _ => evk_loop ⟨{ q : Src × Nat // 0 ≤ q.1.2 ∧ q.2 ≤ 3 }, 1000, fun q => [(3, .one (.sl yTK t false)), (4, .one (.int .i64 nu)), (7, .one (.loc 70 0)), (11, .one (.loc 72 0)), (48, .one (.sl (.sl yCT) [c, many, spc] false)), (49, .one (.int .i64 3)), (50, .one (.int .i64 q.1.2))], fun q => [(70, .cells 25 [.str f1, .int .i64 f2, .str f3, .int .i64 f4]), (72, .cells 62 [.sl (.int .i64) q.1.1.1 false, .int .i64 q.1.1.2])], fun q => 3 - q.1.2⟩ ⟨((s2, a2), 0), h2, Nat.zero_le _⟩ ?_ ?_
  · simp only [go_sem]
    try (first | rfl | exact ⟨rfl, rfl⟩ | (and_intros <;> first | trivial | rfl | omega))
  · rintro ⟨⟨⟨s, a⟩, i1⟩, (h3 : 0 ≤ a), (hi1 : i1 ≤ 3)⟩
    (simp -implicitDefEqProofs (maxSteps := 4000000) only [go_sem, Bool.not_eq_true', Bool.not_eq_false', Bool.or_eq_true, Bool.or_eq_false_iff, Bool.and_eq_true, Bool.and_eq_false_iff, decide_eq_true_eq, decide_eq_false_iff_not, Classical.not_not, not_or, maxLen, con3, con7, con8, con12, con11, con14, con17, con20, con15, con18, con21, con16, con19, con22, con9, conSpL, con13, hT, hG, hk, hK, Tryz.results3]); (try simp (disch := decide +kernel) only [drawn, true_and, and_true])
    obtain ⟨x, hx⟩ : ∃ x, [c, many, spc].getD i1 [] = x := ⟨_, rfl⟩
    have ex : [c, many, spc].getD (i1 : Int).toNat [] = x := hx
    try simp only [ex]
    have hxl : x.length ≤ 1001 := by
     rw [← hx]
     match i1 with
     | 0 => exact Nat.le_trans hcl (by decide)
     | 1 => exact Nat.le_trans hml (by decide)
     | 2 => exact hsl
     | n + 3 => exact Nat.zero_le _
    clear hx ex
    refine fun hlt => ⟨⟨by omega, by omega⟩, fun _ _ => ⟨h3, ?_⟩⟩
    have p1 : 0 ≤ (Src.step (s, a)).2 := step_pos h3
    generalize fltsV (goMod (Src.raw (s, a)) 3) = fg
    generalize Src.step (s, a) = S1 at p1 ⊢
    obtain ⟨s3, a3⟩ := S1
    obtain ⟨g1, g2, g3, g4⟩ := fg
    intros
    refine evk_loop ⟨{ q : Src × Nat // 0 ≤ q.1.2 ∧ q.2 ≤ 2 }, 2000, fun q => [(3, .one (.sl yTK t false)), (4, .one (.int .i64 nu)), (7, .one (.loc 70 0)), (11, .one (.loc 72 0)), (48, .one (.sl (.sl yCT) [c, many, spc] false)), (49, .one (.int .i64 3)), (50, .one (.int .i64 i1)), (14, .one (.sl yCT x false)), (58, .one (.sl yFL [(f1, f2, f3, f4), (g1, g2, g3, g4)] false)), (59, .one (.int .i64 2)), (60, .one (.int .i64 q.1.2))], fun q => [(70, .cells 25 [.str f1, .int .i64 f2, .str f3, .int .i64 f4]), (72, .cells 62 [.sl (.int .i64) q.1.1.1 false, .int .i64 q.1.1.2])], fun q => 2 - q.1.2⟩ ⟨((s3, a3), 0), p1, Nat.zero_le _⟩ ?_ ?_
    · simp only [go_sem]
      try (first | rfl | exact ⟨rfl, rfl⟩ | (and_intros <;> first | trivial | rfl | omega))
    · rintro ⟨⟨⟨s4, a4⟩, i2⟩, (h4 : 0 ≤ a4), (hi2 : i2 ≤ 2)⟩
      (simp -implicitDefEqProofs (maxSteps := 4000000) only [go_sem, Bool.not_eq_true', Bool.not_eq_false', Bool.or_eq_true, Bool.or_eq_false_iff, Bool.and_eq_true, Bool.and_eq_false_iff, decide_eq_true_eq, decide_eq_false_iff_not, Classical.not_not, not_or, maxLen, con3, con7, con8, con12, con11, con14, con17, con20, con15, con18, con21, con16, con19, con22, con9, conSpL, con13, hT, hG, hk, hK, Tryz.results3]); (try simp (disch := decide +kernel) only [drawn, true_and, and_true])
      obtain ⟨⟨e1, e2, e3, e4⟩, he⟩ : ∃ e, ([(f1, f2, f3, f4), (g1, g2, g3, g4)] : List Flt).getD i2 (ByteArray.empty, 0, ByteArray.empty, 0) = e := ⟨_, rfl⟩
      have ee : ([(f1, f2, f3, f4), (g1, g2, g3, g4)] : List Flt).getD (i2 : Int).toNat (ByteArray.empty, 0, ByteArray.empty, 0) = (e1, e2, e3, e4) := he
      try simp only [ee]
      clear he ee
      refine ⟨fun hlt2 => ⟨⟨by omega, by omega⟩, fun _ _ => ⟨⟨h4, by decide, by decide⟩, ?_⟩⟩, fun hge2 => ?_⟩
      · rintro ⟨⟨(T0 : List Tsk), _⟩, ⟨⟨(s5 : List Int), (a5 : Int)⟩, _⟩⟩ hy5
        have h5 : 0 ≤ a5 := hy5.1.1
        clear hy5
        dsimp only
        intros
        refine evk_loop ⟨{ k : Nat // k ≤ 3 }, 3000, fun q => [(3, .one (.sl yTK t false)), (4, .one (.int .i64 nu)), (7, .one (.loc 70 0)), (11, .one (.loc 72 0)), (48, .one (.sl (.sl yCT) [c, many, spc] false)), (49, .one (.int .i64 3)), (50, .one (.int .i64 i1)), (14, .one (.sl yCT x false)), (58, .one (.sl yFL [(f1, f2, f3, f4), (g1, g2, g3, g4)] false)), (59, .one (.int .i64 2)), (60, .one (.int .i64 i2)), (16, .one (.loc 74 0)), (68, .one (.sl (.sl yTK) [t, T0, []] false)), (69, .one (.int .i64 3)), (70, .one (.int .i64 q.1))], fun q => [(70, .cells 25 [.str f1, .int .i64 f2, .str f3, .int .i64 f4]), (72, .cells 62 [.sl (.int .i64) s5 false, .int .i64 a5]), (74, .cells 25 [.str e1, .int .i64 e2, .str e3, .int .i64 e4])], fun q => 3 - q.1⟩ ⟨0, Nat.zero_le _⟩ ?_ ?_
        · simp only [go_sem]
          try (first | rfl | exact ⟨rfl, rfl⟩ | (and_intros <;> first | trivial | rfl | omega))
        · rintro ⟨i3, (hi3 : i3 ≤ 3)⟩
          (simp -implicitDefEqProofs (maxSteps := 4000000) only [go_sem, Bool.not_eq_true', Bool.not_eq_false', Bool.or_eq_true, Bool.or_eq_false_iff, Bool.and_eq_true, Bool.and_eq_false_iff, decide_eq_true_eq, decide_eq_false_iff_not, Classical.not_not, not_or, maxLen, con3, con7, con8, con12, con11, con14, con17, con20, con15, con18, con21, con16, con19, con22, con9, conSpL, con13, hT, hG, hk, hK, Tryz.results3]); (try simp (disch := decide +kernel) only [drawn, true_and, and_true])
          obtain ⟨ts, hts⟩ : ∃ e, ([t, T0, []] : List (List Tsk)).getD i3 [] = e := ⟨_, rfl⟩
          have ets : ([t, T0, []] : List (List Tsk)).getD (i3 : Int).toNat [] = ts := hts
          try simp only [ets]
          clear hts ets
          (repeat' (with_reducible (first | refine And.intro ?_ ?_ | intro _))) <;> (try (first | with_reducible (first | done | assumption | omega | contradiction) | decide))
          all_goals first
           | omega
           | (refine fin_lp ⟨i3 + 1, by omega⟩ ?_ (by dsimp only; omega)
              simp only [go_sem]
              try (first | rfl | exact ⟨rfl, rfl⟩ | (and_intros <;> first | trivial | rfl | omega))
              done)
           | (refine fin_lp ⟨((s5, a5), i2 + 1), h5, (by show i2 + 1 ≤ 2; omega)⟩ ?_ (by dsimp only; omega)
              simp only [go_sem]
              try (first | rfl | exact ⟨rfl, rfl⟩ | (and_intros <;> first | trivial | rfl | omega))
              done)
           | fail
      · have hb := goMod_bd (Src.raw (s4, a4)) 9 (by omega)
        have p4 : 0 ≤ (Src.step (s4, a4)).2 := step_pos h4
        refine ⟨h4, ?_⟩
        generalize goMod (Src.raw (s4, a4)) 9 = n9 at hb ⊢
        generalize Src.step (s4, a4) = S6 at p4 ⊢
        obtain ⟨s6, a6⟩ := S6
        refine fun _ => ⟨by omega, fun _ => ?_⟩
        refine evk_loop ⟨{ k : Nat // k ≤ x.length }, 4000, fun q => [(3, .one (.sl yTK t false)), (4, .one (.int .i64 nu)), (7, .one (.loc 70 0)), (11, .one (.loc 72 0)), (48, .one (.sl (.sl yCT) [c, many, spc] false)), (49, .one (.int .i64 3)), (50, .one (.int .i64 i1)), (14, .one (.sl yCT x false)), (23, .one (.row 66)), (105, .one (.int .i64 x.length)), (106, .one (.int .i64 q.1))], fun q => [(70, .cells 25 [.str f1, .int .i64 f2, .str f3, .int .i64 f4]), (72, .cells 62 [.sl (.int .i64) s6 false, .int .i64 a6]), (66, .row 3 (.int .i64) (nu :: (1 + n9) :: (x.take q.1).map (fun x => x.num)))], fun q => x.length - q.1⟩ ⟨0, Nat.zero_le _⟩ ?_ ?_
        · simp only [go_sem]
          try simp only [List.take_zero, List.map_nil, List.append_nil]
          try (first | rfl | exact ⟨rfl, rfl⟩ | (and_intros <;> first | trivial | rfl | omega))
        · rintro ⟨k, (hk4 : k ≤ x.length)⟩
          (simp -implicitDefEqProofs (maxSteps := 4000000) only [go_sem, Bool.not_eq_true', Bool.not_eq_false', Bool.or_eq_true, Bool.or_eq_false_iff, Bool.and_eq_true, Bool.and_eq_false_iff, decide_eq_true_eq, decide_eq_false_iff_not, Classical.not_not, not_or, maxLen, con3, con7, con8, con12, con11, con14, con17, con20, con15, con18, con21, con16, con19, con22, con9, conSpL, con13, hT, hG, hk, hK, Tryz.results3]); (try simp (disch := decide +kernel) only [drawn, true_and, and_true])
          obtain ⟨o, ho⟩ : ∃ o, x.getD k ct0 = o := ⟨_, rfl⟩
          have eo : x.getD (k : Int).toNat (0, (ByteArray.empty, 0, ByteArray.empty, 0), 0, 0, 0, 0, 0, []) = o := ho
          try simp only [eo]
          have hts : k < x.length → nu :: (1 + n9) :: (x.take (k + 1)).map (fun x => x.num) = nu :: (1 + n9) :: ((x.take k).map (fun x => x.num) ++ [o.1]) := fun h => by
           rw [List.take_succ_eq_append_getElem h, ← getD_lt (d := ct0) h, ho, List.map_append]; rfl
          have hle : ((x.take k).map (fun x => x.num)).length ≤ 1001 := by
           rw [List.length_map, List.length_take]; omega
          refine ⟨fun hlt4 => ?_, fun hge4 => ?_⟩
          · have h9 := hts (by omega)
            (repeat' (with_reducible (first | refine And.intro ?_ ?_ | intro _))) <;> (try (first | with_reducible (first | done | assumption | omega | contradiction) | decide))
            all_goals first
             | omega
             | (refine fin_lp ⟨k + 1, by omega⟩ ?_ (by dsimp only; omega)
                simp only [go_sem]
                rw [h9]
                try (first | rfl | exact ⟨rfl, rfl⟩ | (and_intros <;> first | trivial | rfl | omega))
                done)
             | (refine fin_lp ⟨k + 1, by omega⟩ ?_ (by dsimp only; omega)
                simp only [go_sem]
                rw [h9]
                and_intros <;> first | rfl | omega)
             | fail
          · obtain ⟨Ns, hNs⟩ : ∃ l, (nu :: (1 + n9) :: (x.take k).map (fun x => x.num)) = l := ⟨_, rfl⟩
            have hNl : Ns.length ≤ 1003 := by rw [← hNs]; simp only [List.length_cons]; omega
            have hNk : ((x.take k).map (fun x => x.num)).length + 1 + 1 = Ns.length := by rw [← hNs]; rfl
            try simp only [hNs, hNk]
            intros
            refine evk_loop ⟨{ k : Nat // k ≤ Ns.length }, 5000, fun q => [(3, .one (.sl yTK t false)), (4, .one (.int .i64 nu)), (7, .one (.loc 70 0)), (11, .one (.loc 72 0)), (48, .one (.sl (.sl yCT) [c, many, spc] false)), (49, .one (.int .i64 3)), (50, .one (.int .i64 i1)), (14, .one (.sl yCT x false)), (118, .one (.sl (.int .i64) Ns false)), (119, .one (.int .i64 Ns.length)), (120, .one (.int .i64 q.1))], fun q => [(70, .cells 25 [.str f1, .int .i64 f2, .str f3, .int .i64 f4]), (72, .cells 62 [.sl (.int .i64) s6 false, .int .i64 a6])], fun q => Ns.length - q.1⟩ ⟨0, Nat.zero_le _⟩ ?_ ?_
            · simp only [go_sem]
              try (first | rfl | exact ⟨rfl, rfl⟩ | (and_intros <;> first | trivial | rfl | omega))
            · rintro ⟨m, (hm : m ≤ Ns.length)⟩
              (simp -implicitDefEqProofs (maxSteps := 4000000) only [go_sem, Bool.not_eq_true', Bool.not_eq_false', Bool.or_eq_true, Bool.or_eq_false_iff, Bool.and_eq_true, Bool.and_eq_false_iff, decide_eq_true_eq, decide_eq_false_iff_not, Classical.not_not, not_or, maxLen, con3, con7, con8, con12, con11, con14, con17, con20, con15, con18, con21, con16, con19, con22, con9, conSpL, con13, hT, hG, hk, hK, Tryz.results3]); (try simp (disch := decide +kernel) only [drawn, true_and, and_true])
              try simp only [ne_eq, not_true, false_or]
              (repeat' (with_reducible (first | refine And.intro ?_ ?_ | intro _))) <;> (try (first | with_reducible (first | done | assumption | omega | contradiction) | decide))
              all_goals first
               | omega
               | (refine fin_lp ⟨m + 1, by omega⟩ ?_ (by dsimp only; omega)
                  simp only [go_sem]
                  try (first | rfl | exact ⟨rfl, rfl⟩ | (and_intros <;> first | trivial | rfl | omega))
                  done)
               | (refine fin_lp ⟨((s6, a6), i1 + 1), p4, (by show i1 + 1 ≤ 3; omega)⟩ ?_ (by dsimp only; omega)
                  simp only [go_sem]
                  try (first | rfl | exact ⟨rfl, rfl⟩ | (and_intros <;> first | trivial | rfl | omega))
                  done)
               | fail)
end Go.Proofs.YteheklpenjjfaaaGreat
