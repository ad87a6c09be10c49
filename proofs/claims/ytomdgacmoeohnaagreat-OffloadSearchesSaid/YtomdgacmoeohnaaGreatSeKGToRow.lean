/- A part. -/
import Derived.Test.YtomdgacmoeohnaaGreatSeKTToKY
import Derived.Test.YtomdgacmoeohnaaGreatSeKPToKA
import Derived.Test.YtomdgacmoeohnaaGreatSeKEToKR
import Derived.Test.YtomdgacmoeohnaaGreatSeK1ToK9
import Derived.Test.YtomdgacmoeohnaaGreatEvTab
import Derived.OpenShut
import Derived.JoinedCond
import Derived.Below
import Derived.ChangeSame
import Derived.ChangeArms
import Derived.WideKeyArgs
set_option maxRecDepth 100000
set_option maxHeartbeats 8000000
namespace Go.Proofs.YtomdgacmoeohnaaGreat
open Go.Ev
attribute [local go_sem] List.set_cons_succ List.set_cons_zero List.getD_cons_succ List.getD_cons_zero List.set_nil
structure CtsR (most n : Int) (l : List Cnt) : Prop where
 ok : CtsOk l
 len : (l.length : Int) ≤ most
 pl : ∀ c ∈ l, ∀ x ∈ c.pcs, ∃ j : Nat, (j : Int) < n ∧ x.1 = platesV j
 fl : ∀ c ∈ l, ∃ j : Nat, j < 3 ∧ c.flt = fltsV j
structure CtA (most k nm : Int) (xs : List Cnt) : Prop where
 len : (xs.length : Int) + k ≤ most
 n0 : 0 ≤ nm
 n1 : nm ≤ 2 * xs.length
 ok : ∀ c ∈ xs, propC c = true ∧ c.pcs = [] ∧ c.num ≤ nm ∧ ∃ j : Nat, j < 3 ∧ c.flt = fltsV j
 num : xs.Pairwise (fun a b => a.num < b.num)
 pos : ∀ i, i < xs.length → (xs.getD i ct0).pos = 0 ∨ (xs.getD i ct0).pos = i + 1
theorem CtA.push {most k nm : Int} {xs : List Cnt} (h : CtA most k nm xs) (hm : most ≤ 24) (hk : 0 < k) {v f c l m p r : Int} (hv : 1 ≤ v ∧ v ≤ 2) (hf : 0 ≤ f ∧ f < 3) (hc : 0 ≤ c ∧ c ≤ 31) (hl : 0 ≤ l ∧ l ≤ 20000) (hmo : 0 ≤ m ∧ m ≤ 60) (hp : p = 0 ∨ p = xs.length + 1) (hr : -50 ≤ r ∧ r ≤ 50) : CtA most (k - 1) (nm + v) (xs ++ [(nm + v, fltsV f, c, l, m, p, r, [])]) := by
 obtain ⟨il, in0, in1, iok, inum, ipos⟩ := h
 refine ⟨by simp; omega, by omega, by simp; omega, fun x hx => ?_, ?_, fun i hi => ?_⟩
 · rcases List.mem_append.1 hx with hx | hx
   · obtain ⟨h1, h2, h3, h4⟩ := iok x hx
     exact ⟨h1, h2, by omega, h4⟩
   · rw [List.mem_singleton.1 hx]
     refine ⟨?_, rfl, Int.le_refl _, f.toNat, by omega, by rw [show ((f.toNat : Nat) : Int) = f by omega]⟩
     unfold propC inV
     simp only [Cnt.num, Cnt.flt, Cnt.cats, Cnt.lim, Cnt.most, Cnt.pos, Cnt.arm, fltsV_ok, Bool.and_eq_true, decide_eq_true_eq, and_true]
     rcases hp with hp | hp <;> subst hp <;> omega
 · rw [List.pairwise_append]
   refine ⟨inum, List.pairwise_singleton _ _, fun x hx y hy => ?_⟩
   rw [List.mem_singleton.1 hy]
   have := (iok x hx).2.2.1
   show x.num < nm + v
   omega
 · by_cases e : i < xs.length
   · have := ipos i e
     rw [List.getD_eq_getElem?_getD, List.getElem?_append_left e, ← List.getD_eq_getElem?_getD]; exact this
   · have e : i = xs.length := by simp at hi; omega
     subst e
     rw [List.getD_eq_getElem?_getD, List.getElem?_append_right (Nat.le_refl _), Nat.sub_self]
     exact hp
structure CtB (i N : Nat) (yss : List (List Pce)) : Prop where
 len : yss.length = N
 c20 : ∀ p ∈ yss, p.length ≤ 20
 ok : ∀ p ∈ yss, PcsOk p
 pl : ∀ p ∈ yss, ∀ x ∈ p, ∃ j : Nat, j < i ∧ x.1 = platesV j
 ap : yss.Pairwise (fun a b => ∀ x ∈ a, ∀ y ∈ b, x.1 ≠ y.1)
theorem CtB.nil (N : Nat) : CtB 0 N (List.replicate N []) := by
 refine ⟨by simp, fun p hp => ?_, fun p hp => ?_, fun p hp => ?_, ?_⟩
 · rw [List.eq_of_mem_replicate hp]; simp
 · rw [List.eq_of_mem_replicate hp]; exact ⟨fun _ h => (by cases h), .nil⟩
 · rw [List.eq_of_mem_replicate hp]; intro x hx; cases hx
 · rw [List.pairwise_replicate]; right; intro x hx; cases hx
theorem CtB.step {i N : Nat} {yss : List (List Pce)} (h : CtB i N yss) : CtB (i + 1) N yss :=
 ⟨h.len, h.c20, h.ok, fun p hp x hx => (h.pl p hp x hx).imp fun j hj => ⟨by omega, hj.2⟩, h.ap⟩
theorem platesV_ne {a b : Nat} (h : a < b) (hb : b < 1000) : platesV a ≠ platesV b := fun e => by
 have := platesV_lt (a := a) (b := b) (by omega) (by omega) (by omega)
 rw [e, (pltC_cmp.eq _ _).2 rfl] at this
 omega
theorem set_getD {α : Type} (l : List α) (k : Nat) (v d : α) (j : Nat) (hj : j < l.length) : (l.set k v).getD j d = if k = j then v else l.getD j d := by
 rw [List.getD_eq_getElem?_getD, List.getD_eq_getElem?_getD, List.getElem?_set]
 split
 · rename_i e; subst e; simp [hj]
 · rfl
theorem CtB.put {i N k : Nat} {yss : List (List Pce)} (h : CtB i N yss) (hi : i < 1000) (hk : k < N) (h20 : (yss.getD k []).length < 20) {w c : Int} (hw : 1 ≤ w ∧ w ≤ 999) (hc : 0 ≤ c ∧ c ≤ 4) : CtB (i + 1) N (yss.set k (yss.getD k [] ++ [(platesV i, w, c)])) := by
 obtain ⟨h1, h2, h3, h4, h5⟩ := h
 have hmem : yss.getD k [] ∈ yss := getD_mem (by omega)
 have key : ∀ p ∈ yss.set k (yss.getD k [] ++ [(platesV i, w, c)]), p ∈ yss ∨ p = yss.getD k [] ++ [(platesV i, w, c)] := fun p hp => by
  rcases List.mem_or_eq_of_mem_set hp with h | h
  · exact .inl h
  · exact .inr h
 refine ⟨by simp [h1], fun p hp => ?_, fun p hp => ?_, fun p hp x hx => ?_, ?_⟩
 · rcases key p hp with h | h
   · exact h2 p h
   · rw [h, List.length_append, List.length_singleton]; omega
 · rcases key p hp with h | h
   · exact h3 p h
   · subst h
     refine ⟨fun x hx => ?_, ?_⟩
     · rcases List.mem_append.1 hx with hx | hx
       · exact (h3 _ hmem).ok x hx
       · rw [List.mem_singleton.1 hx]
         unfold okPc inV
         simp only [platesV_ok, Bool.and_eq_true, decide_eq_true_eq, true_and]
         omega
     · rw [List.pairwise_append]
       refine ⟨(h3 _ hmem).srt, List.pairwise_singleton _ _, fun x hx y hy => ?_⟩
       rw [List.mem_singleton.1 hy]
       obtain ⟨j, hj, e⟩ := h4 _ hmem x hx
       rw [e]
       exact platesV_lt (by omega) (by omega) (by omega)
 · rcases key p hp with h | h
   · exact (h4 p h x hx).imp fun j hj => ⟨by omega, hj.2⟩
   · subst h
     rcases List.mem_append.1 hx with hx | hx
     · exact (h4 _ hmem x hx).imp fun j hj => ⟨by omega, hj.2⟩
     · rw [List.mem_singleton.1 hx]; exact ⟨i, by omega, rfl⟩
 · rw [pw_getD []] at h5 ⊢
   intro a b hab hb x hx y hy
   rw [List.length_set] at hb
   rw [set_getD _ _ _ _ _ (by omega)] at hx hy
   have hA : yss.getD a [] ∈ yss := getD_mem (by omega)
   have hB : yss.getD b [] ∈ yss := getD_mem hb
   by_cases ea : k = a
   · rw [if_pos ea] at hx
     rw [if_neg (by omega)] at hy
     rcases List.mem_append.1 hx with hx | hx
     · rw [ea] at hx; exact h5 a b hab hb x hx y hy
     · rw [List.mem_singleton.1 hx]
       obtain ⟨j, hj, e⟩ := h4 _ hB y hy
       rw [e]; exact (platesV_ne hj hi).symm
   · rw [if_neg ea] at hx
     by_cases eb : k = b
     · rw [if_pos eb] at hy
       rcases List.mem_append.1 hy with hy | hy
       · rw [eb] at hy; exact h5 a b hab hb x hx y hy
       · rw [List.mem_singleton.1 hy]
         obtain ⟨j, hj, e⟩ := h4 _ hA x hx
         rw [e]; exact platesV_ne hj hi
     · rw [if_neg eb] at hy
       exact h5 a b hab hb x hx y hy
theorem zipS_len {xs : List Cnt} {yss : List (List Pce)} (h : yss.length = xs.length) : ((xs.zip yss).map (fun q => setPcs q.1 q.2)).length = xs.length := by simp [h]
theorem zipS_getD {xs : List Cnt} {yss : List (List Pce)} (h : yss.length = xs.length) {i : Nat} (hi : i < xs.length) : ((xs.zip yss).map (fun q => setPcs q.1 q.2)).getD i ct0 = setPcs (xs.getD i ct0) (yss.getD i []) := by
 simp [List.getD_eq_getElem?_getD, hi, h]
theorem CtsR.mk' {most n nm k : Int} {i : Nat} {xs : List Cnt} {yss : List (List Pce)} (hA : CtA most k nm xs) (hk : 0 ≤ k) (hm : most ≤ 24) (hB : CtB i xs.length yss) (hi : (i : Int) ≤ n ∨ i = 0) : CtsR most n ((xs.zip yss).map (fun q => setPcs q.1 q.2)) := by
 obtain ⟨il, in0, in1, iok, inum, ipos⟩ := hA
 obtain ⟨h1, h2, h3, h4, h5⟩ := hB
 have hl := zipS_len h1
 have hg : ∀ c ∈ (xs.zip yss).map (fun q => setPcs q.1 q.2), ∃ x ∈ xs, ∃ p ∈ yss, c = setPcs x p := fun c hc => by
  obtain ⟨q, hq, rfl⟩ := List.mem_map.1 hc
  exact ⟨q.1, (List.of_mem_zip (a := q.1) (b := q.2) hq).1, q.2, (List.of_mem_zip (a := q.1) (b := q.2) hq).2, rfl⟩
 refine ⟨⟨by omega, fun c hc => ?_, (pw_getD ct0).2 fun a b hab hb => ?_, (pw_getD ct0).2 fun a b hab hb => ?_, (pw_getD ct0).2 fun a b hab hb => ?_⟩, by omega, fun c hc x hx => ?_, fun c hc => ?_⟩
 · obtain ⟨x, hx, p, hp, rfl⟩ := hg c hc
   exact ⟨(iok x hx).1, Nat.le_trans (h2 p hp) (by omega), h3 p hp⟩
 · rw [hl] at hb
   rw [zipS_getD (i := a) h1 (by omega), zipS_getD (i := b) h1 hb]
   exact (pw_getD ct0).1 inum a b hab hb
 · rw [hl] at hb
   rw [zipS_getD (i := a) h1 (by omega), zipS_getD (i := b) h1 hb]
   intro hp he
   have hp : (xs.getD b ct0).pos ≠ 0 := hp
   have he : (xs.getD a ct0).pos = (xs.getD b ct0).pos := he
   have := ipos a (by omega)
   have := ipos b hb
   omega
 · rw [hl] at hb
   rw [zipS_getD (i := a) h1 (by omega), zipS_getD (i := b) h1 hb]
   exact (pw_getD []).1 h5 a b hab (by omega)
 · obtain ⟨x0, hx0, p, hp, rfl⟩ := hg c hc
   obtain ⟨j, hj, e⟩ := h4 p hp x hx
   exact ⟨j, by omega, e⟩
 · obtain ⟨x0, hx0, p, hp, rfl⟩ := hg c hc
   exact (iok x0 hx0).2.2.2
def con7 : RCon := { ps := [.p 67 ySR, .d false (.int .i64), .d false (.int .i64)], rs := [.d false (.sl yCT)], pre := fun (x : Src × Int × Int × Unit) => 0 ≤ x.1.2 ∧ 0 ≤ x.2.1 ∧ x.2.1 ≤ 24 ∧ x.2.2.1 ≤ 1000, rel := fun (x : Src × Int × Int × Unit) (y : List Cnt × Unit) (z : Src × Int × Int × Unit) => 0 ≤ z.1.2 ∧ CtsR x.2.1 x.2.2.1 y.1 }
theorem c7 : RCtrOk Tryz.prog 7 con7.rctr :=
 rcon_sound (G := ⟨[(24, con24.ctr), (26, con26.ctr), (25, con25.ctr), (27, con27.ctr)], [], [(7, 71), (53, 71), (58, 1), (84, 3), (93, 5), (99, 1)], [], []⟩) tab_ok (EnvOk.cons c24 has24 (EnvOk.cons c26 has26 (EnvOk.cons c25 has25 (EnvOk.cons c27 has27 EnvOk.nil)))) rfl Tryz.func7 rfl con7 77371328692341128053669831 (by kernel_rfl) (by decide) (by decide) rfl (by decide) rfl (by
  rintro ⟨⟨(s : List Int), (a : Int)⟩, (most : Int), (n : Int), _⟩ hpre hwf X hT hG hk hK
  (simp -implicitDefEqProofs only [go_sem, bP, con7, con24, con26, con25, con27, hT, hG, hk, hK, Tryz.results7] at hwf ⊢); (try simp (disch := decide +kernel) only [drawn, true_and, and_true])
  obtain ⟨h1, h2, h3, h4⟩ : 0 ≤ a ∧ 0 ≤ most ∧ most ≤ 24 ∧ n ≤ 1000 := hpre
  have hs1 : 0 ≤ (Src.step (s, a)).snd := step_pos h1
  have hkb := goMod_bd (Src.raw (s, a)) (most + 1) (by omega)
  generalize goMod (Src.raw (s, a)) (most + 1) = K at hkb ⊢
  generalize Src.step (s, a) = S1 at hs1 ⊢
  obtain ⟨s1, a1⟩ := S1
  (repeat' with_reducible first | refine And.intro ?_ ?_ | intro _) <;> try first | with_reducible (first | assumption | omega | contradiction) | decide
  refine evk_loop ⟨{ q : Src × List Cnt × Int × Int // 0 ≤ q.1.2 ∧ CtA most q.2.2.2 q.2.2.1 q.2.1 ∧ 0 ≤ q.2.2.2 }, 1000, fun q => [(0, .one (.loc 0 0)), (2, .one (.int .i64 n)), (7, .one (.row 64)), (8, .one (.int .i64 q.1.2.2.1)), (9, .one (.int .i64 q.1.2.2.2))],
   fun q => [(0, .cells 67 [.sl (.int .i64) q.1.1.1 false, .int .i64 q.1.1.2]), (64, .rowg 61 yCT 10 65 q.1.2.1 none), (65, .fam 63 yPC (List.replicate q.1.2.1.length []))], fun q => q.1.2.2.2.toNat⟩ ⟨((s1, a1), [], 0, K), hs1, ⟨by simp only [List.length_nil]; omega, Int.le_refl _, by simp, fun _ h => (by cases h), .nil, fun i h => absurd h (by simp)⟩, hkb.1⟩ ?_ ?_
  · simp only [go_sem]
    try first | rfl | (and_intros <;> first | trivial | rfl | omega)
  · rintro ⟨⟨⟨s, a⟩, xs, nm, k⟩, (h1 : 0 ≤ a), (hI : CtA most k nm xs), (hk0 : 0 ≤ k)⟩
    (simp -implicitDefEqProofs only [go_sem, bP, con7, con24, con26, con25, con27, hT, hG, hk, hK, Tryz.results7]); (try simp (disch := decide +kernel) only [drawn, true_and, and_true])
    obtain ⟨il, in0, in1, iok, inum, ipos⟩ := hI
    have r1 := goMod_bd (Src.raw (s, a)) 2 (by omega)
    have p1 : 0 ≤ (Src.step (s, a)).snd := step_pos h1
    have p2 : 0 ≤ (Src.step (s, a)).step.snd := step_pos p1
    have p3 : 0 ≤ (Src.step (s, a)).step.step.snd := step_pos p2
    have p4 : 0 ≤ (Src.step (s, a)).step.step.step.snd := step_pos p3
    have p5 : 0 ≤ (Src.step (s, a)).step.step.step.step.snd := step_pos p4
    have p6 : 0 ≤ (Src.step (s, a)).step.step.step.step.step.snd := step_pos p5
    have p7 : 0 ≤ (Src.step (s, a)).step.step.step.step.step.step.snd := step_pos p6
    have r2 := goMod_bd (Src.step (s, a)).raw 3 (by omega)
    have r3 := goMod_bd (Src.step (s, a)).step.raw 6 (by omega)
    have r4 := goMod_bd (Src.step (s, a)).step.step.raw 300 (by omega)
    have r5 := goMod_bd (Src.step (s, a)).step.step.step.raw 10 (by omega)
    have r6 := goMod_bd (Src.step (s, a)).step.step.step.step.raw 21 (by omega)
    have r7 := goMod_bd (Src.step (s, a)).step.step.step.step.step.raw 3 (by omega)
    generalize (Src.step (s, a)).step.step.step.step.step.step = S7 at p7 ⊢
    generalize goMod (Src.step (s, a)).step.step.step.step.step.raw 3 = V7 at r7 ⊢
    generalize goMod (Src.step (s, a)).step.step.step.step.raw 21 = V6 at r6 ⊢
    generalize goMod (Src.step (s, a)).step.step.step.raw 10 = V5 at r5 ⊢
    generalize goMod (Src.step (s, a)).step.step.raw 300 = V4 at r4 ⊢
    generalize goMod (Src.step (s, a)).raw 3 = V2 at r2 ⊢
    generalize goMod (Src.raw (s, a)) 2 = V1 at r1 ⊢
    obtain ⟨s7, a7⟩ := S7
    have hc31 : ∀ k : Int, 0 ≤ k ∧ k < 6 → 0 ≤ [31, 31, 31, 3, 30, 1].getD k.toNat (0 : Int) ∧ [31, 31, 31, 3, 30, 1].getD k.toNat (0 : Int) ≤ 31 := fun k hk => by
     rcases (by omega : k = 0 ∨ k = 1 ∨ k = 2 ∨ k = 3 ∨ k = 4 ∨ k = 5) with rfl | rfl | rfl | rfl | rfl | rfl <;> decide
    have hc31 := hc31 _ r3
    have hrep : List.replicate xs.length ([] : List Pce) ++ [[]] = List.replicate (xs.length + 1) [] := by rw [List.replicate_succ']
    have hI : CtA most k nm xs := ⟨il, in0, in1, iok, inum, ipos⟩
    (repeat' with_reducible first | refine And.intro ?_ ?_ | intro _) <;> try first | with_reducible (first | assumption | omega | contradiction) | decide
    all_goals first
     | (have hv7 : V7 > 0 := by assumption
        refine fin_lp ⟨((s7, a7), xs ++ [_], nm + (1 + V1), k - 1), p7, CtA.push (v := 1 + V1) (f := V2) (c := [31, 31, 31, 3, 30, 1].getD (goMod (Src.step (s, a)).step.raw 6).toNat 0) (l := 50 + V4) (m := 2 + V5) (p := xs.length + 1) (r := V6 - 10) hI h3 (by omega) (by omega) r2 hc31 (by omega) (by omega) (.inr rfl) (by omega), (by show 0 ≤ k - 1; omega)⟩ ?_ (by dsimp only; omega)
        simp only [go_sem]
        rw [hrep, List.length_append]
        try first | rfl | (and_intros <;> first | trivial | rfl | omega)
        done)
     | (have hv7 : ¬ V7 > 0 := by assumption
        refine fin_lp ⟨((s7, a7), xs ++ [_], nm + (1 + V1), k - 1), p7, CtA.push (v := 1 + V1) (f := V2) (c := [31, 31, 31, 3, 30, 1].getD (goMod (Src.step (s, a)).step.raw 6).toNat 0) (l := 50 + V4) (m := 2 + V5) (p := 0) (r := V6 - 10) hI h3 (by omega) (by omega) r2 hc31 (by omega) (by omega) (.inl rfl) (by omega), (by show 0 ≤ k - 1; omega)⟩ ?_ (by dsimp only; omega)
        simp only [go_sem]
        rw [hrep, List.length_append]
        try first | rfl | (and_intros <;> first | trivial | rfl | omega)
        done)
     | (have hl0 : xs.length = 0 := by omega
        refine ⟨((xs.zip (List.replicate xs.length [])).map (fun q => setPcs q.1 q.2), ()), ((s, a), most, n, ()), ⟨h1, CtsR.mk' hI hk0 h3 (CtB.nil _) (.inr rfl)⟩, rfl, rfl, putSls_ct _ _⟩)
     | (refine evk_loop ⟨{ q : Src × List (List Pce) × Nat // 0 ≤ q.1.2 ∧ CtB q.2.2 xs.length q.2.1 ∧ ((q.2.2 : Int) ≤ n ∨ q.2.2 = 0) }, 1000, fun q => [(0, .one (.loc 0 0)), (2, .one (.int .i64 n)), (7, .one (.row 64)), (11, .one (.int .i64 q.1.2.2))],
         fun q => [(0, .cells 67 [.sl (.int .i64) q.1.1.1 false, .int .i64 q.1.1.2]), (64, .rowg 61 yCT 10 65 xs none), (65, .fam 63 yPC q.1.2.1)], fun q => n.toNat - q.1.2.2⟩ ⟨((s, a), List.replicate xs.length [], 0), h1, CtB.nil _, .inr rfl⟩ ?_ ?_
        · simp only [go_sem]
          try first | rfl | (and_intros <;> first | trivial | rfl | omega)
        · rintro ⟨⟨⟨s, a⟩, yss, i⟩, (h1 : 0 ≤ a), (hB : CtB i xs.length yss), (hin : (i : Int) ≤ n ∨ i = 0)⟩
          (simp -implicitDefEqProofs only [go_sem, bP, con7, con24, con26, con25, con27, hT, hG, hk, hK, Tryz.results7]); (try simp (disch := decide +kernel) only [drawn, true_and, and_true])
          have hxl : 0 < xs.length := by omega
          have r1 := goMod_bd (Src.raw (s, a)) 3 (by omega)
          have p1 : 0 ≤ (Src.step (s, a)).snd := step_pos h1
          have p2 : 0 ≤ (Src.step (s, a)).step.snd := step_pos p1
          have p3 : 0 ≤ (Src.step (s, a)).step.step.snd := step_pos p2
          have p4 : 0 ≤ (Src.step (s, a)).step.step.step.snd := step_pos p3
          have r2 := goMod_bd (Src.step (s, a)).raw xs.length (by omega)
          have r3 := goMod_bd (Src.step (s, a)).step.raw 30 (by omega)
          have r4 := goMod_bd (Src.step (s, a)).step.step.raw 8 (by omega)
          have hw : ∀ k : Int, 0 ≤ k ∧ k < 8 → 0 ≤ [0, 0, 0, 0, 1, 2, 3, 4].getD k.toNat (0 : Int) ∧ [0, 0, 0, 0, 1, 2, 3, 4].getD k.toNat (0 : Int) ≤ 4 := fun k hk => by
           rcases (by omega : k = 0 ∨ k = 1 ∨ k = 2 ∨ k = 3 ∨ k = 4 ∨ k = 5 ∨ k = 6 ∨ k = 7) with rfl | rfl | rfl | rfl | rfl | rfl | rfl | rfl <;> decide
          have hw := hw _ r4
          have hyl := hB.len
          have hbl : ∀ k : Nat, (yss.getD k []).length ≤ 20 := fun k => by
           by_cases h : k < yss.length
           · exact hB.c20 _ (getD_mem h)
           · rw [List.getD_eq_getElem?_getD, List.getElem?_eq_none (by omega)]; simp
          have hbk := hbl (goMod (Src.step (s, a)).raw xs.length).toNat
          generalize (Src.step (s, a)).step.step.step = S4 at p4 ⊢
          generalize goMod (Src.step (s, a)).step.step.raw 8 = V4 at r4 hw ⊢
          generalize goMod (Src.step (s, a)).step.raw 30 = V3 at r3 ⊢
          generalize goMod (Src.step (s, a)).raw xs.length = V2 at r2 hbk ⊢
          generalize goMod (Src.raw (s, a)) 3 = V1 at r1 ⊢
          generalize (Src.step (s, a)).step = S2 at p2 ⊢
          generalize Src.step (s, a) = S1 at p1 ⊢
          obtain ⟨s4, a4⟩ := S4
          obtain ⟨s2, a2⟩ := S2
          obtain ⟨s1, a1⟩ := S1
          (repeat' with_reducible first | refine And.intro ?_ ?_ | intro _) <;> try first | with_reducible (first | assumption | omega | contradiction) | decide
          all_goals first
           | (have hv : V1 = 0 := by assumption
              refine fin_lp ⟨((s1, a1), yss, i + 1), p1, hB.step, (by show ((i + 1 : Nat) : Int) ≤ n ∨ _; omega)⟩ ?_ (by dsimp only; omega)
              simp only [go_sem]
              try first | rfl | (and_intros <;> first | trivial | rfl | omega)
              done)
           | exact step_pos p2
           | (have h20 : ((yss.getD V2.toNat []).length : Int) < 20 := by assumption
              refine fin_lp ⟨((s4, a4), yss.set V2.toNat (yss.getD V2.toNat [] ++ [(platesV i, 1 + V3, [0, 0, 0, 0, 1, 2, 3, 4].getD V4.toNat 0)]), i + 1), p4, hB.put (by omega) (by omega) (by omega) (by omega) hw, (by show ((i + 1 : Nat) : Int) ≤ n ∨ _; omega)⟩ ?_ (by dsimp only; omega)
              simp only [go_sem]
              rw [List.set_set]
              try first | rfl | (and_intros <;> first | trivial | rfl | omega)
              done)
           | (have h20 : ¬ ((yss.getD V2.toNat []).length : Int) < 20 := by assumption
              refine fin_lp ⟨((s4, a4), yss, i + 1), p4, hB.step, (by show ((i + 1 : Nat) : Int) ≤ n ∨ _; omega)⟩ ?_ (by dsimp only; omega)
              simp only [go_sem]
              try first | rfl | (and_intros <;> first | trivial | rfl | omega)
              done)
           | (refine ⟨((xs.zip yss).map (fun q => setPcs q.1 q.2), ()), ((s, a), most, n, ()), ⟨h1, CtsR.mk' hI hk0 h3 hB hin⟩, rfl, rfl, putSls_ct _ _⟩)
           | fail))
end Go.Proofs.YtomdgacmoeohnaaGreat

/- A part. -/
set_option maxRecDepth 100000
set_option maxHeartbeats 8000000
namespace Go.Proofs.YtomdgacmoeohnaaGreat
open Go.Ev
attribute [local go_sem] List.set_cons_succ List.set_cons_zero List.getD_cons_succ List.getD_cons_zero List.set_nil
end Go.Proofs.YtomdgacmoeohnaaGreat

/- A part. -/
set_option maxRecDepth 100000
set_option maxHeartbeats 8000000
namespace Go.Proofs.YtomdgacmoeohnaaGreat
open Go.Ev
attribute [local go_sem] List.set_cons_succ List.set_cons_zero List.getD_cons_succ List.getD_cons_zero List.set_nil
def conSpL : RCon := { ps := [.p 67 ySR, .d false (.sl yCT)], rs := [.d false (.sl yCT)], pre := fun (x : Src × List Cnt × Unit) => 0 ≤ x.1.2 ∧ x.2.1.length ≤ 1000 ∧ ∀ o ∈ x.2.1, o.pcs.length ≤ 1000, rel := fun (x : Src × List Cnt × Unit) (y : List Cnt × Unit) (z : Src × List Cnt × Unit) => 0 ≤ z.1.2 ∧ y.1.length ≤ 1001 }
theorem cSpL : RCtrOk Tryz.prog 10 conSpL.rctr :=
 rcon_sound (G := ⟨[(24, con24.ctr), (26, con26.ctr), (31, con31.ctr), (27, con27.ctr)], [], [(5, 71), (25, 71), (31, 1), (99, 5), (114, 5), (136, 1)], [], []⟩) tab_ok (EnvOk.cons c24 has24 (EnvOk.cons c26 has26 (EnvOk.cons c31 has31 (EnvOk.cons c27 has27 EnvOk.nil)))) rfl Tryz.func10 rfl conSpL 170141264592588371583434028650734820851 (by kernel_rfl) (by decide) (by decide) rfl (by decide) rfl (by
  rintro ⟨⟨(s : List Int), (a : Int)⟩, (l : List Cnt), _⟩ hpre hwf X hT hG hk hK
  (simp -implicitDefEqProofs only [go_sem, bP, conSpL, con24, con26, con31, con27, hT, hG, hk, hK, Tryz.results10] at hwf ⊢); (try simp (disch := decide +kernel) only [drawn, true_and, and_true])
  obtain ⟨h1, h2, h3⟩ : 0 ≤ a ∧ l.length ≤ 1000 ∧ ∀ o ∈ l, o.pcs.length ≤ 1000 := hpre
  refine fun _ => evk_loop ⟨{ i : Nat // i ≤ l.length }, 1000, fun q => [(0, .one (.loc 0 0)), (1, .one (.sl yCT l false)), (5, .one (.row 64)), (10, .one (.int .i64 l.length)), (11, .one (.int .i64 q.1))],
   fun q => [(0, .cells 67 [.sl (.int .i64) s false, .int .i64 a]), (64, .rowg 61 yCT 10 65 ((l.take q.1).map (fun o => setPcs o [])) none), (65, .fam 63 yPC ((l.take q.1).map (fun o => o.pcs)))], fun q => l.length - q.1⟩ ⟨0, Nat.zero_le _⟩ ?_ ?_
  · simp only [go_sem]
    try first | rfl | (and_intros <;> first | trivial | rfl | omega)
  · rintro ⟨i, (hi : i ≤ l.length)⟩
    (simp -implicitDefEqProofs only [go_sem, bP, conSpL, con24, con26, con31, con27, hT, hG, hk, hK, Tryz.results10]); (try simp (disch := decide +kernel) only [drawn, true_and, and_true])
    obtain ⟨o, ho⟩ : ∃ o, l.getD i ct0 = o := ⟨_, rfl⟩
    have eo : l.getD (i : Int).toNat (0, (ByteArray.empty, 0, ByteArray.empty, 0), 0, 0, 0, 0, 0, []) = o := ho
    try simp only [eo]
    have htl : ((l.take i).map (fun o => setPcs o [])).length = i := by rw [List.length_map, List.length_take]; omega
    have hop : i < l.length → o.pcs.length ≤ 1000 := fun h => h3 o (by rw [← ho]; exact getD_mem h)
    have hts : i < l.length → l.take (i + 1) = l.take i ++ [o] := fun h => by rw [List.take_succ_eq_append_getElem h, ← getD_lt (d := ct0) h, ho]
    have p1 : 0 ≤ (Src.step (s, a)).snd := step_pos h1
    have p2 : 0 ≤ (Src.step (s, a)).step.snd := step_pos p1
    have p3 : 0 ≤ (Src.step (s, a)).step.step.snd := step_pos p2
    have p4 : 0 ≤ (Src.step (s, a)).step.step.step.snd := step_pos p3
    have p5 : 0 ≤ (Src.step (s, a)).step.step.step.step.snd := step_pos p4
    have r1 : 0 < l.length → 0 ≤ goMod (Src.raw (s, a)) l.length ∧ goMod (Src.raw (s, a)) l.length < l.length := fun h => goMod_bd _ _ (by omega)
    simp only [htl]
    refine ⟨fun hlt => ?_, fun hge => ?_⟩
    · have hop : List.length o.2.2.2.2.2.2.2 ≤ 1000 := hop (by omega)
      have e1 := hts (by omega)
      (repeat' with_reducible first | refine And.intro ?_ ?_ | intro _) <;> try first | with_reducible (first | assumption | omega | contradiction) | decide
      all_goals first
       | (refine fin_lp ⟨i + 1, by omega⟩ ?_ (by dsimp only; omega)
          simp only [go_sem]
          rw [e1, List.map_append, List.map_append]
          try first | rfl | (and_intros <;> first | trivial | rfl | omega)
          done)
       | omega
       | fail
    · have ei : l.take i = l := List.take_of_length_le (by omega)
      have eil : i = l.length := by omega
      simp only [eil, List.take_length]
      have hpl : ∀ k : Nat, (((l.map (fun o => o.pcs)).getD k []).length) ≤ 1000 := fun k => by
       by_cases h : k < l.length
       · rw [getD_lt (by rw [List.length_map]; exact h), List.getElem_map]; exact h3 _ (List.getElem_mem h)
       · rw [List.getD_eq_getElem?_getD, List.getElem?_eq_none (by rw [List.length_map]; omega)]; simp
      (repeat' with_reducible first | refine And.intro ?_ ?_ | intro _) <;> try first | with_reducible (first | assumption | omega | contradiction) | decide
      all_goals first
       | (have hl0 : 0 < l.length := by omega
          have r1 := r1 hl0
          omega)
       | (refine ⟨(_, ()), ((_, _), l, ()), ⟨(by first | exact h1 | exact p1 | exact p2 | exact p3 | exact p4 | exact step_pos p1 | exact step_pos p2 | exact step_pos p3 | exact step_pos p4 | exact step_pos p5), ?_⟩, rfl, rfl, rfl⟩
          dsimp only
          first
           | (simp only [putSls_ct, List.length_append, List.length_map, List.length_zip, List.length_set, List.length_take, List.length_cons, List.length_nil]; omega)
           | fail)
       | (have := hpl (goMod (Src.raw (s, a)) l.length).toNat
          omega)
       | (rw [putSls_ct, List.length_map, List.length_zip, List.length_map, List.length_map]; omega)
       | exact p1
       | exact p2
       | exact p3
       | exact p4
       | exact p5
       | fail)
end Go.Proofs.YtomdgacmoeohnaaGreat

/- A part. -/
set_option maxRecDepth 100000
set_option maxHeartbeats 16000000
namespace Go.Proofs.YtomdgacmoeohnaaGreat
open Go.Ev
theorem placesR_mayS {l : List Opn} {z : Plc} (h : z ∈ placesR l) : z.2.2.length ≤ l.length := by
 unfold placesR at h
 split at h
 · cases h
 · obtain ⟨p, hp, rfl⟩ := List.mem_map.1 h
   exact Nat.le_trans (placeR_len _) (about_len _ _)
def con3 : Con := { ps := [.d false (.sl yCT), .d false (.sl yPM), .d false (.sl (.int .i64)), .d false (.sl yPL), .d true yTK], rs := [.d false .bool], pre := fun _ => True, out := fun x => (true, ()), nw := id }
theorem c3 : CtrOk Tryz.prog 3 con3.ctr :=
 con_sound (G := ⟨[(4, con4.ctr), (5, con5.ctr), (6, con6.ctr), (12, con12.ctr), (8, conPlR.ctr), (19, conTkO.ctr), (13, con13.ctr), (17, con17.ctr), (20, con20.ctr), (14, con14.ctr), (15, con15.ctr), (18, con18.ctr), (21, con21.ctr), (16, con16.ctr), (22, con22.ctr), (23, con23.ctr)], [(7, con7.rctr), (10, conSpL.rctr), (9, con9.rctr), (11, con11.rctr)], [], [], []⟩) tab_ok (EnvOk.cons c4 has4 (EnvOk.cons c5 has5 (EnvOk.cons c6 has6 (EnvOk.cons c12 has12 (EnvOk.cons cPlR has8 (EnvOk.cons cTkO has19 (EnvOk.cons c13 has13 (EnvOk.cons c17 has17 (EnvOk.cons c20 has20 (EnvOk.cons c14 has14 (EnvOk.cons c15 has15 (EnvOk.cons c18 has18 (EnvOk.cons c21 has21 (EnvOk.cons c16 has16 (EnvOk.cons c22 has22 (EnvOk.cons c23 has23 (EnvOk.rcons c7 has7 (EnvOk.rcons cSpL has10 (EnvOk.rcons c9 has9 (EnvOk.rcons c11 has11 EnvOk.nil)))))))))))))))))))) rfl Tryz.func3 rfl con3 93536104870866822473994779783361410326555602370079 (by kernel_rfl) (by decide) (by decide) rfl (by decide) rfl (by
  rintro ⟨(c : List Cnt), (raw : List Plm), (src : List Int), (w : List Plt), ⟨(tn : Int), (tp : List Plt)⟩, _⟩ hpre hwf X hT hG hk hK
  (simp -implicitDefEqProofs only [go_sem, bP, con3, con4, con5, con6, con12, conPlR, conTkO, con13, con17, con20, con14, con15, con18, con21, con16, con22, con23, con7, conSpL, con9, con11, hT, hG, hk, hK, Tryz.results3] at hwf ⊢); (try simp (disch := decide +kernel) only [drawn, true_and, and_true])
  clear hwf
  refine fun _ _ hs _ => ⟨by decide, ?_⟩
  obtain ⟨⟨⟨hs1, hs2⟩, hs3⟩, hs4⟩ := hs
  have hcl := (smallC_of hs1).2
  obtain ⟨hr1, hr2⟩ := smallP_of hs2
  rintro ⟨⟨(many : List Cnt), _⟩, ⟨⟨(s1 : List Int), (a1 : Int)⟩, _⟩⟩ hy1
  obtain ⟨⟨h1, hmr⟩, -⟩ := hy1
  have h1 : 0 ≤ a1 := h1
  have hmr : CtsR 7 12 many := hmr
  have hml := hmr.ok.len
  refine ⟨⟨h1, by decide⟩, ?_⟩
  rintro ⟨⟨(ops : List Opn), _⟩, ⟨⟨(s2 : List Int), (a2 : Int)⟩, _⟩⟩ hy2
  obtain ⟨⟨h2, hops⟩, -⟩ := hy2
  have h2 : 0 ≤ a2 := h2
  have hops : OpsR 8 ops := hops
  have hpm : ∀ y ∈ placesR ops, y.2.2.length ≤ 30 := fun y hy => Nat.le_trans (placesR_mayS hy) hops.len
  dsimp only
  generalize placesR ops = pl at hpm ⊢
  refine fun _ => ⟨⟨h2, (by show many.length ≤ 1000; omega), fun o ho => by have := (hmr.ok.ok o ho).2.1; omega⟩, ?_⟩
  rintro ⟨⟨(spc : List Cnt), _⟩, ⟨⟨(s3 : List Int), (a3 : Int)⟩, _⟩⟩ hy3
  have h3 : 0 ≤ a3 := hy3.1.1
  clear hy3
  dsimp only
  refine fun _ => evk_loop ⟨{ q : Src × Nat // 0 ≤ q.1.2 ∧ q.2 ≤ 3 }, 1000, fun q => [(1, .one (.sl yPM raw false)), (3, .one (.sl yPL w false)), (9, .one (.loc 70 0)), (11, .one (.loc 72 0)), (13, .one (.sl yPM pl false)), (63, .one (.sl (.sl yCT) [c, many, spc] false)), (64, .one (.int .i64 3)), (65, .one (.int .i64 q.1.2))], fun q => [(70, .cells 27 [.int .i64 tn, .sl yPL tp false]), (72, .cells 67 [.sl (.int .i64) q.1.1.1 false, .int .i64 q.1.1.2])], fun q => 3 - q.1.2⟩ ⟨((s3, a3), 0), h3, Nat.zero_le _⟩ ?_ ?_
  · simp only [go_sem]
    try first | rfl | (and_intros <;> first | trivial | rfl | omega)
  rintro ⟨⟨⟨s, a⟩, i1⟩, (h4 : 0 ≤ a), (hi1 : i1 ≤ 3)⟩
  (simp -implicitDefEqProofs only [go_sem, bP, con3, con4, con5, con6, con12, conPlR, conTkO, con13, con17, con20, con14, con15, con18, con21, con16, con22, con23, con7, conSpL, con9, con11, hT, hG, hk, hK, Tryz.results3]); (try simp (disch := decide +kernel) only [drawn, true_and, and_true])
  obtain ⟨x, hx⟩ : ∃ x, [c, many, spc].getD i1 [] = x := ⟨_, rfl⟩
  have ex : [c, many, spc].getD (i1 : Int).toNat [] = x := hx
  try simp only [ex]
  clear hx ex
  refine fun hlt => ⟨⟨by omega, by omega⟩, fun _ _ _ => ?_⟩
  · refine evk_loop ⟨{ q : Src × Nat // 0 ≤ q.1.2 ∧ q.2 ≤ 3 }, 2000, fun q => [(1, .one (.sl yPM raw false)), (3, .one (.sl yPL w false)), (9, .one (.loc 70 0)), (11, .one (.loc 72 0)), (13, .one (.sl yPM pl false)), (63, .one (.sl (.sl yCT) [c, many, spc] false)), (64, .one (.int .i64 3)), (65, .one (.int .i64 i1)), (15, .one (.sl yCT x false)), (71, .one (.sl (.sl yPM) [raw, pl, []] false)), (72, .one (.int .i64 3)), (73, .one (.int .i64 q.1.2))], fun q => [(70, .cells 27 [.int .i64 tn, .sl yPL tp false]), (72, .cells 67 [.sl (.int .i64) q.1.1.1 false, .int .i64 q.1.1.2])], fun q => 3 - q.1.2⟩ ⟨((s, a), 0), h4, Nat.zero_le _⟩ ?_ ?_
    · simp only [go_sem]
      try first | rfl | (and_intros <;> first | trivial | rfl | omega)
    rintro ⟨⟨⟨s, a⟩, i2⟩, (h5 : 0 ≤ a), (hi2 : i2 ≤ 3)⟩
    (simp -implicitDefEqProofs only [go_sem, bP, con3, con4, con5, con6, con12, conPlR, conTkO, con13, con17, con20, con14, con15, con18, con21, con16, con22, con23, con7, conSpL, con9, con11, hT, hG, hk, hK, Tryz.results3]); (try simp (disch := decide +kernel) only [drawn, true_and, and_true])
    obtain ⟨y, hy⟩ : ∃ y, [raw, pl, []].getD i2 [] = y := ⟨_, rfl⟩
    have ey : [raw, pl, []].getD (i2 : Int).toNat [] = y := hy
    try simp only [ey]
    have hym : ∀ z ∈ y, z.2.2.length ≤ 1000 := by
     rw [← hy]
     match i2 with
     | 0 => exact fun z hz => Nat.le_trans (hr1 z hz) (by decide)
     | 1 => exact fun z hz => Nat.le_trans (hpm z hz) (by decide)
     | 2 => exact fun z hz => (by cases hz)
     | n + 3 => exact fun z hz => (by cases hz)
    clear hy ey
    refine ⟨fun hlt2 => ⟨⟨by omega, by omega⟩, fun _ _ => ⟨⟨h5, by decide⟩, ?_⟩⟩, fun hge2 => ?_⟩
    · rintro ⟨⟨(P1 : List Plt), _⟩, ⟨⟨(s4 : List Int), (a4 : Int)⟩, _⟩⟩ hy4
      have h6 : 0 ≤ a4 := hy4.1.1
      have l1 : (P1.length : Int) ≤ 20 := hy4.1.2
      clear hy4
      refine ⟨⟨h6, by decide⟩, ?_⟩
      rintro ⟨⟨(P2 : List Plt), _⟩, ⟨⟨(s5 : List Int), (a5 : Int)⟩, _⟩⟩ hy5
      have h7 : 0 ≤ a5 := hy5.1.1
      have l2 : (P2.length : Int) ≤ 20 := hy5.1.2
      clear hy5
      dsimp only
      have p7 : 0 ≤ (Src.step (s5, a5)).2 := step_pos h7
      generalize platesV (goMod (Src.raw (s5, a5)) 12) = pp
      generalize Src.step (s5, a5) = S6 at p7 ⊢
      obtain ⟨s6, a6⟩ := S6
      obtain ⟨pp1, pp2, pp3⟩ := pp
      refine ⟨h7, fun _ => ⟨by omega, fun _ => ?_⟩⟩
      refine evk_loop ⟨{ k : Nat // k ≤ 3 }, 3000, fun q => [(1, .one (.sl yPM raw false)), (3, .one (.sl yPL w false)), (9, .one (.loc 70 0)), (11, .one (.loc 72 0)), (13, .one (.sl yPM pl false)), (63, .one (.sl (.sl yCT) [c, many, spc] false)), (64, .one (.int .i64 3)), (65, .one (.int .i64 i1)), (15, .one (.sl yCT x false)), (71, .one (.sl (.sl yPM) [raw, pl, []] false)), (72, .one (.int .i64 3)), (73, .one (.int .i64 i2)), (17, .one (.sl yPM y false)), (86, .one (.sl (.sl yPL) [w, P1, P2 ++ [(pp1, pp2, pp3)]] false)), (87, .one (.int .i64 3)), (88, .one (.int .i64 q.1))], fun q => [(70, .cells 27 [.int .i64 tn, .sl yPL tp false]), (72, .cells 67 [.sl (.int .i64) s6 false, .int .i64 a6])], fun q => 3 - q.1⟩ ⟨0, Nat.zero_le _⟩ ?_ ?_
      · simp only [go_sem]
        try first | rfl | (and_intros <;> first | trivial | rfl | omega)
      rintro ⟨i3, (hi3 : i3 ≤ 3)⟩
      (simp -implicitDefEqProofs only [go_sem, bP, con3, con4, con5, con6, con12, conPlR, conTkO, con13, con17, con20, con14, con15, con18, con21, con16, con22, con23, con7, conSpL, con9, con11, hT, hG, hk, hK, Tryz.results3]); (try simp (disch := decide +kernel) only [drawn, true_and, and_true])
      obtain ⟨v, hv⟩ : ∃ v, [w, P1, P2 ++ [(pp1, pp2, pp3)]].getD i3 [] = v := ⟨_, rfl⟩
      have ev : [w, P1, P2 ++ [(pp1, pp2, pp3)]].getD (i3 : Int).toNat [] = v := hv
      try simp only [ev]
      have hvl : v.length ≤ 1000 := by
       rw [← hv]
       match i3 with
       | 0 => show w.length ≤ 1000; omega
       | 1 => show P1.length ≤ 1000; omega
       | 2 => show (P2 ++ [_]).length ≤ 1000; rw [List.length_append, List.length_singleton]; omega
       | n + 3 => exact Nat.zero_le _
      clear hv ev
      (repeat' with_reducible first | refine And.intro ?_ ?_ | intro _) <;> try first | with_reducible (first | assumption | omega | contradiction) | decide
      all_goals first
       | omega
       | assumption
       | exact ⟨hvl, hym⟩
       | exact hym _ (by assumption)
       | (refine fin_lp ⟨i3 + 1, by omega⟩ ?_ (by dsimp only; omega)
          simp only [go_sem]
          try first | rfl | (and_intros <;> first | trivial | rfl | omega)
          done)
       | (refine fin_lp ⟨((s6, a6), i2 + 1), p7, (by show i2 + 1 ≤ 3; omega)⟩ ?_ (by dsimp only; omega)
          simp only [go_sem]
          try first | rfl | (and_intros <;> first | trivial | rfl | omega)
          done)
       | fail
    · have ht := tasksV_spec x (most := 4) (s := (s, a)) h5 (by decide)
      obtain ⟨h8, l3, l4⟩ := ht
      generalize tasksV x 4 (s, a) = TV at h8 l3 l4 ⊢
      obtain ⟨ts, ⟨s7, a7⟩⟩ := TV
      have h8 : 0 ≤ a7 := h8
      have l3 : (ts.length : Int) ≤ 4 := l3
      dsimp only
      refine ⟨⟨h5, by decide⟩, fun _ => ⟨by omega, fun _ => ?_⟩⟩
      have hUl : (ts ++ [((tn, tp) : Tsk)]).length ≤ 5 := by rw [List.length_append, List.length_singleton]; omega
      have hUm : ∀ u ∈ ts ++ [((tn, tp) : Tsk)], u.2.length ≤ 1000 := fun u hu => by
       rcases List.mem_append.1 hu with hu | hu
       · exact Nat.le_trans (l4 u hu) (by decide)
       · rw [List.mem_singleton.1 hu]; show tp.length ≤ 1000; omega
      obtain ⟨U, hU⟩ : ∃ U : List Tsk, ts ++ [(tn, tp)] = U := ⟨_, rfl⟩
      rw [hU] at hUl hUm
      try simp only [hU]
      refine evk_loop ⟨{ k : Nat // k ≤ U.length }, 6000, fun q => [(1, .one (.sl yPM raw false)), (3, .one (.sl yPL w false)), (9, .one (.loc 70 0)), (11, .one (.loc 72 0)), (13, .one (.sl yPM pl false)), (63, .one (.sl (.sl yCT) [c, many, spc] false)), (64, .one (.int .i64 3)), (65, .one (.int .i64 i1)), (15, .one (.sl yCT x false)), (132, .one (.sl yTK U false)), (133, .one (.int .i64 U.length)), (134, .one (.int .i64 q.1))], fun q => [(70, .cells 27 [.int .i64 tn, .sl yPL tp false]), (72, .cells 67 [.sl (.int .i64) s7 false, .int .i64 a7])], fun q => U.length - q.1⟩ ⟨0, Nat.zero_le _⟩ ?_ ?_
      · simp only [go_sem]
        first
         | (try first | rfl | (and_intros <;> first | trivial | rfl | omega)
            done)
         | fail
      rintro ⟨j, (hj : j ≤ U.length)⟩
      (simp -implicitDefEqProofs only [go_sem, bP, con3, con4, con5, con6, con12, conPlR, conTkO, con13, con17, con20, con14, con15, con18, con21, con16, con22, con23, con7, conSpL, con9, con11, hT, hG, hk, hK, Tryz.results3]); (try simp (disch := decide +kernel) only [drawn, true_and, and_true])
      obtain ⟨u, hu⟩ : ∃ u, U.getD j tk0 = u := ⟨_, rfl⟩
      have eu : U.getD (j : Int).toNat (0, []) = u := hu
      have hul : j < U.length → u.2.length ≤ 1000 := fun h => hUm u (by rw [← hu]; exact getD_mem h)
      have eU : (u.1, u.2) = u := rfl
      try simp only [eu, eU]
      (repeat' with_reducible first | refine And.intro ?_ ?_ | intro _) <;> try first | with_reducible (first | assumption | omega | contradiction) | decide
      all_goals first
       | omega
       | assumption
       | exact hul (by omega)
       | (refine fin_lp ⟨j + 1, by omega⟩ ?_ (by dsimp only; omega)
          simp only [go_sem]
          try first | rfl | (and_intros <;> first | trivial | rfl | omega)
          done)
       | (refine fin_lp ⟨((s7, a7), i1 + 1), h8, (by show i1 + 1 ≤ 3; omega)⟩ ?_ (by dsimp only; omega)
          simp only [go_sem]
          try first | rfl | (and_intros <;> first | trivial | rfl | omega)
          done)
       | fail)
end Go.Proofs.YtomdgacmoeohnaaGreat

/- A part. -/
namespace Go.Ev
open Go.RowKit Go.WideShapes Go.ChangeShapes
def tyB (P : Program) : Nat → TypeId → Ty → Bool
 | 0, _, _ => false
 | d + 1, t, u => decide (P.cellsOf t = u.n) && decide (0 < u.n) && (match P.underlying t with
   | some (.struct fs) => tyFs (tyB P d) fs.toList 0 u
   | some (.int k) => (match u with | .int k' => decide (k = k') | _ => false)
   | some .bool => (match u with | .bool => true | _ => false)
   | some .string => (match u with | .str => true | _ => false)
   | some (.slice e) => (match u with | .sl v => tyB P d e v | _ => false)
   | _ => false)
where tyFs (f : TypeId → Ty → Bool) : List Field → Nat → Ty → Bool
 | [], _, _ => false
 | [x], off, u => decide (x.offset = off) && f x.type u
 | x :: y :: xs, off, .pair a b => decide (x.offset = off) && f x.type a && tyFs f (y :: xs) (off + a.n) b
 | _, _, _ => false
def sz : (t : Ty) → t.den → Nat
 | .int _, _ => 1
 | .bool, _ => 1
 | .str, s => s.size + 1
 | .unit, _ => 0
 | .sl t, xs => (xs.map (sz t)).sum + 1
 | .pair a b, p => sz a p.1 + sz b p.2
structure Bulk {H : Type} (B : DataW H → Nat) (BA : List (DataW H) → Nat) : Prop where
 lit : ∀ l, 1 ≤ B (.lit l)
 str : ∀ b, b.length + 1 ≤ B (.lit (.string b))
 nil : 1 ≤ B .nil
 sl : ∀ a b, BA a + 1 ≤ B (.slice a b)
 agg : ∀ a, BA a ≤ B (.agg a)
 cons : ∀ d r, BA (d :: r) = B d + BA r
section
variable {H : Type} {enc : TypeId × Value → H} {P : Program} {w : World} {B : DataW H → Nat} {BA : List (DataW H) → Nat}
theorem mapM_at {α β : Type} {f : α → Option β} : ∀ {l : List α} {r : List β}, l.mapM f = some r → r.length = l.length ∧ ∀ (i : Nat) (x : α) (y : β), l[i]? = some x → r[i]? = some y → f x = some y
 | [], r, h => by simp at h; subst h; exact ⟨rfl, fun i x y h => by simp at h⟩
 | a :: l, r, h => by
   rw [List.mapM_cons] at h
   cases hf : f a with
   | none => rw [hf] at h; cases h
   | some b =>
     rw [hf] at h
     cases hl : l.mapM f with
     | none => simp only [hl] at h; cases h
     | some bs =>
       simp only [hl] at h
       cases h
       obtain ⟨h1, h2⟩ := mapM_at hl
       refine ⟨by simp [h1], fun i x y hx hy => ?_⟩
       cases i with
       | zero => simp at hx hy; subst hx; subst hy; exact hf
       | succ i => simp at hx hy; exact h2 i x y hx hy
theorem cells?_spec {a : Addr} {n : Nat} {cs : List Value} (h : w.cells? 0 a n = some cs) : cs.length = n ∧ ∀ j u, cs[j]? = some u → w.cell? (a.add j) = some u := by
 unfold World.cells? at h
 rw [if_pos (Nat.zero_le _)] at h
 obtain ⟨h1, h2⟩ := mapM_at h
 refine ⟨by simpa using h1, fun j u hu => ?_⟩
 have hj : j < cs.length := (List.getElem?_eq_some_iff.1 hu).1
 have hjn : j < n := by simp at h1; omega
 exact h2 j j u (by simp [hjn]) hu
theorem sum_le {B : DataW H → Nat} {BA : List (DataW H) → Nat} (hB : Bulk B BA) {t : Ty} : ∀ (ys : List t.den) (ds : List (DataW H)), ys.length = ds.length → (∀ (i : Nat) (y : t.den) (d : DataW H), ys[i]? = some y → ds[i]? = some d → sz t y ≤ B d) → (ys.map (sz t)).sum ≤ BA ds
 | [], ds, _, _ => by simp
 | y :: ys, [], h, _ => by simp at h
 | y :: ys, d :: ds, h, hs => by
   have h0 := hs 0 y d rfl rfl
   have := sum_le hB ys ds (by simpa using h) (fun i y d hy hd => hs (i + 1) y d (by simpa using hy) (by simpa using hd))
   simp only [List.map_cons, List.sum_cons, hB.cons]
   omega
theorem roAll_mk {α : Type} {r : α → List Value → Prop} : ∀ (ys : List α) (cs : List (List Value)), ys.length = cs.length → (∀ (i : Nat) (y : α) (c : List Value), ys[i]? = some y → cs[i]? = some c → r y c) → roAll r ys cs.flatten
 | [], [], _, _ => rfl
 | [], _ :: _, h, _ => by simp at h
 | _ :: _, [], h, _ => by simp at h
 | y :: ys, c :: cs, h, hr => ⟨c, cs.flatten, by simp, hr 0 y c rfl rfl, roAll_mk ys cs (by simpa using h) (fun i z d hz hd => hr (i + 1) z d (by simpa using hz) (by simpa using hd))⟩
theorem pickQ {α : Type} {Q : Nat → α → Prop} : ∀ (n : Nat), (∀ i, i < n → ∃ y, Q i y) → ∃ ys : List α, ys.length = n ∧ ∀ (i : Nat) (y : α), ys[i]? = some y → Q i y
 | 0, _ => ⟨[], rfl, fun i y h => by simp at h⟩
 | n + 1, h => by
   obtain ⟨ys, h1, h2⟩ := pickQ n (fun i hi => h i (by omega))
   obtain ⟨y, hy⟩ := h n (by omega)
   refine ⟨ys ++ [y], by simp [h1], fun i z hz => ?_⟩
   by_cases e : i < n
   · rw [List.getElem?_append_left (by omega)] at hz; exact h2 i z hz
   · have hlt := (List.getElem?_eq_some_iff.1 hz).1
     have : i = n := by simp at hlt; omega
     subst this
     rw [List.getElem?_append_right (by omega), h1] at hz
     simp at hz; subst hz; exact hy
theorem pick_rows {α : Type} (f : Nat → Option α) : ∀ (n : Nat), (∀ i, i < n → ∃ y, f i = some y) → ∃ ys : List α, ys.length = n ∧ ∀ i, i < n → f i = ys[i]?
 | 0, _ => ⟨[], rfl, fun i hi => by omega⟩
 | n + 1, h => by
   obtain ⟨ys, h1, h2⟩ := pick_rows f n (fun i hi => h i (by omega))
   obtain ⟨y, hy⟩ := h n (by omega)
   refine ⟨ys ++ [y], by simp [h1], fun i hi => ?_⟩
   by_cases e : i = n
   · subst e; rw [hy, List.getElem?_append_right (by omega), h1]; simp
   · rw [h2 i (by omega), List.getElem?_append_left (by omega)]
theorem flatten_at {n : Nat} : ∀ (cs : List (List Value)), (∀ c ∈ cs, c.length = n) → ∀ (j : Nat) (u : Value), cs.flatten[j]? = some u → ∃ i q c, cs[i]? = some c ∧ c[q]? = some u ∧ j = i * n + q
 | [], _, j, u, h => by simp at h
 | c :: cs, hl, j, u, h => by
   rw [List.flatten_cons] at h
   by_cases hj : j < c.length
   · rw [List.getElem?_append_left hj] at h
     exact ⟨0, j, c, rfl, h, by omega⟩
   · rw [List.getElem?_append_right (by omega)] at h
     obtain ⟨i, q, d, h1, h2, h3⟩ := flatten_at cs (fun d hd => hl d (by simp [hd])) _ u h
     have := hl c (by simp)
     exact ⟨i + 1, q, d, by simpa using h1, h2, by rw [Nat.add_mul]; omega⟩
theorem add_add (a : Addr) (i j : Nat) (h : a.spot = none) : (a.add i).add j = a.add (i + j) := by
 obtain ⟨b, o, s⟩ := a
 simp only at h
 subst h
 simp [add_none, Nat.add_assoc]
theorem trod_ro (hB : Bulk B BA) : ∀ (fuel d : Nat) (t : TypeId) (u : Ty) (cs : List Value) (x : DataW H × List MemPlace), tyB P d t u = true → DataW.trod enc P w 0 (fun _ => true) true fuel t cs = some x → ∃ y : u.den, ro w (fun _ => False) u y cs ∧ sz u y ≤ B x.1
 | 0, d, t, u, cs, x, _, h => by simp [DataW.trod] at h
 | fuel + 1, 0, t, u, cs, x, ht, h => by cases ht
 | fuel + 1, d + 1, t, u, cs, x, ht, h => by
   simp only [tyB, Bool.and_eq_true, decide_eq_true_eq] at ht
   obtain ⟨⟨hn, hpos⟩, ht⟩ := ht
   cases hu : P.underlying t with
   | none => rw [hu] at ht; cases ht
   | some de =>
     rw [hu] at ht
     cases de <;> simp only at ht <;> try (cases ht; done)
     case bool =>
      cases u <;> simp only at ht <;> try (cases ht; done)
      obtain ⟨b, rfl, rfl⟩ := DataW.trod_bool hu h
      exact ⟨b, rfl, hB.lit _⟩
     case string =>
      cases u <;> simp only at ht <;> try (cases ht; done)
      obtain ⟨s, rfl, rfl, hs⟩ := DataW.trod_string hu h
      exact ⟨s, ⟨rfl, hs⟩, by have := hB.str s.data.toList; simpa [sz] using this⟩
     case int k =>
      cases u <;> simp only at ht <;> try (cases ht; done)
      simp only [decide_eq_true_eq] at ht
      subst ht
      obtain ⟨n, rfl, rfl, hs⟩ := DataW.trod_int hu h
      refine ⟨n, ⟨rfl, ?_⟩, hB.lit _⟩
      simpa [Lit.wf, InR] using hs
     case slice e =>
      cases u <;> simp only at ht <;> try (cases ht; done)
      rename_i v
      have hcell : P.cellsOf e = v.n ∧ 0 < v.n := by
       cases d with
       | zero => cases ht
       | succ d => simp only [tyB, Bool.and_eq_true, decide_eq_true_eq] at ht; exact ht.1
      rcases DataW.trod_slice hu h with ⟨rfl, rfl⟩ | ⟨a, len, cap, elems, rest, n, e1, rfl, rfl, _, hlc, hcm, hel, helem, hsp, _⟩
      · exact ⟨[], ⟨none, 0, 0, rfl, rfl, Nat.le_refl _, by simp [maxLen], .inl rfl⟩, by simpa [sz] using hB.nil⟩
      · cases e1
        obtain ⟨hrl, hrest⟩ := hsp rfl
        have hspot : 0 < cap → a.spot = none := by
         intro hc
         have key : ∀ i y, (w.cells? 0 (a.add (i * P.cellsOf e)) (P.cellsOf e)).bind (DataW.trod enc P w 0 (fun _ => true) true fuel e) = some y → i = 0 → a.spot = none := by
          rintro i y hy rfl
          rw [Nat.zero_mul] at hy
          cases hcs : w.cells? 0 (a.add 0) (P.cellsOf e) with
          | none => rw [hcs] at hy; cases hy
          | some c0 =>
            obtain ⟨g1, g2⟩ := cells?_spec hcs
            have hp : 0 < c0.length := by omega
            have g3 := g2 0 c0[0] (by simp [hp])
            simp only [Addr.add, if_true] at g3
            unfold World.cell? at g3
            split at g3
            · split at g3
              · cases g3
              · rename_i hs; simpa using hs
            · cases g3
         by_cases hl : 0 < len
         · have := helem 0 hl
           rw [List.getElem?_eq_getElem (by omega)] at this
           exact key 0 _ this rfl
         · have := hrest 0 (by omega)
           rw [List.getElem?_eq_getElem (by omega)] at this
           exact key _ _ this (by omega)
        have hex : ∀ i, i < len → ∃ c, w.cells? 0 (a.add (i * P.cellsOf e)) (P.cellsOf e) = some c := fun i hi => by
         have := helem i hi
         rw [List.getElem?_eq_getElem (by omega)] at this
         cases hc : w.cells? 0 (a.add (i * P.cellsOf e)) (P.cellsOf e) with
         | none => rw [hc] at this; cases this
         | some c => exact ⟨c, rfl⟩
        obtain ⟨css, hcl, hcs⟩ := pick_rows _ len hex
        have hrow : ∀ (i : Nat) (c : List Value), css[i]? = some c → ∃ y : v.den, ro w (fun _ => False) v y c ∧ ∃ q, elems[i]? = some q ∧ sz v y ≤ B q.1 := by
         intro i c hc
         have hi : i < len := by have := (List.getElem?_eq_some_iff.1 hc).1; omega
         have h1 := helem i hi
         rw [hcs i hi, hc] at h1
         simp only [Option.bind_some] at h1
         rw [List.getElem?_eq_getElem (by omega)] at h1
         obtain ⟨y, g1, g2⟩ := trod_ro hB fuel d e v c _ ht h1
         exact ⟨y, g1, _, List.getElem?_eq_getElem (by omega), g2⟩
        obtain ⟨ys, hyl, hyat⟩ := pickQ (Q := fun i (y : v.den) => ∀ c, css[i]? = some c → ro w (fun _ => False) v y c ∧ ∃ q, elems[i]? = some q ∧ sz v y ≤ B q.1) len (fun i hi => by
         obtain ⟨y, g⟩ := hrow i css[i] (List.getElem?_eq_getElem (by omega))
         exact ⟨y, fun c hc => by
          have : css[i] = c := by rw [List.getElem?_eq_getElem (by omega)] at hc; exact Option.some.inj hc
          rw [← this]; exact g⟩)
        have hro : roAll (ro w (fun _ => False) v) ys css.flatten := roAll_mk ys css (by omega) (fun i y c hy hc => (hyat i y hy c hc).1)
        refine ⟨ys, ⟨some a, len, cap, rfl, hyl.symm, hlc, hcm, ?_⟩, ?_⟩
        · by_cases hc0 : cap = 0
          · exact .inl hc0
          · have hs := hspot (by omega)
            refine .inr ⟨a.block, a.off, css.flatten, by obtain ⟨b, o, s⟩ := a; simp only at hs; subst hs; rfl, hro, fun j q hq => ⟨fun h => h, ?_⟩⟩
            obtain ⟨i, r, c, g1, g2, g3⟩ := flatten_at (n := v.n) css (fun c hc => by
             obtain ⟨i, hi, rfl⟩ := List.mem_iff_getElem.1 hc
             have := hcs i (by omega)
             rw [List.getElem?_eq_getElem hi] at this
             rw [(cells?_spec this).1]; exact hcell.1) j q hq
            have hi : i < len := by have := (List.getElem?_eq_some_iff.1 g1).1; omega
            have := hcs i hi
            rw [g1] at this
            have := (cells?_spec this).2 r q g2
            rw [add_add _ _ _ hs] at this
            obtain ⟨b, o, s⟩ := a
            simp only at hs; subst hs
            rw [add_none] at this
            rw [g3, ← hcell.1]
            exact this
        · have := sum_le hB ys (elems.map (·.1)) (by simp; omega) (fun i y q hy hq => by
           have hi : i < len := by have := (List.getElem?_eq_some_iff.1 hy).1; omega
           obtain ⟨_, z, g1, g2⟩ := hyat i y hy css[i] (List.getElem?_eq_getElem (by omega))
           rw [List.getElem?_map, g1] at hq
           simp at hq; subst hq; exact g2)
          have h2 := hB.sl (elems.map (·.1)) (rest.map (·.1))
          simp only [sz]
          omega
     case struct fs =>
      obtain ⟨xs, n, e1, rfl, hcl, hxl, hf⟩ := DataW.trod_struct hu h
      cases e1
      have key : ∀ (fl : List Field) (off : Nat) (u : Ty) (i : Nat), tyB.tyFs (tyB P d) fl off u = true → (∀ (j : Nat) (f : Field), fl[j]? = some f → fs[i + j]? = some f) → i + fl.length = fs.size → off + u.n ≤ cs.length →
       ∃ y : u.den, ro w (fun _ => False) u y ((cs.drop off).take u.n) ∧ sz u y ≤ BA ((xs.drop i).map (·.1)) := by
       intro fl
       induction fl with
       | nil => intro off u i h _ _ _; cases h
       | cons f fl ih =>
         intro off u i hfl hat hlen hoff
         have h0 := hat 0 f rfl
         have hf0 := hf i f (by simpa using h0)
         have hi : i < xs.length := by simp at hlen; omega
         have hdrop : xs.drop i = xs[i] :: xs.drop (i + 1) := List.drop_eq_getElem_cons hi
         have hlast : ∀ u, f.offset = off → tyB P d f.type u = true → ∃ y : u.den, ro w (fun _ => False) u y ((cs.drop off).take u.n) ∧ sz u y ≤ B xs[i].1 := by
          intro u e1 e2
          rw [List.getElem?_eq_getElem hi, e1] at hf0
          have hc : P.cellsOf f.type = u.n := by
           cases d with
           | zero => cases e2
           | succ d => simp only [tyB, Bool.and_eq_true, decide_eq_true_eq] at e2; exact e2.1.1
          rw [hc] at hf0
          exact trod_ro hB fuel d f.type u _ _ e2 hf0
         match fl, hfl with
         | [], hfl =>
           simp only [tyB.tyFs, Bool.and_eq_true, decide_eq_true_eq] at hfl
           obtain ⟨y, g1, g2⟩ := hlast u hfl.1 hfl.2
           refine ⟨y, g1, ?_⟩
           rw [hdrop, List.map_cons, hB.cons]; omega
         | f2 :: fl, hfl =>
           cases u <;> simp only [tyB.tyFs] at hfl <;> try (cases hfl; done)
           rename_i a b _
           simp only [Bool.and_eq_true, decide_eq_true_eq] at hfl
           obtain ⟨y, g1, g2⟩ := hlast a hfl.1.1 hfl.1.2
           simp only [Ty.n] at hoff
           obtain ⟨z, k1, k2⟩ := ih (off + a.n) b (i + 1) hfl.2 (fun j g hg => by have := hat (j + 1) g (by simpa using hg); rwa [show i + (j + 1) = i + 1 + j by omega] at this) (by simp at hlen ⊢; omega) (by omega)
           refine ⟨(y, z), ⟨_, _, ?_, g1, k1⟩, ?_⟩
           · simp only [Ty.n]
             rw [← List.drop_drop, ← List.take_add]
           · rw [hdrop, List.map_cons, hB.cons]
             simp only [sz]; omega
      obtain ⟨y, g1, g2⟩ := key fs.toList 0 u 0 ht (fun j f hj => by simpa using hj) (by simp) (by omega)
      refine ⟨y, ?_, ?_⟩
      · rw [List.drop_zero, List.take_of_length_le (by omega)] at g1; exact g1
      · rw [List.drop_zero] at g2
        exact Nat.le_trans g2 (hB.agg _)
end
end Go.Ev
