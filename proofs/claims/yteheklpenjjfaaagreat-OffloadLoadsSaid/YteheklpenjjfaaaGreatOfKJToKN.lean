/- Containers taken off and put on again: the plain law. -/
import Derived.Test.YteheklpenjjfaaaGreatOfKCToK8
import Derived.Test.YteheklpenjjfaaaGreatOfKfToKeys
import Derived.Test.YteheklpenjjfaaaGreatOfKOToKD
set_option linter.unusedSimpArgs false
set_option linter.unusedVariables false
set_option maxRecDepth 100000
set_option maxHeartbeats 2000000
namespace Go.Proofs.YteheklpenjjfaaaGreat
open Go.Ev

/-- The containers at other positions. -/
def XS (c x : List Cnt) (P : Nat → Int) : Prop := x.length = c.length ∧ ∀ j, j < c.length → x.getD j ct0 = setPos (c.getD j ct0) (P j)
theorem XS.congr {c x : List Cnt} {P Q : Nat → Int} (h : XS c x P) (e : ∀ j, j < c.length → P j = Q j) : XS c x Q := ⟨h.1, fun j hj => by rw [h.2 j hj, e j hj]⟩
/-- Positions that may be. -/
structure PosOk (c : List Cnt) (P : Nat → Int) : Prop where
 bd : ∀ j, j < c.length → 0 ≤ P j ∧ P j ≤ 24
 ap : ∀ i j, i < c.length → j < c.length → i ≠ j → P j ≠ 0 → P i = P j → (c.getD i ct0).flt ≠ (c.getD j ct0).flt
theorem xs_ok {c x : List Cnt} {P : Nat → Int} (hC : CtsOk c) (hx : XS c x P) (hP : PosOk c P) : CtsOk x := by
 obtain ⟨h1, h2⟩ := hx
 have hn := (pw_getD ct0).1 hC.num
 have hpl := (pw_getD ct0).1 hC.pl
 refine ⟨by rw [h1]; exact hC.len, fun o ho => ?_, (pw_getD ct0).2 fun i j hij hj => ?_, (pw_getD ct0).2 fun i j hij hj => ?_, (pw_getD ct0).2 fun i j hij hj => ?_⟩
 · obtain ⟨j, hj, rfl⟩ := getD_ct ho
   rw [h1] at hj
   obtain ⟨g1, g2, g3⟩ := hC.ok _ (getD_mem (d := ct0) hj)
   obtain ⟨b1, b2⟩ := hP.bd j hj
   rw [h2 j hj]
   refine ⟨?_, g2, g3⟩
   unfold propC inV at g1 ⊢
   simp only [Bool.and_eq_true, decide_eq_true_eq] at g1 ⊢
   exact ⟨⟨⟨⟨⟨⟨g1.1.1.1.1.1.1, g1.1.1.1.1.1.2⟩, g1.1.1.1.1.2⟩, g1.1.1.1.2⟩, g1.1.1.2⟩, ⟨b1, b2⟩⟩, g1.2⟩
 · rw [h2 i (by omega), h2 j (by omega)]; exact hn i j hij (by omega)
 · rw [h2 i (by omega), h2 j (by omega)]
   intro q1 q2
   exact hP.ap i j (by omega) (by omega) (by omega) q1 q2
 · rw [h2 i (by omega), h2 j (by omega)]; exact hpl i j hij (by omega)
theorem xs_idx {c x : List Cnt} {P : Nat → Int} (hC : CtsOk c) (hx : XS c x P) {j : Nat} (hj : j < c.length) : numIdx x (c.getD j ct0).num = j := by
 obtain ⟨h1, h2⟩ := hx
 refine idxV_at (d := ct0) (fun k hk => ?_) (by omega) ?_
 · show decide ((x.getD k ct0).num = _) = false
   rw [h2 k (by omega)]
   refine decide_eq_false fun e => ?_
   have := num_inj hC (by omega) hj e
   omega
 · show decide ((x.getD j ct0).num = _) = true
   rw [h2 j hj]; exact decide_eq_true rfl
theorem xs_last {c x : List Cnt} {P : Nat → Int} (hC : CtsOk c) (hx : XS c x P) (hP : PosOk c P) {j : Nat} (hj : j < c.length) (h0 : P j ≠ 0) (hmax : ∀ i, i < c.length → (c.getD i ct0).flt = (c.getD j ct0).flt → P i ≤ P j) : 0 < (aboV x (c.getD j ct0).flt).length ∧ lastV (aboV x (c.getD j ct0).flt) = x.getD j ct0 := by
 have hx0 := hx
 obtain ⟨h1, h2⟩ := hx
 have hm : x.getD j ct0 ∈ aboV x (c.getD j ct0).flt := aboV_mem.2 ⟨getD_mem (by omega), by rw [h2 j hj]; rfl, by rw [h2 j hj]; exact h0⟩
 have hl : 0 < (aboV x (c.getD j ct0).flt).length := List.length_pos_of_mem hm
 refine ⟨hl, ?_⟩
 have hlm : lastV (aboV x (c.getD j ct0).flt) ∈ aboV x (c.getD j ct0).flt := getD_mem (by omega)
 obtain ⟨m1, m2, m3⟩ := aboV_mem.1 hlm
 obtain ⟨i, hi, e⟩ := getD_ct m1
 have hle := abo_last hm
 rw [← e] at m2 m3 hle ⊢
 rw [h2 i (by omega)] at m2 m3 hle
 rw [h2 j hj] at hle
 have m2 : (c.getD i ct0).flt = (c.getD j ct0).flt := m2
 have hle : P j ≤ P i := hle
 have := hmax i (by omega) m2
 by_cases q : i = j
 · rw [q]
 · exact absurd m2 (hP.ap i j (by omega) hj q h0 (by omega))
def updP (P : Nat → Int) (j : Nat) (v : Int) : Nat → Int := fun i => if i = j then v else P i
theorem xs_set {c x : List Cnt} {P : Nat → Int} (hx : XS c x P) {j : Nat} (hj : j < c.length) (v : Int) : XS c (x.set j (setPos (x.getD j ct0) v)) (updP P j v) := by
 obtain ⟨h1, h2⟩ := hx
 refine ⟨by rw [List.length_set]; exact h1, fun i hi => ?_⟩
 rw [set_getC (by omega)]
 unfold updP
 by_cases e : j = i
 · subst e
   rw [if_pos rfl, if_pos rfl, h2 j hj]; rfl
 · rw [if_neg e, if_neg (fun q => e q.symm), h2 i hi]
theorem xs_off {c x : List Cnt} {P : Nat → Int} (hC : CtsOk c) (hx : XS c x P) (hP : PosOk c P) {j : Nat} (hj : j < c.length) (h0 : P j ≠ 0) (hmax : ∀ i, i < c.length → (c.getD i ct0).flt = (c.getD j ct0).flt → P i ≤ P j) :
 (offV x (c.getD j ct0).num).2 = 0 ∧ XS c (offV x (c.getD j ct0).num).1 (updP P j 0) := by
 have hck := checkV_iff.2 (xs_ok hC hx hP)
 have hid := xs_idx hC hx hj
 obtain ⟨_, hla⟩ := xs_last hC hx hP hj h0 hmax
 have hxj := hx.2 j hj
 have hfl : (x.getD j ct0).flt = (c.getD j ct0).flt := by rw [hxj]; rfl
 have hnu : (x.getD j ct0).num = (c.getD j ct0).num := by rw [hxj]; rfl
 have hpo : (x.getD j ct0).pos = P j := by rw [hxj]; rfl
 have e : offV x (c.getD j ct0).num = (x.set j (setPos (x.getD j ct0) 0), 0) := by
  unfold offV
  rw [if_neg (by omega), hid, if_neg (by omega), show ((j : Int)).toNat = j by omega, if_neg (by rw [hpo]; exact h0), hfl, hla, if_neg (by rw [hnu]; simp)]
 rw [e]
 exact ⟨rfl, xs_set hx hj 0⟩
theorem xs_on {c x : List Cnt} {P : Nat → Int} (hC : CtsOk c) (hx : XS c x P) (hP : PosOk c P) {j : Nat} (hj : j < c.length) (h0 : P j = 0) {M : Int} (hM0 : 0 ≤ M) (hM : M + 1 ≤ 24) (hmax : ∀ i, i < c.length → (c.getD i ct0).flt = (c.getD j ct0).flt → P i ≤ M)
 (hex : M = 0 ∨ ∃ i, i < c.length ∧ (c.getD i ct0).flt = (c.getD j ct0).flt ∧ P i = M) : (onV x (c.getD j ct0).num).2 = 0 ∧ XS c (onV x (c.getD j ct0).num).1 (updP P j (M + 1)) := by
 have hck := checkV_iff.2 (xs_ok hC hx hP)
 have hid := xs_idx hC hx hj
 have hxj := hx.2 j hj
 have hfl : (x.getD j ct0).flt = (c.getD j ct0).flt := by rw [hxj]; rfl
 have hpo : (x.getD j ct0).pos = P j := by rw [hxj]; rfl
 have hnx : nextP x (c.getD j ct0).flt = M + 1 := by
  unfold nextP
  by_cases hz : M = 0
  · have hemp : ¬ 0 < (aboV x (c.getD j ct0).flt).length := fun q => by
     have hlm : lastV (aboV x (c.getD j ct0).flt) ∈ aboV x (c.getD j ct0).flt := getD_mem (by omega)
     obtain ⟨m1, m2, m3⟩ := aboV_mem.1 hlm
     obtain ⟨i, hi, e⟩ := getD_ct m1
     have hi2 : i < c.length := by rw [← hx.1]; exact hi
     rw [← e, hx.2 i hi2] at m2 m3
     have m3 : P i ≠ 0 := m3
     have := hmax i hi2 m2
     have := (hP.bd i hi2).1
     omega
    rw [if_neg hemp]; omega
  · rcases hex with h | ⟨i, i1, i2, i3⟩
    · exact absurd h hz
    · obtain ⟨l1, l2⟩ := xs_last hC hx hP i1 (by omega) (fun k hk hf => by rw [i3]; exact hmax k hk (hf.trans i2))
      rw [i2] at l1 l2
      rw [if_pos l1, l2, hx.2 i i1]
      show 1 + P i = M + 1
      omega
 have e : onV x (c.getD j ct0).num = (x.set j (setPos (x.getD j ct0) (M + 1)), 0) := by
  unfold onV
  rw [if_neg (by omega), hid, if_neg (by omega), show ((j : Int)).toNat = j by omega, if_neg (by rw [hpo]; simpa using h0), hfl, hnx, if_neg (by omega)]
 rw [e]
 exact ⟨rfl, xs_set hx hj (M + 1)⟩
section
variable {c : List Cnt} {f : Flt} {t : List Tsk} {O : List Int} {d : Nat}
end
end Go.Proofs.YteheklpenjjfaaaGreat

/- The generator of containers. -/
set_option linter.unusedSimpArgs false
set_option linter.unusedVariables false
set_option maxRecDepth 100000
set_option maxHeartbeats 8000000
namespace Go.Proofs.YteheklpenjjfaaaGreat
open Go.Ev

attribute [local go_sem] List.set_cons_succ List.set_cons_zero List.getD_cons_succ List.getD_cons_zero List.set_nil
/-- What Containers gives. -/
structure CtsR (most n : Int) (l : List Cnt) : Prop where
 ok : CtsOk l
 len : (l.length : Int) ≤ most
 pl : ∀ c ∈ l, ∀ x ∈ c.pcs, ∃ j : Nat, (j : Int) < n ∧ x.1 = platesV j
 fl : ∀ c ∈ l, ∃ j : Nat, j < 3 ∧ c.flt = fltsV j
structure CtA (most k nm : Int) (xs : List Cnt) : Prop where
 len : (xs.length : Int) + k ≤ most
 n0 : 0 ≤ nm
 n1 : nm ≤ 2 * xs.length
 ok : ∀ c ∈ xs, propC c = true ∧ c.pcs = [] ∧ c.num ≤ nm ∧ ∃ j : Nat, j < 3 ∧ c.flt = fltsV j
 num : xs.Pairwise (fun a b => a.num < b.num)
 pos : ∀ i, i < xs.length → (xs.getD i ct0).pos = 0 ∨ (xs.getD i ct0).pos = i + 1
theorem CtA.push {most k nm : Int} {xs : List Cnt} (h : CtA most k nm xs) (hm : most ≤ 24) (hk : 0 < k) {v f c l m p r : Int} (hv : 1 ≤ v ∧ v ≤ 2) (hf : 0 ≤ f ∧ f < 3) (hc : 0 ≤ c ∧ c ≤ 31) (hl : 0 ≤ l ∧ l ≤ 20000) (hmo : 0 ≤ m ∧ m ≤ 60) (hp : p = 0 ∨ p = xs.length + 1) (hr : -50 ≤ r ∧ r ≤ 50) : CtA most (k - 1) (nm + v) (xs ++ [(nm + v, fltsV f, c, l, m, p, r, [])]) := by
 obtain ⟨il, in0, in1, iok, inum, ipos⟩ := h
 refine ⟨by simp; omega, by omega, by simp; omega, fun x hx => ?_, ?_, fun i hi => ?_⟩
 · rcases List.mem_append.1 hx with hx | hx
   · obtain ⟨h1, h2, h3, h4⟩ := iok x hx
     exact ⟨h1, h2, by omega, h4⟩
   · rw [List.mem_singleton.1 hx]
     refine ⟨?_, rfl, Int.le_refl _, f.toNat, by omega, by rw [show ((f.toNat : Nat) : Int) = f by omega]⟩
     unfold propC inV
     simp only [Cnt.num, Cnt.flt, Cnt.cats, Cnt.lim, Cnt.most, Cnt.pos, Cnt.arm, fltsV_ok, Bool.and_eq_true, decide_eq_true_eq, and_true]
     rcases hp with hp | hp <;> subst hp <;> omega
 · rw [List.pairwise_append]
   refine ⟨inum, List.pairwise_singleton _ _, fun x hx y hy => ?_⟩
   rw [List.mem_singleton.1 hy]
   have := (iok x hx).2.2.1
   show x.num < nm + v
   omega
 · by_cases e : i < xs.length
   · have := ipos i e
     rw [List.getD_eq_getElem?_getD, List.getElem?_append_left e, ← List.getD_eq_getElem?_getD]; exact this
   · have e : i = xs.length := by simp at hi; omega
     subst e
     rw [List.getD_eq_getElem?_getD, List.getElem?_append_right (Nat.le_refl _), Nat.sub_self]
     exact hp
structure CtB (i N : Nat) (yss : List (List Pce)) : Prop where
 len : yss.length = N
 c20 : ∀ p ∈ yss, p.length ≤ 20
 ok : ∀ p ∈ yss, PcsOk p
 pl : ∀ p ∈ yss, ∀ x ∈ p, ∃ j : Nat, j < i ∧ x.1 = platesV j
 ap : yss.Pairwise (fun a b => ∀ x ∈ a, ∀ y ∈ b, x.1 ≠ y.1)
theorem CtB.nil (N : Nat) : CtB 0 N (List.replicate N []) := by
 refine ⟨by simp, fun p hp => ?_, fun p hp => ?_, fun p hp => ?_, ?_⟩
 · rw [List.eq_of_mem_replicate hp]; simp
 · rw [List.eq_of_mem_replicate hp]; exact ⟨fun _ h => (by cases h), .nil⟩
 · rw [List.eq_of_mem_replicate hp]; intro x hx; cases hx
 · rw [List.pairwise_replicate]; right; intro x hx; cases hx
theorem CtB.step {i N : Nat} {yss : List (List Pce)} (h : CtB i N yss) : CtB (i + 1) N yss :=
 ⟨h.len, h.c20, h.ok, fun p hp x hx => (h.pl p hp x hx).imp fun j hj => ⟨by omega, hj.2⟩, h.ap⟩
theorem platesV_ne {a b : Nat} (h : a < b) (hb : b < 1000) : platesV a ≠ platesV b := fun e => by
 have := platesV_lt (a := a) (b := b) (by omega) (by omega) (by omega)
 rw [e, (pltC_cmp.eq _ _).2 rfl] at this
 omega
theorem set_getD {α : Type} (l : List α) (k : Nat) (v d : α) (j : Nat) (hj : j < l.length) : (l.set k v).getD j d = if k = j then v else l.getD j d := by
 rw [List.getD_eq_getElem?_getD, List.getD_eq_getElem?_getD, List.getElem?_set]
 split
 · rename_i e; subst e; simp [hj]
 · rfl
theorem CtB.put {i N k : Nat} {yss : List (List Pce)} (h : CtB i N yss) (hi : i < 1000) (hk : k < N) (h20 : (yss.getD k []).length < 20) {w c : Int} (hw : 1 ≤ w ∧ w ≤ 999) (hc : 0 ≤ c ∧ c ≤ 4) : CtB (i + 1) N (yss.set k (yss.getD k [] ++ [(platesV i, w, c)])) := by
 obtain ⟨h1, h2, h3, h4, h5⟩ := h
 have hmem : yss.getD k [] ∈ yss := getD_mem (by omega)
 have key : ∀ p ∈ yss.set k (yss.getD k [] ++ [(platesV i, w, c)]), p ∈ yss ∨ p = yss.getD k [] ++ [(platesV i, w, c)] := fun p hp => by
  rcases List.mem_or_eq_of_mem_set hp with h | h
  · exact .inl h
  · exact .inr h
 refine ⟨by simp [h1], fun p hp => ?_, fun p hp => ?_, fun p hp x hx => ?_, ?_⟩
 · rcases key p hp with h | h
   · exact h2 p h
   · rw [h, List.length_append, List.length_singleton]; omega
 · rcases key p hp with h | h
   · exact h3 p h
   · subst h
     refine ⟨fun x hx => ?_, ?_⟩
     · rcases List.mem_append.1 hx with hx | hx
       · exact (h3 _ hmem).ok x hx
       · rw [List.mem_singleton.1 hx]
         unfold okPc inV
         simp only [platesV_ok, Bool.and_eq_true, decide_eq_true_eq, true_and]
         omega
     · rw [List.pairwise_append]
       refine ⟨(h3 _ hmem).srt, List.pairwise_singleton _ _, fun x hx y hy => ?_⟩
       rw [List.mem_singleton.1 hy]
       obtain ⟨j, hj, e⟩ := h4 _ hmem x hx
       rw [e]
       exact platesV_lt (by omega) (by omega) (by omega)
 · rcases key p hp with h | h
   · exact (h4 p h x hx).imp fun j hj => ⟨by omega, hj.2⟩
   · subst h
     rcases List.mem_append.1 hx with hx | hx
     · exact (h4 _ hmem x hx).imp fun j hj => ⟨by omega, hj.2⟩
     · rw [List.mem_singleton.1 hx]; exact ⟨i, by omega, rfl⟩
 · rw [pw_getD []] at h5 ⊢
   intro a b hab hb x hx y hy
   rw [List.length_set] at hb
   rw [set_getD _ _ _ _ _ (by omega)] at hx hy
   have hA : yss.getD a [] ∈ yss := getD_mem (by omega)
   have hB : yss.getD b [] ∈ yss := getD_mem hb
   by_cases ea : k = a
   · rw [if_pos ea] at hx
     rw [if_neg (by omega)] at hy
     rcases List.mem_append.1 hx with hx | hx
     · rw [ea] at hx; exact h5 a b hab hb x hx y hy
     · rw [List.mem_singleton.1 hx]
       obtain ⟨j, hj, e⟩ := h4 _ hB y hy
       rw [e]; exact (platesV_ne hj hi).symm
   · rw [if_neg ea] at hx
     by_cases eb : k = b
     · rw [if_pos eb] at hy
       rcases List.mem_append.1 hy with hy | hy
       · rw [eb] at hy; exact h5 a b hab hb x hx y hy
       · rw [List.mem_singleton.1 hy]
         obtain ⟨j, hj, e⟩ := h4 _ hA x hx
         rw [e]; exact platesV_ne hj hi
     · rw [if_neg eb] at hy
       exact h5 a b hab hb x hx y hy
theorem zipS_len {xs : List Cnt} {yss : List (List Pce)} (h : yss.length = xs.length) : ((xs.zip yss).map (fun q => setPcs q.1 q.2)).length = xs.length := by simp [h]
theorem zipS_getD {xs : List Cnt} {yss : List (List Pce)} (h : yss.length = xs.length) {i : Nat} (hi : i < xs.length) : ((xs.zip yss).map (fun q => setPcs q.1 q.2)).getD i ct0 = setPcs (xs.getD i ct0) (yss.getD i []) := by
 simp [List.getD_eq_getElem?_getD, hi, h]
theorem CtsR.mk' {most n nm k : Int} {i : Nat} {xs : List Cnt} {yss : List (List Pce)} (hA : CtA most k nm xs) (hk : 0 ≤ k) (hm : most ≤ 24) (hB : CtB i xs.length yss) (hi : (i : Int) ≤ n ∨ i = 0) : CtsR most n ((xs.zip yss).map (fun q => setPcs q.1 q.2)) := by
 obtain ⟨il, in0, in1, iok, inum, ipos⟩ := hA
 obtain ⟨h1, h2, h3, h4, h5⟩ := hB
 have hl := zipS_len h1
 have hg : ∀ c ∈ (xs.zip yss).map (fun q => setPcs q.1 q.2), ∃ x ∈ xs, ∃ p ∈ yss, c = setPcs x p := fun c hc => by
  obtain ⟨q, hq, rfl⟩ := List.mem_map.1 hc
  exact ⟨q.1, (List.of_mem_zip (a := q.1) (b := q.2) hq).1, q.2, (List.of_mem_zip (a := q.1) (b := q.2) hq).2, rfl⟩
 refine ⟨⟨by omega, fun c hc => ?_, (pw_getD ct0).2 fun a b hab hb => ?_, (pw_getD ct0).2 fun a b hab hb => ?_, (pw_getD ct0).2 fun a b hab hb => ?_⟩, by omega, fun c hc x hx => ?_, fun c hc => ?_⟩
 · obtain ⟨x, hx, p, hp, rfl⟩ := hg c hc
   exact ⟨(iok x hx).1, Nat.le_trans (h2 p hp) (by omega), h3 p hp⟩
 · rw [hl] at hb
   rw [zipS_getD (i := a) h1 (by omega), zipS_getD (i := b) h1 hb]
   exact (pw_getD ct0).1 inum a b hab hb
 · rw [hl] at hb
   rw [zipS_getD (i := a) h1 (by omega), zipS_getD (i := b) h1 hb]
   intro hp he
   have hp : (xs.getD b ct0).pos ≠ 0 := hp
   have he : (xs.getD a ct0).pos = (xs.getD b ct0).pos := he
   have := ipos a (by omega)
   have := ipos b hb
   omega
 · rw [hl] at hb
   rw [zipS_getD (i := a) h1 (by omega), zipS_getD (i := b) h1 hb]
   exact (pw_getD []).1 h5 a b hab (by omega)
 · obtain ⟨x0, hx0, p, hp, rfl⟩ := hg c hc
   obtain ⟨j, hj, e⟩ := h4 p hp x hx
   exact ⟨j, by omega, e⟩
 · obtain ⟨x0, hx0, p, hp, rfl⟩ := hg c hc
   exact (iok x0 hx0).2.2.2
def con9 : RCon := { ps := [.p 62 ySR, .d false (.int .i64), .d false (.int .i64)], rs := [.d false (.sl yCT)], pre := fun (x : Src × Int × Int × Unit) => 0 ≤ x.1.2 ∧ 0 ≤ x.2.1 ∧ x.2.1 ≤ 24 ∧ x.2.2.1 ≤ 1000, rel := fun (x : Src × Int × Int × Unit) (y : List Cnt × Unit) (z : Src × Int × Int × Unit) => 0 ≤ z.1.2 ∧ CtsR x.2.1 x.2.2.1 y.1 }
theorem c9 : RCtrOk Tryz.prog 9 con9.rctr :=
 rcon_sound (G := ⟨[(12, con12.ctr), (27, con27.ctr), (11, con11.ctr), (28, con28.ctr)], [], [(7, 76), (53, 76), (58, 1), (84, 3), (93, 5), (99, 1)], [], []⟩) tab_ok (EnvOk.cons c12 has12 (EnvOk.cons c27 has27 (EnvOk.cons c11 has11 (EnvOk.cons c28 has28 EnvOk.nil)))) rfl Tryz.func9 rfl con9 77371328692341128053669831 (by kernel_rfl) (by decide) (by decide) rfl (by decide) rfl (by
  rintro ⟨⟨(s : List Int), (a : Int)⟩, (most : Int), (n : Int), _⟩ hpre hwf X hT hG hk hK
  (simp -implicitDefEqProofs (maxSteps := 4000000) only [go_sem, Bool.not_eq_true', Bool.not_eq_false', Bool.or_eq_true, Bool.or_eq_false_iff, Bool.and_eq_true, Bool.and_eq_false_iff, decide_eq_true_eq, decide_eq_false_iff_not, Classical.not_not, not_or, maxLen, con9, con12, con27, con11, con28, hT, hG, hk, hK, Tryz.results9] at hwf ⊢); (try simp (disch := decide +kernel) only [drawn, true_and, and_true])
  obtain ⟨h1, h2, h3, h4⟩ : 0 ≤ a ∧ 0 ≤ most ∧ most ≤ 24 ∧ n ≤ 1000 := hpre
  have hs1 : 0 ≤ (Src.step (s, a)).snd := step_pos h1
  have hkb := goMod_bd (Src.raw (s, a)) (most + 1) (by omega)
  generalize goMod (Src.raw (s, a)) (most + 1) = K at hkb ⊢
  generalize Src.step (s, a) = S1 at hs1 ⊢
  obtain ⟨s1, a1⟩ := S1
  (repeat' (with_reducible (first | refine And.intro ?_ ?_ | intro _))) <;> (try (first | with_reducible (first | done | assumption | omega | contradiction) | decide))
  refine evk_loop ⟨{ q : Src × List Cnt × Int × Int // 0 ≤ q.1.2 ∧ CtA most q.2.2.2 q.2.2.1 q.2.1 ∧ 0 ≤ q.2.2.2 }, 1000, fun q => [(0, .one (.loc 0 0)), (2, .one (.int .i64 n)), (7, .one (.row 64)), (8, .one (.int .i64 q.1.2.2.1)), (9, .one (.int .i64 q.1.2.2.2))],
   fun q => [(0, .cells 62 [.sl (.int .i64) q.1.1.1 false, .int .i64 q.1.1.2]), (64, .rowg 44 yCT 10 65 q.1.2.1 none), (65, .fam 68 yPC (List.replicate q.1.2.1.length []))], fun q => q.1.2.2.2.toNat⟩ ⟨((s1, a1), [], 0, K), hs1, ⟨by simp only [List.length_nil]; omega, Int.le_refl _, by simp, fun _ h => (by cases h), .nil, fun i h => absurd h (by simp)⟩, hkb.1⟩ ?_ ?_
  · simp only [go_sem]
    try (first | rfl | exact ⟨rfl, rfl⟩ | (and_intros <;> first | trivial | rfl | omega))
  · rintro ⟨⟨⟨s, a⟩, xs, nm, k⟩, (h1 : 0 ≤ a), (hI : CtA most k nm xs), (hk0 : 0 ≤ k)⟩
    (simp -implicitDefEqProofs (maxSteps := 4000000) only [go_sem, Bool.not_eq_true', Bool.not_eq_false', Bool.or_eq_true, Bool.or_eq_false_iff, Bool.and_eq_true, Bool.and_eq_false_iff, decide_eq_true_eq, decide_eq_false_iff_not, Classical.not_not, not_or, maxLen, con9, con12, con27, con11, con28, hT, hG, hk, hK, Tryz.results9]); (try simp (disch := decide +kernel) only [drawn, true_and, and_true])
    obtain ⟨il, in0, in1, iok, inum, ipos⟩ := hI
    have r1 := goMod_bd (Src.raw (s, a)) 2 (by omega)
    have p1 : 0 ≤ (Src.step (s, a)).snd := step_pos h1
    have p2 : 0 ≤ (Src.step (s, a)).step.snd := step_pos p1
    have p3 : 0 ≤ (Src.step (s, a)).step.step.snd := step_pos p2
    have p4 : 0 ≤ (Src.step (s, a)).step.step.step.snd := step_pos p3
    have p5 : 0 ≤ (Src.step (s, a)).step.step.step.step.snd := step_pos p4
    have p6 : 0 ≤ (Src.step (s, a)).step.step.step.step.step.snd := step_pos p5
    have p7 : 0 ≤ (Src.step (s, a)).step.step.step.step.step.step.snd := step_pos p6
    have r2 := goMod_bd (Src.step (s, a)).raw 3 (by omega)
    have r3 := goMod_bd (Src.step (s, a)).step.raw 6 (by omega)
    have r4 := goMod_bd (Src.step (s, a)).step.step.raw 300 (by omega)
    have r5 := goMod_bd (Src.step (s, a)).step.step.step.raw 10 (by omega)
    have r6 := goMod_bd (Src.step (s, a)).step.step.step.step.raw 21 (by omega)
    have r7 := goMod_bd (Src.step (s, a)).step.step.step.step.step.raw 3 (by omega)
    generalize (Src.step (s, a)).step.step.step.step.step.step = S7 at p7 ⊢
    generalize goMod (Src.step (s, a)).step.step.step.step.step.raw 3 = V7 at r7 ⊢
    generalize goMod (Src.step (s, a)).step.step.step.step.raw 21 = V6 at r6 ⊢
    generalize goMod (Src.step (s, a)).step.step.step.raw 10 = V5 at r5 ⊢
    generalize goMod (Src.step (s, a)).step.step.raw 300 = V4 at r4 ⊢
    generalize goMod (Src.step (s, a)).raw 3 = V2 at r2 ⊢
    generalize goMod (Src.raw (s, a)) 2 = V1 at r1 ⊢
    obtain ⟨s7, a7⟩ := S7
    have hc31 : ∀ k : Int, 0 ≤ k ∧ k < 6 → 0 ≤ [31, 31, 31, 3, 30, 1].getD k.toNat (0 : Int) ∧ [31, 31, 31, 3, 30, 1].getD k.toNat (0 : Int) ≤ 31 := fun k hk => by
     rcases (by omega : k = 0 ∨ k = 1 ∨ k = 2 ∨ k = 3 ∨ k = 4 ∨ k = 5) with rfl | rfl | rfl | rfl | rfl | rfl <;> decide
    have hc31 := hc31 _ r3
    have hrep : List.replicate xs.length ([] : List Pce) ++ [[]] = List.replicate (xs.length + 1) [] := by rw [List.replicate_succ']
    have hI : CtA most k nm xs := ⟨il, in0, in1, iok, inum, ipos⟩
    (repeat' (with_reducible (first | refine And.intro ?_ ?_ | intro _))) <;> (try (first | with_reducible (first | done | assumption | omega | contradiction) | decide))
    all_goals first
     | (have hv7 : V7 > 0 := by assumption
        refine fin_lp ⟨((s7, a7), xs ++ [_], nm + (1 + V1), k - 1), p7, CtA.push (v := 1 + V1) (f := V2) (c := [31, 31, 31, 3, 30, 1].getD (goMod (Src.step (s, a)).step.raw 6).toNat 0) (l := 50 + V4) (m := 2 + V5) (p := xs.length + 1) (r := V6 - 10) hI h3 (by omega) (by omega) r2 hc31 (by omega) (by omega) (.inr rfl) (by omega), (by show 0 ≤ k - 1; omega)⟩ ?_ (by dsimp only; omega)
        simp only [go_sem]
        rw [hrep, List.length_append]
        try (first | rfl | exact ⟨rfl, rfl⟩ | (and_intros <;> first | trivial | rfl | omega))
        done)
     | (have hv7 : ¬ V7 > 0 := by assumption
        refine fin_lp ⟨((s7, a7), xs ++ [_], nm + (1 + V1), k - 1), p7, CtA.push (v := 1 + V1) (f := V2) (c := [31, 31, 31, 3, 30, 1].getD (goMod (Src.step (s, a)).step.raw 6).toNat 0) (l := 50 + V4) (m := 2 + V5) (p := 0) (r := V6 - 10) hI h3 (by omega) (by omega) r2 hc31 (by omega) (by omega) (.inl rfl) (by omega), (by show 0 ≤ k - 1; omega)⟩ ?_ (by dsimp only; omega)
        simp only [go_sem]
        rw [hrep, List.length_append]
        try (first | rfl | exact ⟨rfl, rfl⟩ | (and_intros <;> first | trivial | rfl | omega))
        done)
     | (have hl0 : xs.length = 0 := by omega
        refine ⟨((xs.zip (List.replicate xs.length [])).map (fun q => setPcs q.1 q.2), ()), ((s, a), most, n, ()), ⟨h1, CtsR.mk' hI hk0 h3 (CtB.nil _) (.inr rfl)⟩, rfl, rfl, putSls_ct _ _⟩)
     | (refine evk_loop ⟨{ q : Src × List (List Pce) × Nat // 0 ≤ q.1.2 ∧ CtB q.2.2 xs.length q.2.1 ∧ ((q.2.2 : Int) ≤ n ∨ q.2.2 = 0) }, 1000, fun q => [(0, .one (.loc 0 0)), (2, .one (.int .i64 n)), (7, .one (.row 64)), (11, .one (.int .i64 q.1.2.2))],
         fun q => [(0, .cells 62 [.sl (.int .i64) q.1.1.1 false, .int .i64 q.1.1.2]), (64, .rowg 44 yCT 10 65 xs none), (65, .fam 68 yPC q.1.2.1)], fun q => n.toNat - q.1.2.2⟩ ⟨((s, a), List.replicate xs.length [], 0), h1, CtB.nil _, .inr rfl⟩ ?_ ?_
        · simp only [go_sem]
          try (first | rfl | exact ⟨rfl, rfl⟩ | (and_intros <;> first | trivial | rfl | omega))
        · rintro ⟨⟨⟨s, a⟩, yss, i⟩, (h1 : 0 ≤ a), (hB : CtB i xs.length yss), (hin : (i : Int) ≤ n ∨ i = 0)⟩
          (simp -implicitDefEqProofs (maxSteps := 4000000) only [go_sem, Bool.not_eq_true', Bool.not_eq_false', Bool.or_eq_true, Bool.or_eq_false_iff, Bool.and_eq_true, Bool.and_eq_false_iff, decide_eq_true_eq, decide_eq_false_iff_not, Classical.not_not, not_or, maxLen, con9, con12, con27, con11, con28, hT, hG, hk, hK, Tryz.results9]); (try simp (disch := decide +kernel) only [drawn, true_and, and_true])
          have hxl : 0 < xs.length := by omega
          have r1 := goMod_bd (Src.raw (s, a)) 3 (by omega)
          have p1 : 0 ≤ (Src.step (s, a)).snd := step_pos h1
          have p2 : 0 ≤ (Src.step (s, a)).step.snd := step_pos p1
          have p3 : 0 ≤ (Src.step (s, a)).step.step.snd := step_pos p2
          have p4 : 0 ≤ (Src.step (s, a)).step.step.step.snd := step_pos p3
          have r2 := goMod_bd (Src.step (s, a)).raw xs.length (by omega)
          have r3 := goMod_bd (Src.step (s, a)).step.raw 30 (by omega)
          have r4 := goMod_bd (Src.step (s, a)).step.step.raw 8 (by omega)
          have hw : ∀ k : Int, 0 ≤ k ∧ k < 8 → 0 ≤ [0, 0, 0, 0, 1, 2, 3, 4].getD k.toNat (0 : Int) ∧ [0, 0, 0, 0, 1, 2, 3, 4].getD k.toNat (0 : Int) ≤ 4 := fun k hk => by
           rcases (by omega : k = 0 ∨ k = 1 ∨ k = 2 ∨ k = 3 ∨ k = 4 ∨ k = 5 ∨ k = 6 ∨ k = 7) with rfl | rfl | rfl | rfl | rfl | rfl | rfl | rfl <;> decide
          have hw := hw _ r4
          have hyl := hB.len
          have hbl : ∀ k : Nat, (yss.getD k []).length ≤ 20 := fun k => by
           by_cases h : k < yss.length
           · exact hB.c20 _ (getD_mem h)
           · rw [List.getD_eq_getElem?_getD, List.getElem?_eq_none (by omega)]; simp
          have hbk := hbl (goMod (Src.step (s, a)).raw xs.length).toNat
          generalize (Src.step (s, a)).step.step.step = S4 at p4 ⊢
          generalize goMod (Src.step (s, a)).step.step.raw 8 = V4 at r4 hw ⊢
          generalize goMod (Src.step (s, a)).step.raw 30 = V3 at r3 ⊢
          generalize goMod (Src.step (s, a)).raw xs.length = V2 at r2 hbk ⊢
          generalize goMod (Src.raw (s, a)) 3 = V1 at r1 ⊢
          generalize (Src.step (s, a)).step = S2 at p2 ⊢
          generalize Src.step (s, a) = S1 at p1 ⊢
          obtain ⟨s4, a4⟩ := S4
          obtain ⟨s2, a2⟩ := S2
          obtain ⟨s1, a1⟩ := S1
          (repeat' (with_reducible (first | refine And.intro ?_ ?_ | intro _))) <;> (try (first | with_reducible (first | done | assumption | omega | contradiction) | decide))
          all_goals first
           | (have hv : V1 = 0 := by assumption
              refine fin_lp ⟨((s1, a1), yss, i + 1), p1, hB.step, (by show ((i + 1 : Nat) : Int) ≤ n ∨ _; omega)⟩ ?_ (by dsimp only; omega)
              simp only [go_sem]
              try (first | rfl | exact ⟨rfl, rfl⟩ | (and_intros <;> first | trivial | rfl | omega))
              done)
           | exact step_pos p2
           | (have h20 : ((yss.getD V2.toNat []).length : Int) < 20 := by assumption
              refine fin_lp ⟨((s4, a4), yss.set V2.toNat (yss.getD V2.toNat [] ++ [(platesV i, 1 + V3, [0, 0, 0, 0, 1, 2, 3, 4].getD V4.toNat 0)]), i + 1), p4, hB.put (by omega) (by omega) (by omega) (by omega) hw, (by show ((i + 1 : Nat) : Int) ≤ n ∨ _; omega)⟩ ?_ (by dsimp only; omega)
              simp only [go_sem]
              rw [List.set_set]
              try (first | rfl | exact ⟨rfl, rfl⟩ | (and_intros <;> first | trivial | rfl | omega))
              done)
           | (have h20 : ¬ ((yss.getD V2.toNat []).length : Int) < 20 := by assumption
              refine fin_lp ⟨((s4, a4), yss, i + 1), p4, hB.step, (by show ((i + 1 : Nat) : Int) ≤ n ∨ _; omega)⟩ ?_ (by dsimp only; omega)
              simp only [go_sem]
              try (first | rfl | exact ⟨rfl, rfl⟩ | (and_intros <;> first | trivial | rfl | omega))
              done)
           | (refine ⟨((xs.zip yss).map (fun q => setPcs q.1 q.2), ()), ((s, a), most, n, ()), ⟨h1, CtsR.mk' hI hk0 h3 hB hin⟩, rfl, rfl, putSls_ct _ _⟩)
           | fail))
end Go.Proofs.YteheklpenjjfaaaGreat

/- The generators of empty containers and of spoilt ones. -/
set_option linter.unusedSimpArgs false
set_option linter.unusedVariables false
set_option maxRecDepth 100000
set_option maxHeartbeats 8000000
namespace Go.Proofs.YteheklpenjjfaaaGreat
open Go.Ev

attribute [local go_sem] List.set_cons_succ List.set_cons_zero List.getD_cons_succ List.getD_cons_zero List.set_nil
def empC (i j : Nat) : Cnt := ((i : Int) + 1, fltsV j, 31, 500, 20, (i : Int) + 1, 0, [])
/-- What Empties gives. -/
structure EmpR (most : Int) (l : List Cnt) : Prop where
 len : (l.length : Int) ≤ most
 at_ : ∀ i, i < l.length → ∃ j : Nat, j < 3 ∧ l.getD i ct0 = empC i j
theorem EmpR.ok {most : Int} {l : List Cnt} (h : EmpR most l) (hm : most ≤ 24) : CtsOk l := by
 have hl := h.len
 have hp : ∀ i j : Nat, i < 24 → propC (empC i j) = true := fun i j hi => by
  unfold propC inV empC
  simp only [Cnt.num, Cnt.flt, Cnt.cats, Cnt.lim, Cnt.most, Cnt.pos, Cnt.arm, fltsV_ok, Bool.and_eq_true, decide_eq_true_eq, and_true]
  omega
 refine ⟨by omega, fun c hc => ?_, (pw_getD ct0).2 fun a b hab hb => ?_, (pw_getD ct0).2 fun a b hab hb => ?_, (pw_getD ct0).2 fun a b hab hb => ?_⟩
 · obtain ⟨i, hi, rfl⟩ := getD_ct hc
   obtain ⟨j, _, e⟩ := h.at_ i hi
   rw [e]
   exact ⟨hp i j (by omega), (by show (0 : Nat) ≤ 60; omega), fun x hx => (by cases hx), .nil⟩
 · obtain ⟨j, _, e⟩ := h.at_ a (by omega)
   obtain ⟨k, _, e2⟩ := h.at_ b hb
   rw [e, e2]; show ((a : Int) + 1) < (b : Int) + 1; omega
 · obtain ⟨j, _, e⟩ := h.at_ a (by omega)
   obtain ⟨k, _, e2⟩ := h.at_ b hb
   rw [e, e2]; intro _ hq
   have hq : (a : Int) + 1 = (b : Int) + 1 := hq
   omega
 · obtain ⟨j, _, e⟩ := h.at_ a (by omega)
   rw [e]; intro x hx; cases hx
def con23 : RCon := { ps := [.p 62 ySR, .d false (.int .i64)], rs := [.o 44 yCT], pre := fun (x : Src × Int × Unit) => 0 ≤ x.1.2 ∧ 0 ≤ x.2.1 ∧ x.2.1 ≤ 24, rel := fun (x : Src × Int × Unit) (y : List Cnt × Unit) (z : Src × Int × Unit) => 0 ≤ z.1.2 ∧ EmpR x.2.1 y.1 }
theorem c23 : RCtrOk Tryz.prog 23 con23.rctr :=
 rcon_sound (G := ⟨[(12, con12.ctr), (11, con11.ctr)], [], [], [], []⟩) tab_ok (EnvOk.cons c12 has12 (EnvOk.cons c11 has11 EnvOk.nil)) rfl Tryz.func23 rfl con23 4211 (by kernel_rfl) (by decide) (by decide) rfl (by decide) rfl (by
  rintro ⟨⟨(s : List Int), (a : Int)⟩, (most : Int), _⟩ hpre hwf X hT hG hk hK
  (simp -implicitDefEqProofs (maxSteps := 4000000) only [go_sem, Bool.not_eq_true', Bool.not_eq_false', Bool.or_eq_true, Bool.or_eq_false_iff, Bool.and_eq_true, Bool.and_eq_false_iff, decide_eq_true_eq, decide_eq_false_iff_not, Classical.not_not, not_or, maxLen, con23, con12, con11, hT, hG, hk, hK, Tryz.results23] at hwf ⊢); (try simp (disch := decide +kernel) only [drawn, true_and, and_true])
  obtain ⟨h1, h2, h3⟩ : 0 ≤ a ∧ 0 ≤ most ∧ most ≤ 24 := hpre
  have hs1 : 0 ≤ (Src.step (s, a)).snd := step_pos h1
  have hkb := goMod_bd (Src.raw (s, a)) (most + 1) (by omega)
  generalize goMod (Src.raw (s, a)) (most + 1) = K at hkb ⊢
  generalize Src.step (s, a) = S1 at hs1 ⊢
  obtain ⟨s1, a1⟩ := S1
  (repeat' (with_reducible (first | refine And.intro ?_ ?_ | intro _))) <;> (try (first | with_reducible (first | done | assumption | omega | contradiction) | decide))
  refine evk_loop ⟨{ q : Src × List Cnt × Int // 0 ≤ q.1.2 ∧ EmpR (most - q.2.2) q.2.1 ∧ 0 ≤ q.2.2 }, 1000, fun q => [(0, .one (.loc 0 0)), (5, .one (.row 64)), (6, .one (.int .i64 q.1.2.2))],
   fun q => [(0, .cells 62 [.sl (.int .i64) q.1.1.1 false, .int .i64 q.1.1.2]), (64, .row 44 yCT q.1.2.1)], fun q => q.1.2.2.toNat⟩ ⟨((s1, a1), [], K), hs1, ⟨by simp; omega, fun i hi => (by simp at hi)⟩, hkb.1⟩ ?_ ?_
  · simp only [go_sem]
    try (first | rfl | exact ⟨rfl, rfl⟩ | (and_intros <;> first | trivial | rfl | omega))
  · rintro ⟨⟨⟨s, a⟩, l, k⟩, (h1 : 0 ≤ a), (hI : EmpR (most - k) l), (hk0 : 0 ≤ k)⟩
    (simp -implicitDefEqProofs (maxSteps := 4000000) only [go_sem, Bool.not_eq_true', Bool.not_eq_false', Bool.or_eq_true, Bool.or_eq_false_iff, Bool.and_eq_true, Bool.and_eq_false_iff, decide_eq_true_eq, decide_eq_false_iff_not, Classical.not_not, not_or, maxLen, con23, con12, con11, hT, hG, hk, hK, Tryz.results23]); (try simp (disch := decide +kernel) only [drawn, true_and, and_true])
    have hl := hI.len
    have p1 : 0 ≤ (Src.step (s, a)).snd := step_pos h1
    have r1 := goMod_bd (Src.raw (s, a)) 3 (by omega)
    generalize Src.step (s, a) = S1 at p1 ⊢
    obtain ⟨s1, a1⟩ := S1
    obtain ⟨j, hj⟩ : ∃ j : Nat, goMod (Src.raw (s, a)) 3 = j := ⟨(goMod (Src.raw (s, a)) 3).toNat, by omega⟩
    rw [hj] at r1 ⊢
    (repeat' (with_reducible (first | refine And.intro ?_ ?_ | intro _))) <;> (try (first | with_reducible (first | done | assumption | omega | contradiction) | decide))
    all_goals first
     | (refine fin_lp ⟨((s1, a1), l ++ [empC l.length j], k - 1), p1, ⟨?_, fun i hi => ?_⟩, (by show 0 ≤ k - 1; omega)⟩ ?_ (by dsimp only; omega)
        · rw [List.length_append, List.length_singleton]; dsimp only; omega
        · rw [List.length_append, List.length_singleton] at hi
          by_cases e : i < l.length
          · rw [List.getD_eq_getElem?_getD, List.getElem?_append_left e, ← List.getD_eq_getElem?_getD]; exact hI.at_ i e
          · have e : i = l.length := by omega
            subst e
            rw [List.getD_eq_getElem?_getD, List.getElem?_append_right (Nat.le_refl _), Nat.sub_self]
            exact ⟨j, by omega, rfl⟩
        · simp only [go_sem]
          try (first | rfl | exact ⟨rfl, rfl⟩ | (and_intros <;> first | trivial | rfl | omega))
          done)
     | exact ⟨(l, ()), ((s, a), most, ()), ⟨h1, ⟨(by show (l.length : Int) ≤ most; omega), hI.at_⟩⟩, rfl, rfl, rfl⟩
     | fail)
def con10 : RCon := { ps := [.p 62 ySR, .d false (.sl yCT)], rs := [.d false (.sl yCT)], pre := fun (x : Src × List Cnt × Unit) => 0 ≤ x.1.2 ∧ x.2.1.length ≤ 1000 ∧ ∀ o ∈ x.2.1, o.pcs.length ≤ 1000, rel := fun (x : Src × List Cnt × Unit) (y : List Cnt × Unit) (z : Src × List Cnt × Unit) => 0 ≤ z.1.2 }
theorem c10 : RCtrOk Tryz.prog 10 con10.rctr :=
 rcon_sound (G := ⟨[(12, con12.ctr), (27, con27.ctr), (29, con29.ctr), (28, con28.ctr)], [], [(5, 76), (25, 76), (31, 1), (99, 5), (114, 5), (136, 1)], [], []⟩) tab_ok (EnvOk.cons c12 has12 (EnvOk.cons c27 has27 (EnvOk.cons c29 has29 (EnvOk.cons c28 has28 EnvOk.nil)))) rfl Tryz.func10 rfl con10 170141264592588371583434028650734820851 (by kernel_rfl) (by decide) (by decide) rfl (by decide) rfl (by
  rintro ⟨⟨(s : List Int), (a : Int)⟩, (l : List Cnt), _⟩ hpre hwf X hT hG hk hK
  (simp -implicitDefEqProofs (maxSteps := 4000000) only [go_sem, Bool.not_eq_true', Bool.not_eq_false', Bool.or_eq_true, Bool.or_eq_false_iff, Bool.and_eq_true, Bool.and_eq_false_iff, decide_eq_true_eq, decide_eq_false_iff_not, Classical.not_not, not_or, maxLen, con10, con12, con27, con29, con28, hT, hG, hk, hK, Tryz.results10] at hwf ⊢); (try simp (disch := decide +kernel) only [drawn, true_and, and_true])
  obtain ⟨h1, h2, h3⟩ : 0 ≤ a ∧ l.length ≤ 1000 ∧ ∀ o ∈ l, o.pcs.length ≤ 1000 := hpre
  refine fun _ => evk_loop ⟨{ i : Nat // i ≤ l.length }, 1000, fun q => [(0, .one (.loc 0 0)), (1, .one (.sl yCT l false)), (5, .one (.row 64)), (10, .one (.int .i64 l.length)), (11, .one (.int .i64 q.1))],
   fun q => [(0, .cells 62 [.sl (.int .i64) s false, .int .i64 a]), (64, .rowg 44 yCT 10 65 ((l.take q.1).map (fun o => setPcs o [])) none), (65, .fam 68 yPC ((l.take q.1).map (fun o => o.pcs)))], fun q => l.length - q.1⟩ ⟨0, Nat.zero_le _⟩ ?_ ?_
  · simp only [go_sem]
    try (first | rfl | exact ⟨rfl, rfl⟩ | (and_intros <;> first | trivial | rfl | omega))
  · rintro ⟨i, (hi : i ≤ l.length)⟩
    (simp -implicitDefEqProofs (maxSteps := 4000000) only [go_sem, Bool.not_eq_true', Bool.not_eq_false', Bool.or_eq_true, Bool.or_eq_false_iff, Bool.and_eq_true, Bool.and_eq_false_iff, decide_eq_true_eq, decide_eq_false_iff_not, Classical.not_not, not_or, maxLen, con10, con12, con27, con29, con28, hT, hG, hk, hK, Tryz.results10]); (try simp (disch := decide +kernel) only [drawn, true_and, and_true])
    obtain ⟨o, ho⟩ : ∃ o, l.getD i ct0 = o := ⟨_, rfl⟩
    have eo : l.getD (i : Int).toNat (0, (ByteArray.empty, 0, ByteArray.empty, 0), 0, 0, 0, 0, 0, []) = o := ho
    try simp only [eo]
    have htl : ((l.take i).map (fun o => setPcs o [])).length = i := by rw [List.length_map, List.length_take]; omega
    have hop : i < l.length → o.pcs.length ≤ 1000 := fun h => h3 o (by rw [← ho]; exact getD_mem h)
    have hts : i < l.length → l.take (i + 1) = l.take i ++ [o] := fun h => by rw [List.take_succ_eq_append_getElem h, ← getD_lt (d := ct0) h, ho]
    have p1 : 0 ≤ (Src.step (s, a)).snd := step_pos h1
    have p2 : 0 ≤ (Src.step (s, a)).step.snd := step_pos p1
    have p3 : 0 ≤ (Src.step (s, a)).step.step.snd := step_pos p2
    have p4 : 0 ≤ (Src.step (s, a)).step.step.step.snd := step_pos p3
    have p5 : 0 ≤ (Src.step (s, a)).step.step.step.step.snd := step_pos p4
    have r1 : 0 < l.length → 0 ≤ goMod (Src.raw (s, a)) l.length ∧ goMod (Src.raw (s, a)) l.length < l.length := fun h => goMod_bd _ _ (by omega)
    simp only [htl]
    refine ⟨fun hlt => ?_, fun hge => ?_⟩
    · have hop : List.length o.2.2.2.2.2.2.2 ≤ 1000 := hop (by omega)
      have e1 := hts (by omega)
      (repeat' (with_reducible (first | refine And.intro ?_ ?_ | intro _))) <;> (try (first | with_reducible (first | done | assumption | omega | contradiction) | decide))
      all_goals first
       | (refine fin_lp ⟨i + 1, by omega⟩ ?_ (by dsimp only; omega)
          simp only [go_sem]
          rw [e1, List.map_append, List.map_append]
          try (first | rfl | exact ⟨rfl, rfl⟩ | (and_intros <;> first | trivial | rfl | omega))
          done)
       | omega
       | fail
    · have ei : l.take i = l := List.take_of_length_le (by omega)
      have eil : i = l.length := by omega
      simp only [eil, List.take_length]
      have hpl : ∀ k : Nat, (((l.map (fun o => o.pcs)).getD k []).length) ≤ 1000 := fun k => by
       by_cases h : k < l.length
       · rw [getD_lt (by rw [List.length_map]; exact h), List.getElem_map]; exact h3 _ (List.getElem_mem h)
       · rw [List.getD_eq_getElem?_getD, List.getElem?_eq_none (by rw [List.length_map]; omega)]; simp
      (repeat' (with_reducible (first | refine And.intro ?_ ?_ | intro _))) <;> (try (first | with_reducible (first | done | assumption | omega | contradiction) | decide))
      all_goals first
       | (have hl0 : 0 < l.length := by omega
          have r1 := r1 hl0
          omega)
       | exact ⟨(_, ()), ((_, _), l, ()), (by first | exact h1 | exact p1 | exact p2 | exact p3 | exact p4 | exact step_pos p1 | exact step_pos p2 | exact step_pos p3 | exact step_pos p4 | exact step_pos p5), rfl, rfl, rfl⟩
       | (have := hpl (goMod (Src.raw (s, a)) l.length).toNat
          omega)
       | (rw [putSls_ct, List.length_map, List.length_zip, List.length_map, List.length_map]; omega)
       | exact p1
       | exact p2
       | exact p3
       | exact p4
       | exact p5
       | fail)
end Go.Proofs.YteheklpenjjfaaaGreat

/- Plain law of OffloadLoads. -/
set_option linter.unusedSimpArgs false
set_option linter.unusedVariables false
set_option maxRecDepth 100000
set_option maxHeartbeats 8000000
namespace Go.Proofs.YteheklpenjjfaaaGreat
open Go.Ev

theorem mget_msetK {kt : Ty} {β : Type} (hk : ∀ a b : kt.den, keyEq kt a b = true ↔ a = b) (k k' : kt.den) (v : β) : ∀ (l : List (kt.den × β)), mget (mset l k v) k' = if keyEq kt k' k = true then some v else mget l k'
 | [] => by unfold mset mget; rfl
 | (a, u) :: r => by
   have ih := mget_msetK hk k k' v r
   unfold mset
   by_cases h : keyEq kt k a = true
   · rw [if_pos h]
     have e := (hk k a).1 h
     subst e
     simp only [mget]
     by_cases h2 : keyEq kt k' k = true
     · rw [if_pos h2, if_pos h2]
     · rw [if_neg h2, if_neg h2, if_neg h2]
   · rw [if_neg h]
     simp only [mget]
     rw [ih]
     by_cases h2 : keyEq kt k' a = true
     · have e := (hk k' a).1 h2
       subst e
       rw [if_pos h2, if_neg (fun q => h ((hk _ _).2 ((hk _ _).1 q).symm)), if_pos h2]
     · rw [if_neg h2, if_neg h2]
theorem kadd_mod {kt : Ty} {β : Type} (hk : ∀ a b : kt.den, keyEq kt a b = true ↔ a = b) (k : kt.den) (z v : β) : ∀ (l : List (kt.den × β)), kidx k (l.map Prod.fst) < (kadd l k z).length ∧ (kadd l k z).modify (kidx k (l.map Prod.fst)) (fun e => (e.1, v)) = mset l k v
 | [] => ⟨Nat.zero_lt_one, rfl⟩
 | (a, u) :: r => by
   obtain ⟨i1, i2⟩ := kadd_mod hk k z v r
   by_cases h : keyEq kt k a = true
   · have e := (hk k a).1 h
     subst e
     have e0 : kidx k (((k, u) :: r).map Prod.fst) = 0 := by simp only [List.map_cons, kidx]; rw [if_pos h]
     have e1 : kadd ((k, u) :: r) k z = (k, u) :: r := by unfold kadd; rw [e0, if_pos (by rw [List.length_cons]; exact Nat.zero_lt_succ _)]
     rw [e0, e1]
     refine ⟨by rw [List.length_cons]; exact Nat.zero_lt_succ _, ?_⟩
     unfold mset
     rw [if_pos h]; rfl
   · have e0 : kidx k (((a, u) :: r).map Prod.fst) = kidx k (r.map Prod.fst) + 1 := by simp only [List.map_cons, kidx]; rw [if_neg h]
     have e1 : kadd ((a, u) :: r) k z = (a, u) :: kadd r k z := by
      unfold kadd
      rw [e0]
      by_cases q : kidx k (r.map Prod.fst) < r.length
      · rw [if_pos q, if_pos (by rw [List.length_cons]; omega)]
      · rw [if_neg q, if_neg (by rw [List.length_cons]; omega)]; rfl
     rw [e0, e1]
     refine ⟨by rw [List.length_cons]; omega, ?_⟩
     unfold mset
     rw [if_neg h, ← i2]; rfl
theorem mset_len {kt : Ty} {β : Type} (k : kt.den) (v : β) : ∀ (l : List (kt.den × β)), (mset l k v).length ≤ l.length + 1
 | [] => Nat.le_refl _
 | (a, u) :: r => by
   unfold mset
   by_cases h : keyEq kt k a = true
   · rw [if_pos h]; simp
   · rw [if_neg h, List.length_cons, List.length_cons]
     have := mset_len k v r
     omega
theorem flKey (f g : Flt) : keyEq yFL f g = true ↔ f = g := by
 obtain ⟨a, b, c, d⟩ := f
 obtain ⟨a2, b2, c2, d2⟩ := g
 simp [keyEq]
theorem intKey (f g : Int) : keyEq (.int .i64) f g = true ↔ f = g := by simp [keyEq]
def lsG (l : List (Flt × Int)) (f : Flt) : Int := (mget (kt := yFL) l f).getD 0
def snG (S : List (Int × Bool)) (n : Int) : Bool := (mget (kt := .int .i64) S n).getD false
theorem lsG_set (l : List (Flt × Int)) (f g : Flt) (v : Int) : lsG (mset (kt := yFL) l f v) g = if g = f then v else lsG l g := by
 unfold lsG
 rw [mget_msetK (kt := yFL) flKey]
 by_cases h : g = f
 · rw [if_pos ((flKey g f).2 h), if_pos h]; rfl
 · rw [if_neg (fun q => h ((flKey g f).1 q)), if_neg h]
theorem snG_set (S : List (Int × Bool)) (n k : Int) : snG (mset (kt := .int .i64) S n true) k = if k = n then true else snG S k := by
 unfold snG
 rw [mget_msetK (kt := .int .i64) intKey]
 by_cases h : k = n
 · rw [if_pos ((intKey k n).2 h), if_pos h]; rfl
 · rw [if_neg (fun q => h ((intKey k n).1 q)), if_neg h]
/-- Containers c, with positions as x has them; l: the last of each flight; S: who is on board. -/
def LdI (c x : List Cnt) (l : List (Flt × Int)) (S : List (Int × Bool)) (m : Nat) : Prop :=
 ∃ P, XS c x P ∧ PosOk c P ∧ (∀ f, 0 ≤ lsG l f ∧ lsG l f ≤ m ∧ (∀ j, j < c.length → (c.getD j ct0).flt = f → P j ≤ lsG l f) ∧ (lsG l f = 0 ∨ ∃ j, j < c.length ∧ (c.getD j ct0).flt = f ∧ P j = lsG l f)) ∧ (∀ j, j < c.length → (snG S (c.getD j ct0).num = true ↔ P j ≠ 0))
theorem LdI.zero {c x : List Cnt} (hx : XS c x (fun _ => 0)) : LdI c x [] [] 0 :=
 ⟨fun _ => 0, hx, ⟨fun j _ => ⟨Int.le_refl _, by omega⟩, fun i j _ _ _ h => absurd rfl h⟩, fun f => ⟨Int.le_refl _, Int.le_refl _, fun j _ _ => Int.le_refl _, .inl rfl⟩, fun j _ => ⟨fun h => by (cases h), fun h => absurd rfl h⟩⟩
theorem LdI.len {c x : List Cnt} {l : List (Flt × Int)} {S : List (Int × Bool)} {m : Nat} (h : LdI c x l S m) : x.length = c.length := by
 obtain ⟨P, hx, _⟩ := h
 exact hx.1
theorem LdI.succ {c x : List Cnt} {l : List (Flt × Int)} {S : List (Int × Bool)} {m : Nat} (h : LdI c x l S m) : LdI c x l S (m + 1) := by
 obtain ⟨P, h1, h2, h3, h4⟩ := h
 exact ⟨P, h1, h2, fun f => by obtain ⟨a, b, c⟩ := h3 f; exact ⟨a, by omega, c⟩, h4⟩
theorem ld_idx {c x : List Cnt} {l : List (Flt × Int)} {S : List (Int × Bool)} {m : Nat} (hC : CtsOk c) (h : LdI c x l S m) {j : Nat} (hj : j < c.length) : numIdx x (c.getD j ct0).num = j ∧ (x.getD j ct0).num = (c.getD j ct0).num ∧ (x.getD j ct0).flt = (c.getD j ct0).flt := by
 obtain ⟨P, hx, _⟩ := h
 exact ⟨xs_idx hC hx hj, by rw [hx.2 j hj]; rfl, by rw [hx.2 j hj]; rfl⟩
theorem ld_seen {c x : List Cnt} {l : List (Flt × Int)} {S : List (Int × Bool)} {m : Nat} (hC : CtsOk c) (h : LdI c x l S m) {j : Nat} (hj : j < c.length) (hs : snG S (c.getD j ct0).num = true) : (onV x (c.getD j ct0).num).2 = 7 := by
 obtain ⟨P, hx, hP, hl, hS⟩ := h
 have h0 := (hS j hj).1 hs
 have hck := checkV_iff.2 (xs_ok hC hx hP)
 have hid := xs_idx hC hx hj
 have hpo : (x.getD j ct0).pos = P j := by rw [hx.2 j hj]; rfl
 unfold onV
 rw [if_neg (by omega), hid, if_neg (by omega), show ((j : Int)).toNat = j by omega, if_pos (by rw [hpo]; exact h0)]
theorem ld_step {c x : List Cnt} {l : List (Flt × Int)} {S : List (Int × Bool)} {m : Nat} (hC : CtsOk c) (h : LdI c x l S m) (hm : m + 1 ≤ 24) {j : Nat} (hj : j < c.length) (hs : snG S (c.getD j ct0).num = false) :
 (onV x (c.getD j ct0).num).2 = 0 ∧ ((onV x (c.getD j ct0).num).1.getD j ct0).pos = lsG l (c.getD j ct0).flt + 1 ∧ LdI c (onV x (c.getD j ct0).num).1 (mset (kt := yFL) l (c.getD j ct0).flt (lsG l (c.getD j ct0).flt + 1)) (mset (kt := .int .i64) S (c.getD j ct0).num true) (m + 1) := by
 obtain ⟨P, hx, hP, hl, hS⟩ := h
 have h0 : P j = 0 := by
  apply Classical.byContradiction
  intro q
  have := (hS j hj).2 q
  rw [hs] at this; cases this
 obtain ⟨l1, l2, l3, l4⟩ := hl (c.getD j ct0).flt
 obtain ⟨g1, g2⟩ := xs_on hC hx hP hj h0 l1 (by omega) l3 l4
 refine ⟨g1, ?_, updP P j (lsG l (c.getD j ct0).flt + 1), g2, ?_, fun f => ?_, fun i hi => ?_⟩
 · rw [g2.2 j hj]
   show updP P j _ j = _
   unfold updP; rw [if_pos rfl]
 · refine ⟨fun i hi => ?_, fun a b ha hb hab hb0 e hf => ?_⟩
   · unfold updP
     split
     · omega
     · exact hP.bd i hi
   · unfold updP at hb0 e
     by_cases ea : a = j
     · subst ea
       rw [if_pos rfl, if_neg (fun q => hab q.symm)] at e
       have := l3 b hb hf.symm
       omega
     · rw [if_neg ea] at e
       by_cases eb : b = j
       · subst eb
         rw [if_pos rfl] at e
         have := l3 a ha hf
         omega
       · rw [if_neg eb] at e hb0
         exact hP.ap a b ha hb hab hb0 e hf
 · rw [lsG_set]
   obtain ⟨m1, m2, m3, m4⟩ := hl f
   by_cases hf : f = (c.getD j ct0).flt
   · rw [if_pos hf]
     refine ⟨by omega, by omega, fun i hi hif => ?_, .inr ⟨j, hj, hf.symm, by unfold updP; rw [if_pos rfl]⟩⟩
     unfold updP
     split
     · omega
     · have := l3 i hi (by rw [hif]; exact hf); omega
   · rw [if_neg hf]
     have hne : ∀ i, (c.getD i ct0).flt = f → i ≠ j := fun i q e => hf (by rw [← q, e])
     refine ⟨m1, by omega, fun i hi hif => ?_, ?_⟩
     · unfold updP; rw [if_neg (hne i hif)]; exact m3 i hi hif
     · rcases m4 with q | ⟨i, i1, i2, i3⟩
       · exact .inl q
       · exact .inr ⟨i, i1, i2, by unfold updP; rw [if_neg (hne i i2)]; exact i3⟩
 · rw [snG_set]
   unfold updP
   by_cases e : i = j
   · rw [if_pos e, if_pos (by rw [e])]
     exact ⟨fun _ => by omega, fun _ => rfl⟩
   · rw [if_neg e, if_neg (fun q => e (num_inj hC hi hj q))]
     exact hS i hi
theorem ld_off {c x : List Cnt} {l : List (Flt × Int)} {S : List (Int × Bool)} {m : Nat} (hC : CtsOk c) (h : LdI c x l S m) {j : Nat} (hj : j < c.length) :
 (offV x (c.getD j ct0).num).2 = if (x.getD j ct0).pos = 0 then 7 else if (x.getD j ct0).pos < lsG l (x.getD j ct0).flt then 9 else 0 := by
 obtain ⟨P, hx, hP, hl, hS⟩ := h
 have hck := checkV_iff.2 (xs_ok hC hx hP)
 have hid := xs_idx hC hx hj
 have hxj := hx.2 j hj
 have hfl : (x.getD j ct0).flt = (c.getD j ct0).flt := by rw [hxj]; rfl
 have hnu : (x.getD j ct0).num = (c.getD j ct0).num := by rw [hxj]; rfl
 have hpo : (x.getD j ct0).pos = P j := by rw [hxj]; rfl
 obtain ⟨l1, l2, l3, l4⟩ := hl (c.getD j ct0).flt
 by_cases h0 : P j = 0
 · rw [if_pos (by omega)]
   unfold offV
   rw [if_neg (by omega), hid, if_neg (by omega), show ((j : Int)).toNat = j by omega, if_pos (by omega)]
 · rw [if_neg (by omega), hfl, hpo]
   have hbd := (hP.bd j hj).1
   by_cases hlt : P j < lsG l (c.getD j ct0).flt
   · rw [if_pos hlt]
     rcases l4 with q | ⟨i, i1, i2, i3⟩
     · omega
     · obtain ⟨_, hla⟩ := xs_last hC hx hP i1 (by omega) (fun k hk hkf => by rw [i3]; exact l3 k hk (hkf.trans i2))
       unfold offV
       rw [if_neg (by omega), hid, if_neg (by omega), show ((j : Int)).toNat = j by omega, if_neg (by omega), hfl, ← i2, hla, if_pos (fun e => ?_)]
       have e2 : (c.getD i ct0).num = (c.getD j ct0).num := by rw [← e, hx.2 i i1]; rfl
       have := num_inj hC i1 hj e2
       subst this
       omega
   · rw [if_neg hlt]
     have := l3 j hj rfl
     exact (xs_off hC hx hP hj h0 (fun k hk hkf => by have := l3 k hk hkf; omega)).1
end Go.Proofs.YteheklpenjjfaaaGreat
