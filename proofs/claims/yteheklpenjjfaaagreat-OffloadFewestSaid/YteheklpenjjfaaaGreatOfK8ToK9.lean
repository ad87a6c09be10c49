/- No smaller set of containers would do: the plain law. -/
import Derived.Test.YteheklpenjjfaaaGreatOfKZ
import Derived.Test.YteheklpenjjfaaaGreatOfKfToKeys
import Derived.Test.YteheklpenjjfaaaGreatOfKCToKI
set_option linter.unusedSimpArgs false
set_option linter.unusedVariables false
set_option maxRecDepth 100000
set_option maxHeartbeats 2000000
namespace Go.Proofs.YteheklpenjjfaaaGreat
open Go.Ev

theorem sortC_le (l : List Cnt) : (sortC l).Pairwise (fun a b => a.pos ≤ b.pos) := by
 have := List.pairwise_mergeSort (le := fun a b : Cnt => decide (a.pos ≤ b.pos)) (fun a b d h1 h2 => by simp at *; omega) (fun a b => by simp; omega) l
 exact this.imp (fun h => by simpa using h)
theorem posN_sort {l : List Cnt} (h : PosN l) : PosN (sortC l) := by
 unfold PosN at h ⊢
 exact h.perm (List.mergeSort_perm l _).symm (fun e q => e q.symm)
/-- On board: ascending, each position once. -/
theorem abo_lt {c : List Cnt} (h : CtsOk c) (f : Flt) : ∀ i j, i < j → j < (aboV c f).length → ((aboV c f).getD i ct0).pos < ((aboV c f).getD j ct0).pos := by
 intro i j hij hj
 have h1 := (pw_getD ct0).1 (sortC_le (c.filter (onB f))) i j hij hj
 have h2 := (pw_getD ct0).1 (posN_sort (posN_of h f)) i j hij hj
 unfold aboV
 have h2 : ¬ _ := h2
 omega
theorem abo_last {c : List Cnt} {f : Flt} {x : Cnt} (hx : x ∈ aboV c f) : x.pos ≤ (lastV (aboV c f)).pos := by
 obtain ⟨i, hi, rfl⟩ := getD_ct hx
 by_cases e : i = (aboV c f).length - 1
 · rw [e]; exact Int.le_refl _
 · exact (pw_getD ct0).1 (sortC_le (c.filter (onB f))) i ((aboV c f).length - 1) (by omega) (by show (aboV c f).length - 1 < (aboV c f).length; omega)
/-- A number belongs to one container. -/
theorem num_inj {c : List Cnt} (h : CtsOk c) {i j : Nat} (hi : i < c.length) (hj : j < c.length) (e : (c.getD i ct0).num = (c.getD j ct0).num) : i = j := by
 have hp := (pw_getD ct0).1 h.num
 rcases Nat.lt_trichotomy i j with q | q | q
 · have := hp i j q hj; omega
 · exact q
 · have := hp j i q hi; omega
theorem drop_of {p : Cnt → Bool} : ∀ (l : List Cnt), ∃ d, d ≤ l.length ∧ l.dropWhile p = l.drop d ∧ ∀ x, (l.drop d).head? = some x → p x = false
 | [] => ⟨0, Nat.le_refl _, rfl, fun x h => by cases h⟩
 | a :: l => by
   by_cases h : p a = true
   · obtain ⟨d, h1, h2, h3⟩ := drop_of (p := p) l
     exact ⟨d + 1, Nat.succ_le_succ h1, by rw [List.dropWhile_cons_of_pos h]; exact h2, h3⟩
   · refine ⟨0, Nat.zero_le _, by rw [List.dropWhile_cons_of_neg h]; rfl, fun x hx => ?_⟩
     cases hx
     simpa using h
/-- What has to be taken off, from the top to the first one that is wanted. -/
structure OrdS (c : List Cnt) (f : Flt) (t : List Tsk) (O : List Int) (d : Nat) : Prop where
 le : d ≤ (aboV c f).length
 len : O.length = (aboV c f).length - d
 at_ : ∀ i, i < O.length → O.getD i 0 = ((aboV c f).getD ((aboV c f).length - 1 - i) ct0).num
 hit : d < (aboV c f).length → hitV t ((aboV c f).getD d ct0) = true
theorem ordS (c : List Cnt) (f : Flt) (t : List Tsk) : ∃ d, OrdS c f t (orderL (aboV c f) t) d := by
 obtain ⟨d, h1, h2, h3⟩ := drop_of (p := fun x => !hitV t x) (aboV c f)
 have hO : orderL (aboV c f) t = (((aboV c f).drop d).map (fun x => x.num)).reverse := by unfold orderL; rw [h2]
 have hl : (orderL (aboV c f) t).length = (aboV c f).length - d := by rw [hO, List.length_reverse, List.length_map, List.length_drop]
 refine ⟨d, h1, hl, fun i hi => ?_, fun hd => ?_⟩
 · rw [hl] at hi
   rw [hO, List.getD_eq_getElem?_getD, List.getElem?_reverse (by rw [List.length_map, List.length_drop]; exact hi), List.length_map, List.length_drop, List.getElem?_map, List.getElem?_drop, show d + ((aboV c f).length - d - 1 - i) = (aboV c f).length - 1 - i by omega, List.getElem?_eq_getElem (by omega), getD_lt (by omega)]
   rfl
 · have := h3 ((aboV c f).getD d ct0) (by rw [List.head?_drop, List.getElem?_eq_getElem hd, getD_lt hd])
   simpa using this
/-- Behind some containers that were taken off: the one that stays is where it was. -/
def FwI (c : List Cnt) (O : List Int) (k : Nat) (x : List Cnt) : Prop := x.length = c.length ∧ ∀ j, j < c.length → (x.getD j ct0).num = (c.getD j ct0).num ∧ (x.getD j ct0).flt = (c.getD j ct0).flt ∧ ((x.getD j ct0).pos = (c.getD j ct0).pos ∨ (x.getD j ct0).pos = 0) ∧ ((c.getD j ct0).num = O.getD k 0 → (x.getD j ct0).pos = (c.getD j ct0).pos)
theorem FwI.zero (c : List Cnt) (O : List Int) (k : Nat) : FwI c O k c := ⟨rfl, fun j _ => ⟨rfl, rfl, .inl rfl, fun _ => rfl⟩⟩
/-- What a container that could be taken off says. -/
theorem off_ok {x : List Cnt} {n : Int} (h : (offV x n).2 = 0) : checkV x = 0 ∧ ∃ i : Nat, i < x.length ∧ (x.getD i ct0).num = n ∧ (x.getD i ct0).pos ≠ 0 ∧ (lastV (aboV x (x.getD i ct0).flt)).num = n ∧ (offV x n).1 = x.set i (setPos (x.getD i ct0) 0) := by
 unfold offV at h ⊢
 by_cases h1 : checkV x ≠ 0
 · rw [if_pos h1] at h; exact absurd h h1
 · rw [if_neg h1] at h ⊢
   by_cases h2 : numIdx x n < 0
   · rw [if_pos h2] at h; exact absurd h (by decide)
   · rw [if_neg h2] at h ⊢
     by_cases h3 : (x.getD (numIdx x n).toNat ct0).pos = 0
     · rw [if_pos h3] at h; exact absurd h (by decide)
     · rw [if_neg h3] at h ⊢
       by_cases h4 : (lastV (aboV x (x.getD (numIdx x n).toNat ct0).flt)).num ≠ n
       · rw [if_pos h4] at h; exact absurd h (by decide)
       · rw [if_neg h4]
         obtain ⟨g1, g2, _⟩ := idxV_spec (d := ct0) (p := fun (y : Cnt) => decide (y.num = n)) (l := x) (by unfold numIdx at h2; omega)
         exact ⟨by omega, (numIdx x n).toNat, g1, of_decide_eq_true g2, h3, by simpa using h4, rfl⟩
theorem set_getC {l : List Cnt} {i j : Nat} {v : Cnt} (hi : i < l.length) : (l.set i v).getD j ct0 = if i = j then v else l.getD j ct0 := by
 rw [List.getD_eq_getElem?_getD, List.getElem?_set]
 by_cases e : i = j
 · rw [if_pos e, if_pos (by omega), if_pos e]; rfl
 · rw [if_neg e, if_neg e, List.getD_eq_getElem?_getD]
theorem FwI.off {c x : List Cnt} {O : List Int} {k i : Nat} (h : FwI c O k x) (hn : O.getD i 0 ≠ O.getD k 0) (ho : (offV x (O.getD i 0)).2 = 0) : FwI c O k (offV x (O.getD i 0)).1 := by
 obtain ⟨h1, h2⟩ := h
 obtain ⟨_, j, j1, j2, _, _, j5⟩ := off_ok ho
 rw [j5]
 refine ⟨by rw [List.length_set]; exact h1, fun q hq => ?_⟩
 rw [set_getC j1]
 obtain ⟨g1, g2, g3, g4⟩ := h2 q hq
 by_cases e : j = q
 · subst e
   rw [if_pos rfl]
   refine ⟨g1, g2, .inr rfl, fun e => ?_⟩
   exact absurd (by rw [← j2, g1, e]) hn
 · rw [if_neg e]; exact ⟨g1, g2, g3, g4⟩
theorem ord_mem {c : List Cnt} {f : Flt} {t : List Tsk} {O : List Int} {d : Nat} (h : OrdS c f t O d) {i : Nat} (hi : i < O.length) : ∃ j, j < c.length ∧ c.getD j ct0 = (aboV c f).getD ((aboV c f).length - 1 - i) ct0 ∧ (c.getD j ct0).num = O.getD i 0 ∧ (c.getD j ct0).flt = f ∧ (c.getD j ct0).pos ≠ 0 := by
 have hl := h.len
 have hm : (aboV c f).getD ((aboV c f).length - 1 - i) ct0 ∈ aboV c f := getD_mem (by omega)
 obtain ⟨m1, m2, m3⟩ := aboV_mem.1 hm
 obtain ⟨j, hj, e⟩ := getD_ct m1
 exact ⟨j, hj, e, by rw [h.at_ i hi, e], by rw [e]; exact m2, by rw [e]; exact m3⟩
theorem ord_inj {c : List Cnt} (hC : CtsOk c) {f : Flt} {t : List Tsk} {O : List Int} {d : Nat} (h : OrdS c f t O d) {i k : Nat} (hi : i < O.length) (hk : k < O.length) (hne : i ≠ k) : O.getD i 0 ≠ O.getD k 0 := by
 intro e
 have hl := h.len
 obtain ⟨j, j1, j2, j3, _, _⟩ := ord_mem h hi
 obtain ⟨q, q1, q2, q3, _, _⟩ := ord_mem h hk
 have := num_inj hC j1 q1 (by rw [j3, q3, e])
 subst this
 rw [j2] at q2
 have q2 := congrArg Cnt.pos q2
 rcases Nat.lt_or_ge i k with g | g
 · have := abo_lt hC f ((aboV c f).length - 1 - k) ((aboV c f).length - 1 - i) (by omega) (by omega)
   omega
 · have := abo_lt hC f ((aboV c f).length - 1 - i) ((aboV c f).length - 1 - k) (by omega) (by omega)
   omega
/-- The one below the one that stays cannot be taken off. -/
theorem fw_stuck {c x : List Cnt} (hC : CtsOk c) {f : Flt} {t : List Tsk} {O : List Int} {d k : Nat} (h : OrdS c f t O d) (hx : FwI c O k x) (hk : k + 1 < O.length) : (offV x (O.getD (k + 1) 0)).2 ≠ 0 := by
 intro ho
 obtain ⟨hcx, i, i1, i2, i3, i4, _⟩ := off_ok ho
 have hl := h.len
 obtain ⟨h1, h2⟩ := hx
 obtain ⟨b, b1, b2, b3, b4, b5⟩ := ord_mem h (i := k) (by omega)
 obtain ⟨a, a1, a2, a3, a4, _⟩ := ord_mem h hk
 have hlt := abo_lt hC f ((aboV c f).length - 1 - (k + 1)) ((aboV c f).length - 1 - k) (by omega) (by omega)
 have hpa : (c.getD a ct0).pos < (c.getD b ct0).pos := by rw [a2, b2]; exact hlt
 have hia : i = a := num_inj hC (by omega) a1 (by rw [← (h2 i (by omega)).1, i2, a3])
 subst hia
 obtain ⟨p1, p2, p3, p4⟩ := h2 b b1
 obtain ⟨r1, r2, r3, r4⟩ := h2 i (by omega)
 have hfl : (x.getD i ct0).flt = f := by rw [r2, a4]
 rw [hfl] at i4
 have hbm : x.getD b ct0 ∈ aboV x f := aboV_mem.2 ⟨getD_mem (by omega), by rw [p2, b4], by rw [p4 b3]; exact b5⟩
 have hmax := abo_last hbm
 have hpos : 0 < (aboV x f).length := List.length_pos_of_mem hbm
 have hlm : lastV (aboV x f) ∈ aboV x f := getD_mem (by omega)
 obtain ⟨j, hj, ej⟩ := getD_ct (aboV_mem.1 hlm).1
 obtain ⟨s1, s2, s3, s4⟩ := h2 j (by omega)
 have hji : j = i := num_inj hC (by omega) (by omega) (by rw [← s1, ej, i4, a3])
 subst hji
 rw [p4 b3, ← ej] at hmax
 have hb0 : 0 < (c.getD b ct0).pos := by
  have := (hC.ok _ (getD_mem (d := ct0) b1)).1
  unfold propC inV at this
  simp only [Bool.and_eq_true, decide_eq_true_eq] at this
  omega
 omega
/-- A container of a task is on board. -/
def hitA (t : List Tsk) (f : Flt) (x : Cnt) : Bool := t.any (fun u => decide (x.num = u.1) && decide (x.flt = f) && decide (x.pos > 0))
theorem fw_hit {c x : List Cnt} (hC : CtsOk c) {f : Flt} {t : List Tsk} {O : List Int} {d k : Nat} (h : OrdS c f t O d) (hx : FwI c O k x) (hk : k + 1 = O.length) : x.any (hitA t f) = true := by
 have hl := h.len
 obtain ⟨h1, h2⟩ := hx
 obtain ⟨b, b1, b2, b3, b4, b5⟩ := ord_mem h (i := k) (by omega)
 have hd : d < (aboV c f).length := by omega
 have hh := h.hit hd
 rw [show (aboV c f).length - 1 - k = d by omega] at b2
 rw [← b2] at hh
 obtain ⟨p1, p2, p3, p4⟩ := h2 b b1
 obtain ⟨u, hu, he⟩ := List.any_eq_true.1 hh
 have he := of_decide_eq_true he
 have hb0 : 0 < (c.getD b ct0).pos := by
  have := (hC.ok _ (getD_mem (d := ct0) b1)).1
  unfold propC inV at this
  simp only [Bool.and_eq_true, decide_eq_true_eq] at this
  omega
 refine List.any_eq_true.2 ⟨x.getD b ct0, getD_mem (by omega), List.any_eq_true.2 ⟨u, hu, ?_⟩⟩
 rw [Bool.and_eq_true, Bool.and_eq_true, decide_eq_true_eq, decide_eq_true_eq, decide_eq_true_eq]
 exact ⟨⟨by rw [p1, he], by rw [p2, b4]⟩, by rw [p4 b3]; exact hb0⟩
end Go.Proofs.YteheklpenjjfaaaGreat

/- The generator of containers. -/
set_option linter.unusedSimpArgs false
set_option linter.unusedVariables false
set_option maxRecDepth 100000
set_option maxHeartbeats 8000000
namespace Go.Proofs.YteheklpenjjfaaaGreat
open Go.Ev

attribute [local go_sem] List.set_cons_succ List.set_cons_zero List.getD_cons_succ List.getD_cons_zero List.set_nil
/-- What Containers gives. -/
structure CtsR (most n : Int) (l : List Cnt) : Prop where
 ok : CtsOk l
 len : (l.length : Int) ≤ most
 pl : ∀ c ∈ l, ∀ x ∈ c.pcs, ∃ j : Nat, (j : Int) < n ∧ x.1 = platesV j
 fl : ∀ c ∈ l, ∃ j : Nat, j < 3 ∧ c.flt = fltsV j
structure CtA (most k nm : Int) (xs : List Cnt) : Prop where
 len : (xs.length : Int) + k ≤ most
 n0 : 0 ≤ nm
 n1 : nm ≤ 2 * xs.length
 ok : ∀ c ∈ xs, propC c = true ∧ c.pcs = [] ∧ c.num ≤ nm ∧ ∃ j : Nat, j < 3 ∧ c.flt = fltsV j
 num : xs.Pairwise (fun a b => a.num < b.num)
 pos : ∀ i, i < xs.length → (xs.getD i ct0).pos = 0 ∨ (xs.getD i ct0).pos = i + 1
theorem CtA.push {most k nm : Int} {xs : List Cnt} (h : CtA most k nm xs) (hm : most ≤ 24) (hk : 0 < k) {v f c l m p r : Int} (hv : 1 ≤ v ∧ v ≤ 2) (hf : 0 ≤ f ∧ f < 3) (hc : 0 ≤ c ∧ c ≤ 31) (hl : 0 ≤ l ∧ l ≤ 20000) (hmo : 0 ≤ m ∧ m ≤ 60) (hp : p = 0 ∨ p = xs.length + 1) (hr : -50 ≤ r ∧ r ≤ 50) : CtA most (k - 1) (nm + v) (xs ++ [(nm + v, fltsV f, c, l, m, p, r, [])]) := by
 obtain ⟨il, in0, in1, iok, inum, ipos⟩ := h
 refine ⟨by simp; omega, by omega, by simp; omega, fun x hx => ?_, ?_, fun i hi => ?_⟩
 · rcases List.mem_append.1 hx with hx | hx
   · obtain ⟨h1, h2, h3, h4⟩ := iok x hx
     exact ⟨h1, h2, by omega, h4⟩
   · rw [List.mem_singleton.1 hx]
     refine ⟨?_, rfl, Int.le_refl _, f.toNat, by omega, by rw [show ((f.toNat : Nat) : Int) = f by omega]⟩
     unfold propC inV
     simp only [Cnt.num, Cnt.flt, Cnt.cats, Cnt.lim, Cnt.most, Cnt.pos, Cnt.arm, fltsV_ok, Bool.and_eq_true, decide_eq_true_eq, and_true]
     rcases hp with hp | hp <;> subst hp <;> omega
 · rw [List.pairwise_append]
   refine ⟨inum, List.pairwise_singleton _ _, fun x hx y hy => ?_⟩
   rw [List.mem_singleton.1 hy]
   have := (iok x hx).2.2.1
   show x.num < nm + v
   omega
 · by_cases e : i < xs.length
   · have := ipos i e
     rw [List.getD_eq_getElem?_getD, List.getElem?_append_left e, ← List.getD_eq_getElem?_getD]; exact this
   · have e : i = xs.length := by simp at hi; omega
     subst e
     rw [List.getD_eq_getElem?_getD, List.getElem?_append_right (Nat.le_refl _), Nat.sub_self]
     exact hp
structure CtB (i N : Nat) (yss : List (List Pce)) : Prop where
 len : yss.length = N
 c20 : ∀ p ∈ yss, p.length ≤ 20
 ok : ∀ p ∈ yss, PcsOk p
 pl : ∀ p ∈ yss, ∀ x ∈ p, ∃ j : Nat, j < i ∧ x.1 = platesV j
 ap : yss.Pairwise (fun a b => ∀ x ∈ a, ∀ y ∈ b, x.1 ≠ y.1)
theorem CtB.nil (N : Nat) : CtB 0 N (List.replicate N []) := by
 refine ⟨by simp, fun p hp => ?_, fun p hp => ?_, fun p hp => ?_, ?_⟩
 · rw [List.eq_of_mem_replicate hp]; simp
 · rw [List.eq_of_mem_replicate hp]; exact ⟨fun _ h => (by cases h), .nil⟩
 · rw [List.eq_of_mem_replicate hp]; intro x hx; cases hx
 · rw [List.pairwise_replicate]; right; intro x hx; cases hx
theorem CtB.step {i N : Nat} {yss : List (List Pce)} (h : CtB i N yss) : CtB (i + 1) N yss :=
 ⟨h.len, h.c20, h.ok, fun p hp x hx => (h.pl p hp x hx).imp fun j hj => ⟨by omega, hj.2⟩, h.ap⟩
theorem platesV_ne {a b : Nat} (h : a < b) (hb : b < 1000) : platesV a ≠ platesV b := fun e => by
 have := platesV_lt (a := a) (b := b) (by omega) (by omega) (by omega)
 rw [e, (pltC_cmp.eq _ _).2 rfl] at this
 omega
theorem set_getD {α : Type} (l : List α) (k : Nat) (v d : α) (j : Nat) (hj : j < l.length) : (l.set k v).getD j d = if k = j then v else l.getD j d := by
 rw [List.getD_eq_getElem?_getD, List.getD_eq_getElem?_getD, List.getElem?_set]
 split
 · rename_i e; subst e; simp [hj]
 · rfl
theorem CtB.put {i N k : Nat} {yss : List (List Pce)} (h : CtB i N yss) (hi : i < 1000) (hk : k < N) (h20 : (yss.getD k []).length < 20) {w c : Int} (hw : 1 ≤ w ∧ w ≤ 999) (hc : 0 ≤ c ∧ c ≤ 4) : CtB (i + 1) N (yss.set k (yss.getD k [] ++ [(platesV i, w, c)])) := by
 obtain ⟨h1, h2, h3, h4, h5⟩ := h
 have hmem : yss.getD k [] ∈ yss := getD_mem (by omega)
 have key : ∀ p ∈ yss.set k (yss.getD k [] ++ [(platesV i, w, c)]), p ∈ yss ∨ p = yss.getD k [] ++ [(platesV i, w, c)] := fun p hp => by
  rcases List.mem_or_eq_of_mem_set hp with h | h
  · exact .inl h
  · exact .inr h
 refine ⟨by simp [h1], fun p hp => ?_, fun p hp => ?_, fun p hp x hx => ?_, ?_⟩
 · rcases key p hp with h | h
   · exact h2 p h
   · rw [h, List.length_append, List.length_singleton]; omega
 · rcases key p hp with h | h
   · exact h3 p h
   · subst h
     refine ⟨fun x hx => ?_, ?_⟩
     · rcases List.mem_append.1 hx with hx | hx
       · exact (h3 _ hmem).ok x hx
       · rw [List.mem_singleton.1 hx]
         unfold okPc inV
         simp only [platesV_ok, Bool.and_eq_true, decide_eq_true_eq, true_and]
         omega
     · rw [List.pairwise_append]
       refine ⟨(h3 _ hmem).srt, List.pairwise_singleton _ _, fun x hx y hy => ?_⟩
       rw [List.mem_singleton.1 hy]
       obtain ⟨j, hj, e⟩ := h4 _ hmem x hx
       rw [e]
       exact platesV_lt (by omega) (by omega) (by omega)
 · rcases key p hp with h | h
   · exact (h4 p h x hx).imp fun j hj => ⟨by omega, hj.2⟩
   · subst h
     rcases List.mem_append.1 hx with hx | hx
     · exact (h4 _ hmem x hx).imp fun j hj => ⟨by omega, hj.2⟩
     · rw [List.mem_singleton.1 hx]; exact ⟨i, by omega, rfl⟩
 · rw [pw_getD []] at h5 ⊢
   intro a b hab hb x hx y hy
   rw [List.length_set] at hb
   rw [set_getD _ _ _ _ _ (by omega)] at hx hy
   have hA : yss.getD a [] ∈ yss := getD_mem (by omega)
   have hB : yss.getD b [] ∈ yss := getD_mem hb
   by_cases ea : k = a
   · rw [if_pos ea] at hx
     rw [if_neg (by omega)] at hy
     rcases List.mem_append.1 hx with hx | hx
     · rw [ea] at hx; exact h5 a b hab hb x hx y hy
     · rw [List.mem_singleton.1 hx]
       obtain ⟨j, hj, e⟩ := h4 _ hB y hy
       rw [e]; exact (platesV_ne hj hi).symm
   · rw [if_neg ea] at hx
     by_cases eb : k = b
     · rw [if_pos eb] at hy
       rcases List.mem_append.1 hy with hy | hy
       · rw [eb] at hy; exact h5 a b hab hb x hx y hy
       · rw [List.mem_singleton.1 hy]
         obtain ⟨j, hj, e⟩ := h4 _ hA x hx
         rw [e]; exact platesV_ne hj hi
     · rw [if_neg eb] at hy
       exact h5 a b hab hb x hx y hy
theorem zipS_len {xs : List Cnt} {yss : List (List Pce)} (h : yss.length = xs.length) : ((xs.zip yss).map (fun q => setPcs q.1 q.2)).length = xs.length := by simp [h]
theorem zipS_getD {xs : List Cnt} {yss : List (List Pce)} (h : yss.length = xs.length) {i : Nat} (hi : i < xs.length) : ((xs.zip yss).map (fun q => setPcs q.1 q.2)).getD i ct0 = setPcs (xs.getD i ct0) (yss.getD i []) := by
 simp [List.getD_eq_getElem?_getD, hi, h]
theorem CtsR.mk' {most n nm k : Int} {i : Nat} {xs : List Cnt} {yss : List (List Pce)} (hA : CtA most k nm xs) (hk : 0 ≤ k) (hm : most ≤ 24) (hB : CtB i xs.length yss) (hi : (i : Int) ≤ n ∨ i = 0) : CtsR most n ((xs.zip yss).map (fun q => setPcs q.1 q.2)) := by
 obtain ⟨il, in0, in1, iok, inum, ipos⟩ := hA
 obtain ⟨h1, h2, h3, h4, h5⟩ := hB
 have hl := zipS_len h1
 have hg : ∀ c ∈ (xs.zip yss).map (fun q => setPcs q.1 q.2), ∃ x ∈ xs, ∃ p ∈ yss, c = setPcs x p := fun c hc => by
  obtain ⟨q, hq, rfl⟩ := List.mem_map.1 hc
  exact ⟨q.1, (List.of_mem_zip (a := q.1) (b := q.2) hq).1, q.2, (List.of_mem_zip (a := q.1) (b := q.2) hq).2, rfl⟩
 refine ⟨⟨by omega, fun c hc => ?_, (pw_getD ct0).2 fun a b hab hb => ?_, (pw_getD ct0).2 fun a b hab hb => ?_, (pw_getD ct0).2 fun a b hab hb => ?_⟩, by omega, fun c hc x hx => ?_, fun c hc => ?_⟩
 · obtain ⟨x, hx, p, hp, rfl⟩ := hg c hc
   exact ⟨(iok x hx).1, Nat.le_trans (h2 p hp) (by omega), h3 p hp⟩
 · rw [hl] at hb
   rw [zipS_getD (i := a) h1 (by omega), zipS_getD (i := b) h1 hb]
   exact (pw_getD ct0).1 inum a b hab hb
 · rw [hl] at hb
   rw [zipS_getD (i := a) h1 (by omega), zipS_getD (i := b) h1 hb]
   intro hp he
   have hp : (xs.getD b ct0).pos ≠ 0 := hp
   have he : (xs.getD a ct0).pos = (xs.getD b ct0).pos := he
   have := ipos a (by omega)
   have := ipos b hb
   omega
 · rw [hl] at hb
   rw [zipS_getD (i := a) h1 (by omega), zipS_getD (i := b) h1 hb]
   exact (pw_getD []).1 h5 a b hab (by omega)
 · obtain ⟨x0, hx0, p, hp, rfl⟩ := hg c hc
   obtain ⟨j, hj, e⟩ := h4 p hp x hx
   exact ⟨j, by omega, e⟩
 · obtain ⟨x0, hx0, p, hp, rfl⟩ := hg c hc
   exact (iok x0 hx0).2.2.2
def con9 : RCon := { ps := [.p 62 ySR, .d false (.int .i64), .d false (.int .i64)], rs := [.d false (.sl yCT)], pre := fun (x : Src × Int × Int × Unit) => 0 ≤ x.1.2 ∧ 0 ≤ x.2.1 ∧ x.2.1 ≤ 24 ∧ x.2.2.1 ≤ 1000, rel := fun (x : Src × Int × Int × Unit) (y : List Cnt × Unit) (z : Src × Int × Int × Unit) => 0 ≤ z.1.2 ∧ CtsR x.2.1 x.2.2.1 y.1 }
theorem c9 : RCtrOk Tryz.prog 9 con9.rctr :=
 rcon_sound (G := ⟨[(12, con12.ctr), (27, con27.ctr), (11, con11.ctr), (28, con28.ctr)], [], [(7, 76), (53, 76), (58, 1), (84, 3), (93, 5), (99, 1)], [], []⟩) tab_ok (EnvOk.cons c12 has12 (EnvOk.cons c27 has27 (EnvOk.cons c11 has11 (EnvOk.cons c28 has28 EnvOk.nil)))) rfl Tryz.func9 rfl con9 77371328692341128053669831 (by kernel_rfl) (by decide) (by decide) rfl (by decide) rfl (by
  rintro ⟨⟨(s : List Int), (a : Int)⟩, (most : Int), (n : Int), _⟩ hpre hwf X hT hG hk hK
  (simp -implicitDefEqProofs (maxSteps := 4000000) only [go_sem, Bool.not_eq_true', Bool.not_eq_false', Bool.or_eq_true, Bool.or_eq_false_iff, Bool.and_eq_true, Bool.and_eq_false_iff, decide_eq_true_eq, decide_eq_false_iff_not, Classical.not_not, not_or, maxLen, con9, con12, con27, con11, con28, hT, hG, hk, hK, Tryz.results9] at hwf ⊢); (try simp (disch := decide +kernel) only [drawn, true_and, and_true])
  obtain ⟨h1, h2, h3, h4⟩ : 0 ≤ a ∧ 0 ≤ most ∧ most ≤ 24 ∧ n ≤ 1000 := hpre
  have hs1 : 0 ≤ (Src.step (s, a)).snd := step_pos h1
  have hkb := goMod_bd (Src.raw (s, a)) (most + 1) (by omega)
  generalize goMod (Src.raw (s, a)) (most + 1) = K at hkb ⊢
  generalize Src.step (s, a) = S1 at hs1 ⊢
  obtain ⟨s1, a1⟩ := S1
  (repeat' (with_reducible (first | refine And.intro ?_ ?_ | intro _))) <;> (try (first | with_reducible (first | done | assumption | omega | contradiction) | decide))
  refine evk_loop ⟨{ q : Src × List Cnt × Int × Int // 0 ≤ q.1.2 ∧ CtA most q.2.2.2 q.2.2.1 q.2.1 ∧ 0 ≤ q.2.2.2 }, 1000, fun q => [(0, .one (.loc 0 0)), (2, .one (.int .i64 n)), (7, .one (.row 64)), (8, .one (.int .i64 q.1.2.2.1)), (9, .one (.int .i64 q.1.2.2.2))],
   fun q => [(0, .cells 62 [.sl (.int .i64) q.1.1.1 false, .int .i64 q.1.1.2]), (64, .rowg 44 yCT 10 65 q.1.2.1 none), (65, .fam 68 yPC (List.replicate q.1.2.1.length []))], fun q => q.1.2.2.2.toNat⟩ ⟨((s1, a1), [], 0, K), hs1, ⟨by simp only [List.length_nil]; omega, Int.le_refl _, by simp, fun _ h => (by cases h), .nil, fun i h => absurd h (by simp)⟩, hkb.1⟩ ?_ ?_
  · simp only [go_sem]
    try (first | rfl | exact ⟨rfl, rfl⟩ | (and_intros <;> first | trivial | rfl | omega))
  · rintro ⟨⟨⟨s, a⟩, xs, nm, k⟩, (h1 : 0 ≤ a), (hI : CtA most k nm xs), (hk0 : 0 ≤ k)⟩
    (simp -implicitDefEqProofs (maxSteps := 4000000) only [go_sem, Bool.not_eq_true', Bool.not_eq_false', Bool.or_eq_true, Bool.or_eq_false_iff, Bool.and_eq_true, Bool.and_eq_false_iff, decide_eq_true_eq, decide_eq_false_iff_not, Classical.not_not, not_or, maxLen, con9, con12, con27, con11, con28, hT, hG, hk, hK, Tryz.results9]); (try simp (disch := decide +kernel) only [drawn, true_and, and_true])
    obtain ⟨il, in0, in1, iok, inum, ipos⟩ := hI
    have r1 := goMod_bd (Src.raw (s, a)) 2 (by omega)
    have p1 : 0 ≤ (Src.step (s, a)).snd := step_pos h1
    have p2 : 0 ≤ (Src.step (s, a)).step.snd := step_pos p1
    have p3 : 0 ≤ (Src.step (s, a)).step.step.snd := step_pos p2
    have p4 : 0 ≤ (Src.step (s, a)).step.step.step.snd := step_pos p3
    have p5 : 0 ≤ (Src.step (s, a)).step.step.step.step.snd := step_pos p4
    have p6 : 0 ≤ (Src.step (s, a)).step.step.step.step.step.snd := step_pos p5
    have p7 : 0 ≤ (Src.step (s, a)).step.step.step.step.step.step.snd := step_pos p6
    have r2 := goMod_bd (Src.step (s, a)).raw 3 (by omega)
    have r3 := goMod_bd (Src.step (s, a)).step.raw 6 (by omega)
    have r4 := goMod_bd (Src.step (s, a)).step.step.raw 300 (by omega)
    have r5 := goMod_bd (Src.step (s, a)).step.step.step.raw 10 (by omega)
    have r6 := goMod_bd (Src.step (s, a)).step.step.step.step.raw 21 (by omega)
    have r7 := goMod_bd (Src.step (s, a)).step.step.step.step.step.raw 3 (by omega)
    generalize (Src.step (s, a)).step.step.step.step.step.step = S7 at p7 ⊢
    generalize goMod (Src.step (s, a)).step.step.step.step.step.raw 3 = V7 at r7 ⊢
    generalize goMod (Src.step (s, a)).step.step.step.step.raw 21 = V6 at r6 ⊢
    generalize goMod (Src.step (s, a)).step.step.step.raw 10 = V5 at r5 ⊢
    generalize goMod (Src.step (s, a)).step.step.raw 300 = V4 at r4 ⊢
    generalize goMod (Src.step (s, a)).raw 3 = V2 at r2 ⊢
    generalize goMod (Src.raw (s, a)) 2 = V1 at r1 ⊢
    obtain ⟨s7, a7⟩ := S7
    have hc31 : ∀ k : Int, 0 ≤ k ∧ k < 6 → 0 ≤ [31, 31, 31, 3, 30, 1].getD k.toNat (0 : Int) ∧ [31, 31, 31, 3, 30, 1].getD k.toNat (0 : Int) ≤ 31 := fun k hk => by
     rcases (by omega : k = 0 ∨ k = 1 ∨ k = 2 ∨ k = 3 ∨ k = 4 ∨ k = 5) with rfl | rfl | rfl | rfl | rfl | rfl <;> decide
    have hc31 := hc31 _ r3
    have hrep : List.replicate xs.length ([] : List Pce) ++ [[]] = List.replicate (xs.length + 1) [] := by rw [List.replicate_succ']
    have hI : CtA most k nm xs := ⟨il, in0, in1, iok, inum, ipos⟩
    (repeat' (with_reducible (first | refine And.intro ?_ ?_ | intro _))) <;> (try (first | with_reducible (first | done | assumption | omega | contradiction) | decide))
    all_goals first
     | (have hv7 : V7 > 0 := by assumption
        refine fin_lp ⟨((s7, a7), xs ++ [_], nm + (1 + V1), k - 1), p7, CtA.push (v := 1 + V1) (f := V2) (c := [31, 31, 31, 3, 30, 1].getD (goMod (Src.step (s, a)).step.raw 6).toNat 0) (l := 50 + V4) (m := 2 + V5) (p := xs.length + 1) (r := V6 - 10) hI h3 (by omega) (by omega) r2 hc31 (by omega) (by omega) (.inr rfl) (by omega), (by show 0 ≤ k - 1; omega)⟩ ?_ (by dsimp only; omega)
        simp only [go_sem]
        rw [hrep, List.length_append]
        try (first | rfl | exact ⟨rfl, rfl⟩ | (and_intros <;> first | trivial | rfl | omega))
        done)
     | (have hv7 : ¬ V7 > 0 := by assumption
        refine fin_lp ⟨((s7, a7), xs ++ [_], nm + (1 + V1), k - 1), p7, CtA.push (v := 1 + V1) (f := V2) (c := [31, 31, 31, 3, 30, 1].getD (goMod (Src.step (s, a)).step.raw 6).toNat 0) (l := 50 + V4) (m := 2 + V5) (p := 0) (r := V6 - 10) hI h3 (by omega) (by omega) r2 hc31 (by omega) (by omega) (.inl rfl) (by omega), (by show 0 ≤ k - 1; omega)⟩ ?_ (by dsimp only; omega)
        simp only [go_sem]
        rw [hrep, List.length_append]
        try (first | rfl | exact ⟨rfl, rfl⟩ | (and_intros <;> first | trivial | rfl | omega))
        done)
     | (have hl0 : xs.length = 0 := by omega
        refine ⟨((xs.zip (List.replicate xs.length [])).map (fun q => setPcs q.1 q.2), ()), ((s, a), most, n, ()), ⟨h1, CtsR.mk' hI hk0 h3 (CtB.nil _) (.inr rfl)⟩, rfl, rfl, putSls_ct _ _⟩)
     | (refine evk_loop ⟨{ q : Src × List (List Pce) × Nat // 0 ≤ q.1.2 ∧ CtB q.2.2 xs.length q.2.1 ∧ ((q.2.2 : Int) ≤ n ∨ q.2.2 = 0) }, 1000, fun q => [(0, .one (.loc 0 0)), (2, .one (.int .i64 n)), (7, .one (.row 64)), (11, .one (.int .i64 q.1.2.2))],
         fun q => [(0, .cells 62 [.sl (.int .i64) q.1.1.1 false, .int .i64 q.1.1.2]), (64, .rowg 44 yCT 10 65 xs none), (65, .fam 68 yPC q.1.2.1)], fun q => n.toNat - q.1.2.2⟩ ⟨((s, a), List.replicate xs.length [], 0), h1, CtB.nil _, .inr rfl⟩ ?_ ?_
        · simp only [go_sem]
          try (first | rfl | exact ⟨rfl, rfl⟩ | (and_intros <;> first | trivial | rfl | omega))
        · rintro ⟨⟨⟨s, a⟩, yss, i⟩, (h1 : 0 ≤ a), (hB : CtB i xs.length yss), (hin : (i : Int) ≤ n ∨ i = 0)⟩
          (simp -implicitDefEqProofs (maxSteps := 4000000) only [go_sem, Bool.not_eq_true', Bool.not_eq_false', Bool.or_eq_true, Bool.or_eq_false_iff, Bool.and_eq_true, Bool.and_eq_false_iff, decide_eq_true_eq, decide_eq_false_iff_not, Classical.not_not, not_or, maxLen, con9, con12, con27, con11, con28, hT, hG, hk, hK, Tryz.results9]); (try simp (disch := decide +kernel) only [drawn, true_and, and_true])
          have hxl : 0 < xs.length := by omega
          have r1 := goMod_bd (Src.raw (s, a)) 3 (by omega)
          have p1 : 0 ≤ (Src.step (s, a)).snd := step_pos h1
          have p2 : 0 ≤ (Src.step (s, a)).step.snd := step_pos p1
          have p3 : 0 ≤ (Src.step (s, a)).step.step.snd := step_pos p2
          have p4 : 0 ≤ (Src.step (s, a)).step.step.step.snd := step_pos p3
          have r2 := goMod_bd (Src.step (s, a)).raw xs.length (by omega)
          have r3 := goMod_bd (Src.step (s, a)).step.raw 30 (by omega)
          have r4 := goMod_bd (Src.step (s, a)).step.step.raw 8 (by omega)
          have hw : ∀ k : Int, 0 ≤ k ∧ k < 8 → 0 ≤ [0, 0, 0, 0, 1, 2, 3, 4].getD k.toNat (0 : Int) ∧ [0, 0, 0, 0, 1, 2, 3, 4].getD k.toNat (0 : Int) ≤ 4 := fun k hk => by
           rcases (by omega : k = 0 ∨ k = 1 ∨ k = 2 ∨ k = 3 ∨ k = 4 ∨ k = 5 ∨ k = 6 ∨ k = 7) with rfl | rfl | rfl | rfl | rfl | rfl | rfl | rfl <;> decide
          have hw := hw _ r4
          have hyl := hB.len
          have hbl : ∀ k : Nat, (yss.getD k []).length ≤ 20 := fun k => by
           by_cases h : k < yss.length
           · exact hB.c20 _ (getD_mem h)
           · rw [List.getD_eq_getElem?_getD, List.getElem?_eq_none (by omega)]; simp
          have hbk := hbl (goMod (Src.step (s, a)).raw xs.length).toNat
          generalize (Src.step (s, a)).step.step.step = S4 at p4 ⊢
          generalize goMod (Src.step (s, a)).step.step.raw 8 = V4 at r4 hw ⊢
          generalize goMod (Src.step (s, a)).step.raw 30 = V3 at r3 ⊢
          generalize goMod (Src.step (s, a)).raw xs.length = V2 at r2 hbk ⊢
          generalize goMod (Src.raw (s, a)) 3 = V1 at r1 ⊢
          generalize (Src.step (s, a)).step = S2 at p2 ⊢
          generalize Src.step (s, a) = S1 at p1 ⊢
          obtain ⟨s4, a4⟩ := S4
          obtain ⟨s2, a2⟩ := S2
          obtain ⟨s1, a1⟩ := S1
          (repeat' (with_reducible (first | refine And.intro ?_ ?_ | intro _))) <;> (try (first | with_reducible (first | done | assumption | omega | contradiction) | decide))
          all_goals first
           | (have hv : V1 = 0 := by assumption
              refine fin_lp ⟨((s1, a1), yss, i + 1), p1, hB.step, (by show ((i + 1 : Nat) : Int) ≤ n ∨ _; omega)⟩ ?_ (by dsimp only; omega)
              simp only [go_sem]
              try (first | rfl | exact ⟨rfl, rfl⟩ | (and_intros <;> first | trivial | rfl | omega))
              done)
           | exact step_pos p2
           | (have h20 : ((yss.getD V2.toNat []).length : Int) < 20 := by assumption
              refine fin_lp ⟨((s4, a4), yss.set V2.toNat (yss.getD V2.toNat [] ++ [(platesV i, 1 + V3, [0, 0, 0, 0, 1, 2, 3, 4].getD V4.toNat 0)]), i + 1), p4, hB.put (by omega) (by omega) (by omega) (by omega) hw, (by show ((i + 1 : Nat) : Int) ≤ n ∨ _; omega)⟩ ?_ (by dsimp only; omega)
              simp only [go_sem]
              rw [List.set_set]
              try (first | rfl | exact ⟨rfl, rfl⟩ | (and_intros <;> first | trivial | rfl | omega))
              done)
           | (have h20 : ¬ ((yss.getD V2.toNat []).length : Int) < 20 := by assumption
              refine fin_lp ⟨((s4, a4), yss, i + 1), p4, hB.step, (by show ((i + 1 : Nat) : Int) ≤ n ∨ _; omega)⟩ ?_ (by dsimp only; omega)
              simp only [go_sem]
              try (first | rfl | exact ⟨rfl, rfl⟩ | (and_intros <;> first | trivial | rfl | omega))
              done)
           | (refine ⟨((xs.zip yss).map (fun q => setPcs q.1 q.2), ()), ((s, a), most, n, ()), ⟨h1, CtsR.mk' hI hk0 h3 hB hin⟩, rfl, rfl, putSls_ct _ _⟩)
           | fail))
end Go.Proofs.YteheklpenjjfaaaGreat

/- The contract of OffloadFewest. -/
set_option linter.unusedSimpArgs false
set_option linter.unusedVariables false
set_option maxRecDepth 100000
set_option maxHeartbeats 8000000
namespace Go.Proofs.YteheklpenjjfaaaGreat
open Go.Ev

def hit1 (f : Flt) (x : Cnt) (u : Tsk) : Bool := decide (x.num = u.1) && decide (x.flt = f) && decide (x.pos > 0)
theorem hitA_eq (t : List Tsk) (f : Flt) (x : Cnt) : hitA t f x = t.any (hit1 f x) := rfl
theorem any_take {α : Type} (l : List α) (d : α) (p : α → Bool) {i : Nat} (h : i < l.length) : (l.take (i + 1)).any p = ((l.take i).any p || p (l.getD i d)) := by
 rw [List.take_succ_eq_append_getElem h, List.any_append, getD_lt h]; simp
def con6 : Con := { ps := [.d false (.sl (.int .i64)), .d false (.int .i64)], rs := [.d false .bool], pre := fun _ => True, out := fun x => (true, ()), nw := id }
theorem c6 : CtrOk Tryz.prog 6 con6.ctr :=
 con_sound (G := ⟨[(8, con8.ctr), (12, con12.ctr), (26, con26.ctr), (11, con11.ctr), (14, con14.ctr), (17, con17.ctr), (22, con22.ctr)], [(9, con9.rctr), (13, con13.rctr)], [], [], []⟩) tab_ok (EnvOk.cons c8 has8 (EnvOk.cons c12 has12 (EnvOk.cons c26 has26 (EnvOk.cons c11 has11 (EnvOk.cons c14 has14 (EnvOk.cons c17 has17 (EnvOk.cons c22 has22 (EnvOk.rcons c9 has9 (EnvOk.rcons c13 has13 EnvOk.nil))))))))) rfl Tryz.func6 rfl con6 298682605985510057041199091 (by kernel_rfl) (by decide) (by decide) rfl (by decide) rfl (by
  rintro ⟨(src : List Int), (keep : Int), _⟩ hpre hwf X hT hG hk hK
  (simp -implicitDefEqProofs (maxSteps := 4000000) only [go_sem, Bool.not_eq_true', Bool.not_eq_false', Bool.or_eq_true, Bool.or_eq_false_iff, Bool.and_eq_true, Bool.and_eq_false_iff, decide_eq_true_eq, decide_eq_false_iff_not, Classical.not_not, not_or, maxLen, con6, con8, con12, con26, con11, con14, con17, con22, con9, con13, hT, hG, hk, hK, Tryz.results6] at hwf ⊢); (try simp (disch := decide +kernel) only [drawn, true_and, and_true])
  clear hwf
  refine fun _ => ⟨⟨by decide, by decide, by decide, by decide⟩, ?_⟩
  rintro ⟨⟨(c : List Cnt), _⟩, ⟨⟨(s1 : List Int), (a1 : Int)⟩, _⟩⟩ hy1
  obtain ⟨⟨h1, hcr⟩, -⟩ := hy1
  have h1 : 0 ≤ a1 := h1
  have hcr : CtsR 10 3 c := hcr
  dsimp only
  refine ⟨h1, fun _ _ => ⟨⟨step_pos h1, by decide, by decide⟩, ?_⟩⟩
  rintro ⟨⟨(t : List Tsk), _⟩, ⟨⟨(s2 : List Int), (a2 : Int)⟩, _⟩⟩ hy2
  clear hy2
  dsimp only
  have hC := hcr.ok
  generalize fltsV (goMod (Src.raw (s1, a1)) 3) = f
  have hck := checkV_iff.2 hC
  have hov : (ordV c f t).2 = 6 ∨ ordV c f t = (orderL (aboV c f) t, 0) := by
   unfold ordV
   rw [if_neg (by omega)]
   by_cases q : t.any (fun u => decide (numIdx c u.1 < 0)) = true
   · rw [if_pos q]; exact .inl rfl
   · rw [if_neg q]; exact .inr rfl
  refine fun _ => ⟨fun q => ?_, fun q => ?_⟩
  · rcases hov with h | h
    · exact h
    · rw [h] at q; exact absurd rfl q
  have hO : ordV c f t = (orderL (aboV c f) t, 0) := by
   rcases hov with h | h
   · rw [h] at q; exact absurd q (by decide)
   · exact h
  rw [hO]
  obtain ⟨d, hS⟩ := ordS c f t
  generalize orderL (aboV c f) t = O at hS ⊢
  dsimp only
  refine fun _ hne _ => ?_
  have hlen : 0 < O.length := by omega
  have hkb := goMod_bd keep (O.length : Int) (by omega)
  obtain ⟨k, hkk⟩ : ∃ k : Nat, goMod keep (O.length : Int) = k := ⟨(goMod keep (O.length : Int)).toNat, by omega⟩
  rw [hkk] at hkb ⊢
  have hkl : k < O.length := by omega
  refine fun _ _ => evk_loop ⟨{ q : Nat × List Cnt // q.1 ≤ O.length ∧ q.1 ≤ k + 1 ∧ FwI c O k q.2 }, 2000, fun q => [(6, .one (.sl yCT c false)), (7, .one (.loc 70 0)), (8, .one (.sl yTK t false)), (11, .one (.int .i64 k)), (12, .one (.sl yCT q.1.2 false)), (13, .one (.bool false)), (54, .one (.sl (.int .i64) O false)), (55, .one (.int .i64 O.length)), (56, .one (.int .i64 q.1.1))],
   fun q => [(70, .cells 25 [.str f.1, .int .i64 f.2.1, .str f.2.2.1, .int .i64 f.2.2.2])], fun q => O.length - q.1.1⟩ ⟨(0, c), Nat.zero_le _, Nat.zero_le _, FwI.zero c O k⟩ ?_ ?_
  · simp only [go_sem]
    try (first | rfl | exact ⟨rfl, rfl⟩ | (and_intros <;> first | trivial | rfl | omega))
  · rintro ⟨⟨i, x⟩, (hi : i ≤ O.length), (hik : i ≤ k + 1), (hx : FwI c O k x)⟩
    (simp -implicitDefEqProofs (maxSteps := 4000000) only [go_sem, Bool.not_eq_true', Bool.not_eq_false', Bool.or_eq_true, Bool.or_eq_false_iff, Bool.and_eq_true, Bool.and_eq_false_iff, decide_eq_true_eq, decide_eq_false_iff_not, Classical.not_not, not_or, maxLen, con6, con8, con12, con26, con11, con14, con17, con22, con9, con13, hT, hG, hk, hK, Tryz.results6]); (try simp (disch := decide +kernel) only [drawn, true_and, and_true])
    obtain ⟨n, hn⟩ : ∃ n, O.getD i 0 = n := ⟨_, rfl⟩
    have en : O.getD (i : Int).toNat 0 = n := hn
    try simp only [en]
    have hxl := hx.1
    refine ⟨fun hlt => ⟨⟨by omega, by omega⟩, fun _ _ => ⟨fun hik2 => ?_, fun hik2 _ => ⟨fun hoff _ => ?_, fun hoff _ _ => ?_⟩⟩⟩, fun hge => ?_⟩
    · refine ⟨by omega, ?_⟩
      refine fin_lp ⟨(i + 1, x), by dsimp only; omega, by dsimp only; omega, hx⟩ ?_ (by dsimp only; omega)
      simp only [go_sem]
      try (first | rfl | exact ⟨rfl, rfl⟩ | (and_intros <;> first | trivial | rfl | omega))
    · have hfin : (true || x.any (hitA t f)) = true := rfl
      refine evk_loop ⟨{ q : Nat × Bool // q.1 ≤ x.length ∧ q.2 = (true || (x.take q.1).any (hitA t f)) }, 3000, fun q => [(7, .one (.loc 70 0)), (8, .one (.sl yTK t false)), (12, .one (.sl yCT x false)), (13, .one (.bool q.1.2)), (80, .one (.int .i64 x.length)), (81, .one (.int .i64 q.1.1))],
       fun q => [(70, .cells 25 [.str f.1, .int .i64 f.2.1, .str f.2.2.1, .int .i64 f.2.2.2])], fun q => x.length - q.1.1⟩ ⟨(0, true), Nat.zero_le _, by simp⟩ ?_ ?_
      · simp only [go_sem]
        try (first | rfl | exact ⟨rfl, rfl⟩ | (and_intros <;> first | trivial | rfl | omega))
      · rintro ⟨⟨i2, b2⟩, (hi2 : i2 ≤ x.length), (hb2 : b2 = (true || (x.take i2).any (hitA t f)))⟩
        (simp -implicitDefEqProofs (maxSteps := 4000000) only [go_sem, Bool.not_eq_true', Bool.not_eq_false', Bool.or_eq_true, Bool.or_eq_false_iff, Bool.and_eq_true, Bool.and_eq_false_iff, decide_eq_true_eq, decide_eq_false_iff_not, Classical.not_not, not_or, maxLen, con6, con8, con12, con26, con11, con14, con17, con22, con9, con13, hT, hG, hk, hK, Tryz.results6]); (try simp (disch := decide +kernel) only [drawn, true_and, and_true])
        obtain ⟨o, ho⟩ : ∃ o, x.getD i2 ct0 = o := ⟨_, rfl⟩
        have eo : x.getD (i2 : Int).toNat (0, (ByteArray.empty, 0, ByteArray.empty, 0), 0, 0, 0, 0, 0, []) = o := ho
        refine ⟨fun hlt2 _ => ?_, fun hge2 => ?_⟩
        · refine evk_loop ⟨{ q : Nat × Bool // q.1 ≤ t.length ∧ q.2 = (b2 || (t.take q.1).any (hit1 f o)) }, 4000, fun q => [(7, .one (.loc 70 0)), (8, .one (.sl yTK t false)), (12, .one (.sl yCT x false)), (13, .one (.bool q.1.2)), (80, .one (.int .i64 x.length)), (81, .one (.int .i64 i2)), (18, .one (.int .i64 i2)), (84, .one (.sl yTK t false)), (85, .one (.int .i64 t.length)), (86, .one (.int .i64 q.1.1))],
           fun q => [(70, .cells 25 [.str f.1, .int .i64 f.2.1, .str f.2.2.1, .int .i64 f.2.2.2])], fun q => t.length - q.1.1⟩ ⟨(0, b2), Nat.zero_le _, by simp⟩ ?_ ?_
          · simp only [go_sem]
            try (first | rfl | exact ⟨rfl, rfl⟩ | (and_intros <;> first | trivial | rfl | omega))
          · rintro ⟨⟨j, b3⟩, (hj : j ≤ t.length), (hb3 : b3 = (b2 || (t.take j).any (hit1 f o)))⟩
            (simp -implicitDefEqProofs (maxSteps := 4000000) only [go_sem, Bool.not_eq_true', Bool.not_eq_false', Bool.or_eq_true, Bool.or_eq_false_iff, Bool.and_eq_true, Bool.and_eq_false_iff, decide_eq_true_eq, decide_eq_false_iff_not, Classical.not_not, not_or, maxLen, con6, con8, con12, con26, con11, con14, con17, con22, con9, con13, hT, hG, hk, hK, Tryz.results6]); (try simp (disch := decide +kernel) only [drawn, true_and, and_true])
            obtain ⟨u, hu⟩ : ∃ u, t.getD j tk0 = u := ⟨_, rfl⟩
            have eu : t.getD (j : Int).toNat (0, []) = u := hu
            simp only [eo, eu]
            have hh : hit1 f o u = (decide (o.1 = u.1) && (decide (o.2.1.1 = f.1) && (decide (o.2.1.2.1 = f.2.1) && (decide (o.2.1.2.2.1 = f.2.2.1) && decide (o.2.1.2.2.2 = f.2.2.2)))) && decide (o.2.2.2.2.2.1 > 0)) := by
             unfold hit1
             rw [← fltD o.2.1 f]
            refine ⟨fun hlt3 => ?_, fun hge3 => ?_⟩
            · have h1 := any_take t tk0 (hit1 f o) (i := j) (by omega)
              rw [hu] at h1
              (repeat' (with_reducible (first | refine And.intro ?_ ?_ | intro _))) <;> (try (first | with_reducible (first | done | assumption | omega | contradiction) | decide))
              all_goals first
               | omega
               | (have h : o.1 = u.1 ∧ o.2.1.1 = f.1 ∧ o.2.1.2.1 = f.2.1 ∧ o.2.1.2.2.1 = f.2.2.1 ∧ o.2.1.2.2.2 = f.2.2.2 := by assumption
                  first | exact h.2.1 | exact h.2.2.2.1)
               | (refine fin_lp ⟨(j + 1, b3 || hit1 f o u), by dsimp only; omega, by dsimp only; rw [hb3, h1, Bool.or_assoc]⟩ ?_ (by dsimp only; omega)
                  simp only [go_sem]
                  rw [hh]
                  try (first | rfl | exact ⟨rfl, rfl⟩ | (and_intros <;> first | trivial | rfl | omega))
                  done)
               | fail
            · have h2 := any_take x ct0 (hitA t f) (i := i2) (by omega)
              rw [ho] at h2
              have hjt : t.take j = t := List.take_of_length_le (by omega)
              rw [hjt, ← hitA_eq] at hb3
              refine ⟨by omega, ?_⟩
              refine fin_lp ⟨(i2 + 1, b3), by dsimp only; omega, by dsimp only; rw [hb3, hb2, h2, Bool.or_assoc]⟩ ?_ (by dsimp only; omega)
              simp only [go_sem]
              try (first | rfl | exact ⟨rfl, rfl⟩ | (and_intros <;> first | trivial | rfl | omega))
        · rw [hb2, List.take_of_length_le (by omega)]
          exact hfin
    · have hne2 : i ≠ k := by omega
      have hik3 : i ≠ k + 1 := fun e => by
       subst e
       exact fw_stuck hC hS hx (by omega) (by rw [hn]; exact hoff)
      have hne3 := ord_inj hC hS (i := i) (k := k) (by omega) hkl hne2
      have hx2 := hx.off hne3 (by rw [hn]; exact hoff)
      rw [hn] at hx2
      have hx2l := hx2.1
      refine ⟨fun q => absurd (by omega) q, fun _ => ⟨by omega, ?_⟩⟩
      refine fin_lp ⟨(i + 1, (offV x n).1), by dsimp only; omega, by dsimp only; omega, hx2⟩ ?_ (by dsimp only; omega)
      simp only [go_sem]
      try (first | rfl | exact ⟨rfl, rfl⟩ | (and_intros <;> first | trivial | rfl | omega))
    · have hfin : (false || x.any (hitA t f)) = true := by rw [Bool.false_or]; exact fw_hit hC hS hx (by omega)
      intro _
      refine evk_loop ⟨{ q : Nat × Bool // q.1 ≤ x.length ∧ q.2 = (false || (x.take q.1).any (hitA t f)) }, 3000, fun q => [(7, .one (.loc 70 0)), (8, .one (.sl yTK t false)), (12, .one (.sl yCT x false)), (13, .one (.bool q.1.2)), (80, .one (.int .i64 x.length)), (81, .one (.int .i64 q.1.1))],
       fun q => [(70, .cells 25 [.str f.1, .int .i64 f.2.1, .str f.2.2.1, .int .i64 f.2.2.2])], fun q => x.length - q.1.1⟩ ⟨(0, false), Nat.zero_le _, by simp⟩ ?_ ?_
      · simp only [go_sem]
        try (first | rfl | exact ⟨rfl, rfl⟩ | (and_intros <;> first | trivial | rfl | omega))
      · rintro ⟨⟨i2, b2⟩, (hi2 : i2 ≤ x.length), (hb2 : b2 = (false || (x.take i2).any (hitA t f)))⟩
        (simp -implicitDefEqProofs (maxSteps := 4000000) only [go_sem, Bool.not_eq_true', Bool.not_eq_false', Bool.or_eq_true, Bool.or_eq_false_iff, Bool.and_eq_true, Bool.and_eq_false_iff, decide_eq_true_eq, decide_eq_false_iff_not, Classical.not_not, not_or, maxLen, con6, con8, con12, con26, con11, con14, con17, con22, con9, con13, hT, hG, hk, hK, Tryz.results6]); (try simp (disch := decide +kernel) only [drawn, true_and, and_true])
        obtain ⟨o, ho⟩ : ∃ o, x.getD i2 ct0 = o := ⟨_, rfl⟩
        have eo : x.getD (i2 : Int).toNat (0, (ByteArray.empty, 0, ByteArray.empty, 0), 0, 0, 0, 0, 0, []) = o := ho
        refine ⟨fun hlt2 _ => ?_, fun hge2 => ?_⟩
        · refine evk_loop ⟨{ q : Nat × Bool // q.1 ≤ t.length ∧ q.2 = (b2 || (t.take q.1).any (hit1 f o)) }, 4000, fun q => [(7, .one (.loc 70 0)), (8, .one (.sl yTK t false)), (12, .one (.sl yCT x false)), (13, .one (.bool q.1.2)), (80, .one (.int .i64 x.length)), (81, .one (.int .i64 i2)), (18, .one (.int .i64 i2)), (84, .one (.sl yTK t false)), (85, .one (.int .i64 t.length)), (86, .one (.int .i64 q.1.1))],
           fun q => [(70, .cells 25 [.str f.1, .int .i64 f.2.1, .str f.2.2.1, .int .i64 f.2.2.2])], fun q => t.length - q.1.1⟩ ⟨(0, b2), Nat.zero_le _, by simp⟩ ?_ ?_
          · simp only [go_sem]
            try (first | rfl | exact ⟨rfl, rfl⟩ | (and_intros <;> first | trivial | rfl | omega))
          · rintro ⟨⟨j, b3⟩, (hj : j ≤ t.length), (hb3 : b3 = (b2 || (t.take j).any (hit1 f o)))⟩
            (simp -implicitDefEqProofs (maxSteps := 4000000) only [go_sem, Bool.not_eq_true', Bool.not_eq_false', Bool.or_eq_true, Bool.or_eq_false_iff, Bool.and_eq_true, Bool.and_eq_false_iff, decide_eq_true_eq, decide_eq_false_iff_not, Classical.not_not, not_or, maxLen, con6, con8, con12, con26, con11, con14, con17, con22, con9, con13, hT, hG, hk, hK, Tryz.results6]); (try simp (disch := decide +kernel) only [drawn, true_and, and_true])
            obtain ⟨u, hu⟩ : ∃ u, t.getD j tk0 = u := ⟨_, rfl⟩
            have eu : t.getD (j : Int).toNat (0, []) = u := hu
            simp only [eo, eu]
            have hh : hit1 f o u = (decide (o.1 = u.1) && (decide (o.2.1.1 = f.1) && (decide (o.2.1.2.1 = f.2.1) && (decide (o.2.1.2.2.1 = f.2.2.1) && decide (o.2.1.2.2.2 = f.2.2.2)))) && decide (o.2.2.2.2.2.1 > 0)) := by
             unfold hit1
             rw [← fltD o.2.1 f]
            refine ⟨fun hlt3 => ?_, fun hge3 => ?_⟩
            · have h1 := any_take t tk0 (hit1 f o) (i := j) (by omega)
              rw [hu] at h1
              (repeat' (with_reducible (first | refine And.intro ?_ ?_ | intro _))) <;> (try (first | with_reducible (first | done | assumption | omega | contradiction) | decide))
              all_goals first
               | omega
               | (have h : o.1 = u.1 ∧ o.2.1.1 = f.1 ∧ o.2.1.2.1 = f.2.1 ∧ o.2.1.2.2.1 = f.2.2.1 ∧ o.2.1.2.2.2 = f.2.2.2 := by assumption
                  first | exact h.2.1 | exact h.2.2.2.1)
               | (refine fin_lp ⟨(j + 1, b3 || hit1 f o u), by dsimp only; omega, by dsimp only; rw [hb3, h1, Bool.or_assoc]⟩ ?_ (by dsimp only; omega)
                  simp only [go_sem]
                  rw [hh]
                  try (first | rfl | exact ⟨rfl, rfl⟩ | (and_intros <;> first | trivial | rfl | omega))
                  done)
               | fail
            · have h2 := any_take x ct0 (hitA t f) (i := i2) (by omega)
              rw [ho] at h2
              have hjt : t.take j = t := List.take_of_length_le (by omega)
              rw [hjt, ← hitA_eq] at hb3
              refine ⟨by omega, ?_⟩
              refine fin_lp ⟨(i2 + 1, b3), by dsimp only; omega, by dsimp only; rw [hb3, hb2, h2, Bool.or_assoc]⟩ ?_ (by dsimp only; omega)
              simp only [go_sem]
              try (first | rfl | exact ⟨rfl, rfl⟩ | (and_intros <;> first | trivial | rfl | omega))
        · rw [hb2, List.take_of_length_le (by omega)]
          exact hfin)
end Go.Proofs.YteheklpenjjfaaaGreat
