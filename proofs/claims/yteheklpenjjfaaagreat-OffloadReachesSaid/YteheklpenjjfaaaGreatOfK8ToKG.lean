/- No smaller set of containers would do: the plain law. -/
import Derived.Test.YteheklpenjjfaaaGreatOfKZ
import Derived.Test.YteheklpenjjfaaaGreatOfKVToKY
set_option linter.unusedSimpArgs false
set_option linter.unusedVariables false
set_option maxRecDepth 100000
set_option maxHeartbeats 2000000
namespace Go.Proofs.YteheklpenjjfaaaGreat
open Go.Ev

theorem sortC_le (l : List Cnt) : (sortC l).Pairwise (fun a b => a.pos ≤ b.pos) := by
 have := List.pairwise_mergeSort (le := fun a b : Cnt => decide (a.pos ≤ b.pos)) (fun a b d h1 h2 => by simp at *; omega) (fun a b => by simp; omega) l
 exact this.imp (fun h => by simpa using h)
theorem posN_sort {l : List Cnt} (h : PosN l) : PosN (sortC l) := by
 unfold PosN at h ⊢
 exact h.perm (List.mergeSort_perm l _).symm (fun e q => e q.symm)
/-- On board: ascending, each position once. -/
theorem abo_lt {c : List Cnt} (h : CtsOk c) (f : Flt) : ∀ i j, i < j → j < (aboV c f).length → ((aboV c f).getD i ct0).pos < ((aboV c f).getD j ct0).pos := by
 intro i j hij hj
 have h1 := (pw_getD ct0).1 (sortC_le (c.filter (onB f))) i j hij hj
 have h2 := (pw_getD ct0).1 (posN_sort (posN_of h f)) i j hij hj
 unfold aboV
 have h2 : ¬ _ := h2
 omega
theorem abo_last {c : List Cnt} {f : Flt} {x : Cnt} (hx : x ∈ aboV c f) : x.pos ≤ (lastV (aboV c f)).pos := by
 obtain ⟨i, hi, rfl⟩ := getD_ct hx
 by_cases e : i = (aboV c f).length - 1
 · rw [e]; exact Int.le_refl _
 · exact (pw_getD ct0).1 (sortC_le (c.filter (onB f))) i ((aboV c f).length - 1) (by omega) (by show (aboV c f).length - 1 < (aboV c f).length; omega)
/-- A number belongs to one container. -/
theorem num_inj {c : List Cnt} (h : CtsOk c) {i j : Nat} (hi : i < c.length) (hj : j < c.length) (e : (c.getD i ct0).num = (c.getD j ct0).num) : i = j := by
 have hp := (pw_getD ct0).1 h.num
 rcases Nat.lt_trichotomy i j with q | q | q
 · have := hp i j q hj; omega
 · exact q
 · have := hp j i q hi; omega
/-- What has to be taken off, from the top to the first one that is wanted. -/
structure OrdS (c : List Cnt) (f : Flt) (t : List Tsk) (O : List Int) (d : Nat) : Prop where
 le : d ≤ (aboV c f).length
 len : O.length = (aboV c f).length - d
 at_ : ∀ i, i < O.length → O.getD i 0 = ((aboV c f).getD ((aboV c f).length - 1 - i) ct0).num
 hit : d < (aboV c f).length → hitV t ((aboV c f).getD d ct0) = true
/-- Behind some containers that were taken off: the one that stays is where it was. -/
def FwI (c : List Cnt) (O : List Int) (k : Nat) (x : List Cnt) : Prop := x.length = c.length ∧ ∀ j, j < c.length → (x.getD j ct0).num = (c.getD j ct0).num ∧ (x.getD j ct0).flt = (c.getD j ct0).flt ∧ ((x.getD j ct0).pos = (c.getD j ct0).pos ∨ (x.getD j ct0).pos = 0) ∧ ((c.getD j ct0).num = O.getD k 0 → (x.getD j ct0).pos = (c.getD j ct0).pos)
theorem FwI.zero (c : List Cnt) (O : List Int) (k : Nat) : FwI c O k c := ⟨rfl, fun j _ => ⟨rfl, rfl, .inl rfl, fun _ => rfl⟩⟩
/-- What a container that could be taken off says. -/
theorem off_ok {x : List Cnt} {n : Int} (h : (offV x n).2 = 0) : checkV x = 0 ∧ ∃ i : Nat, i < x.length ∧ (x.getD i ct0).num = n ∧ (x.getD i ct0).pos ≠ 0 ∧ (lastV (aboV x (x.getD i ct0).flt)).num = n ∧ (offV x n).1 = x.set i (setPos (x.getD i ct0) 0) := by
 unfold offV at h ⊢
 by_cases h1 : checkV x ≠ 0
 · rw [if_pos h1] at h; exact absurd h h1
 · rw [if_neg h1] at h ⊢
   by_cases h2 : numIdx x n < 0
   · rw [if_pos h2] at h; exact absurd h (by decide)
   · rw [if_neg h2] at h ⊢
     by_cases h3 : (x.getD (numIdx x n).toNat ct0).pos = 0
     · rw [if_pos h3] at h; exact absurd h (by decide)
     · rw [if_neg h3] at h ⊢
       by_cases h4 : (lastV (aboV x (x.getD (numIdx x n).toNat ct0).flt)).num ≠ n
       · rw [if_pos h4] at h; exact absurd h (by decide)
       · rw [if_neg h4]
         obtain ⟨g1, g2, _⟩ := idxV_spec (d := ct0) (p := fun (y : Cnt) => decide (y.num = n)) (l := x) (by unfold numIdx at h2; omega)
         exact ⟨by omega, (numIdx x n).toNat, g1, of_decide_eq_true g2, h3, by simpa using h4, rfl⟩
theorem set_getC {l : List Cnt} {i j : Nat} {v : Cnt} (hi : i < l.length) : (l.set i v).getD j ct0 = if i = j then v else l.getD j ct0 := by
 rw [List.getD_eq_getElem?_getD, List.getElem?_set]
 by_cases e : i = j
 · rw [if_pos e, if_pos (by omega), if_pos e]; rfl
 · rw [if_neg e, if_neg e, List.getD_eq_getElem?_getD]
theorem FwI.off {c x : List Cnt} {O : List Int} {k i : Nat} (h : FwI c O k x) (hn : O.getD i 0 ≠ O.getD k 0) (ho : (offV x (O.getD i 0)).2 = 0) : FwI c O k (offV x (O.getD i 0)).1 := by
 obtain ⟨h1, h2⟩ := h
 obtain ⟨_, j, j1, j2, _, _, j5⟩ := off_ok ho
 rw [j5]
 refine ⟨by rw [List.length_set]; exact h1, fun q hq => ?_⟩
 rw [set_getC j1]
 obtain ⟨g1, g2, g3, g4⟩ := h2 q hq
 by_cases e : j = q
 · subst e
   rw [if_pos rfl]
   refine ⟨g1, g2, .inr rfl, fun e => ?_⟩
   exact absurd (by rw [← j2, g1, e]) hn
 · rw [if_neg e]; exact ⟨g1, g2, g3, g4⟩
theorem ord_mem {c : List Cnt} {f : Flt} {t : List Tsk} {O : List Int} {d : Nat} (h : OrdS c f t O d) {i : Nat} (hi : i < O.length) : ∃ j, j < c.length ∧ c.getD j ct0 = (aboV c f).getD ((aboV c f).length - 1 - i) ct0 ∧ (c.getD j ct0).num = O.getD i 0 ∧ (c.getD j ct0).flt = f ∧ (c.getD j ct0).pos ≠ 0 := by
 have hl := h.len
 have hm : (aboV c f).getD ((aboV c f).length - 1 - i) ct0 ∈ aboV c f := getD_mem (by omega)
 obtain ⟨m1, m2, m3⟩ := aboV_mem.1 hm
 obtain ⟨j, hj, e⟩ := getD_ct m1
 exact ⟨j, hj, e, by rw [h.at_ i hi, e], by rw [e]; exact m2, by rw [e]; exact m3⟩
theorem ord_inj {c : List Cnt} (hC : CtsOk c) {f : Flt} {t : List Tsk} {O : List Int} {d : Nat} (h : OrdS c f t O d) {i k : Nat} (hi : i < O.length) (hk : k < O.length) (hne : i ≠ k) : O.getD i 0 ≠ O.getD k 0 := by
 intro e
 have hl := h.len
 obtain ⟨j, j1, j2, j3, _, _⟩ := ord_mem h hi
 obtain ⟨q, q1, q2, q3, _, _⟩ := ord_mem h hk
 have := num_inj hC j1 q1 (by rw [j3, q3, e])
 subst this
 rw [j2] at q2
 have q2 := congrArg Cnt.pos q2
 rcases Nat.lt_or_ge i k with g | g
 · have := abo_lt hC f ((aboV c f).length - 1 - k) ((aboV c f).length - 1 - i) (by omega) (by omega)
   omega
 · have := abo_lt hC f ((aboV c f).length - 1 - i) ((aboV c f).length - 1 - k) (by omega) (by omega)
   omega
end Go.Proofs.YteheklpenjjfaaaGreat

/- Containers taken off and put on again: the plain law. -/
set_option linter.unusedSimpArgs false
set_option linter.unusedVariables false
set_option maxRecDepth 100000
set_option maxHeartbeats 2000000
namespace Go.Proofs.YteheklpenjjfaaaGreat
open Go.Ev

/-- The containers at other positions. -/
def XS (c x : List Cnt) (P : Nat → Int) : Prop := x.length = c.length ∧ ∀ j, j < c.length → x.getD j ct0 = setPos (c.getD j ct0) (P j)
theorem XS.congr {c x : List Cnt} {P Q : Nat → Int} (h : XS c x P) (e : ∀ j, j < c.length → P j = Q j) : XS c x Q := ⟨h.1, fun j hj => by rw [h.2 j hj, e j hj]⟩
/-- Positions that may be. -/
structure PosOk (c : List Cnt) (P : Nat → Int) : Prop where
 bd : ∀ j, j < c.length → 0 ≤ P j ∧ P j ≤ 24
 ap : ∀ i j, i < c.length → j < c.length → i ≠ j → P j ≠ 0 → P i = P j → (c.getD i ct0).flt ≠ (c.getD j ct0).flt
theorem xs_ok {c x : List Cnt} {P : Nat → Int} (hC : CtsOk c) (hx : XS c x P) (hP : PosOk c P) : CtsOk x := by
 obtain ⟨h1, h2⟩ := hx
 have hn := (pw_getD ct0).1 hC.num
 have hpl := (pw_getD ct0).1 hC.pl
 refine ⟨by rw [h1]; exact hC.len, fun o ho => ?_, (pw_getD ct0).2 fun i j hij hj => ?_, (pw_getD ct0).2 fun i j hij hj => ?_, (pw_getD ct0).2 fun i j hij hj => ?_⟩
 · obtain ⟨j, hj, rfl⟩ := getD_ct ho
   rw [h1] at hj
   obtain ⟨g1, g2, g3⟩ := hC.ok _ (getD_mem (d := ct0) hj)
   obtain ⟨b1, b2⟩ := hP.bd j hj
   rw [h2 j hj]
   refine ⟨?_, g2, g3⟩
   unfold propC inV at g1 ⊢
   simp only [Bool.and_eq_true, decide_eq_true_eq] at g1 ⊢
   exact ⟨⟨⟨⟨⟨⟨g1.1.1.1.1.1.1, g1.1.1.1.1.1.2⟩, g1.1.1.1.1.2⟩, g1.1.1.1.2⟩, g1.1.1.2⟩, ⟨b1, b2⟩⟩, g1.2⟩
 · rw [h2 i (by omega), h2 j (by omega)]; exact hn i j hij (by omega)
 · rw [h2 i (by omega), h2 j (by omega)]
   intro q1 q2
   exact hP.ap i j (by omega) (by omega) (by omega) q1 q2
 · rw [h2 i (by omega), h2 j (by omega)]; exact hpl i j hij (by omega)
theorem xs_idx {c x : List Cnt} {P : Nat → Int} (hC : CtsOk c) (hx : XS c x P) {j : Nat} (hj : j < c.length) : numIdx x (c.getD j ct0).num = j := by
 obtain ⟨h1, h2⟩ := hx
 refine idxV_at (d := ct0) (fun k hk => ?_) (by omega) ?_
 · show decide ((x.getD k ct0).num = _) = false
   rw [h2 k (by omega)]
   refine decide_eq_false fun e => ?_
   have := num_inj hC (by omega) hj e
   omega
 · show decide ((x.getD j ct0).num = _) = true
   rw [h2 j hj]; exact decide_eq_true rfl
theorem xs_last {c x : List Cnt} {P : Nat → Int} (hC : CtsOk c) (hx : XS c x P) (hP : PosOk c P) {j : Nat} (hj : j < c.length) (h0 : P j ≠ 0) (hmax : ∀ i, i < c.length → (c.getD i ct0).flt = (c.getD j ct0).flt → P i ≤ P j) : 0 < (aboV x (c.getD j ct0).flt).length ∧ lastV (aboV x (c.getD j ct0).flt) = x.getD j ct0 := by
 have hx0 := hx
 obtain ⟨h1, h2⟩ := hx
 have hm : x.getD j ct0 ∈ aboV x (c.getD j ct0).flt := aboV_mem.2 ⟨getD_mem (by omega), by rw [h2 j hj]; rfl, by rw [h2 j hj]; exact h0⟩
 have hl : 0 < (aboV x (c.getD j ct0).flt).length := List.length_pos_of_mem hm
 refine ⟨hl, ?_⟩
 have hlm : lastV (aboV x (c.getD j ct0).flt) ∈ aboV x (c.getD j ct0).flt := getD_mem (by omega)
 obtain ⟨m1, m2, m3⟩ := aboV_mem.1 hlm
 obtain ⟨i, hi, e⟩ := getD_ct m1
 have hle := abo_last hm
 rw [← e] at m2 m3 hle ⊢
 rw [h2 i (by omega)] at m2 m3 hle
 rw [h2 j hj] at hle
 have m2 : (c.getD i ct0).flt = (c.getD j ct0).flt := m2
 have hle : P j ≤ P i := hle
 have := hmax i (by omega) m2
 by_cases q : i = j
 · rw [q]
 · exact absurd m2 (hP.ap i j (by omega) hj q h0 (by omega))
def updP (P : Nat → Int) (j : Nat) (v : Int) : Nat → Int := fun i => if i = j then v else P i
theorem xs_set {c x : List Cnt} {P : Nat → Int} (hx : XS c x P) {j : Nat} (hj : j < c.length) (v : Int) : XS c (x.set j (setPos (x.getD j ct0) v)) (updP P j v) := by
 obtain ⟨h1, h2⟩ := hx
 refine ⟨by rw [List.length_set]; exact h1, fun i hi => ?_⟩
 rw [set_getC (by omega)]
 unfold updP
 by_cases e : j = i
 · subst e
   rw [if_pos rfl, if_pos rfl, h2 j hj]; rfl
 · rw [if_neg e, if_neg (fun q => e q.symm), h2 i hi]
theorem xs_off {c x : List Cnt} {P : Nat → Int} (hC : CtsOk c) (hx : XS c x P) (hP : PosOk c P) {j : Nat} (hj : j < c.length) (h0 : P j ≠ 0) (hmax : ∀ i, i < c.length → (c.getD i ct0).flt = (c.getD j ct0).flt → P i ≤ P j) :
 (offV x (c.getD j ct0).num).2 = 0 ∧ XS c (offV x (c.getD j ct0).num).1 (updP P j 0) := by
 have hck := checkV_iff.2 (xs_ok hC hx hP)
 have hid := xs_idx hC hx hj
 obtain ⟨_, hla⟩ := xs_last hC hx hP hj h0 hmax
 have hxj := hx.2 j hj
 have hfl : (x.getD j ct0).flt = (c.getD j ct0).flt := by rw [hxj]; rfl
 have hnu : (x.getD j ct0).num = (c.getD j ct0).num := by rw [hxj]; rfl
 have hpo : (x.getD j ct0).pos = P j := by rw [hxj]; rfl
 have e : offV x (c.getD j ct0).num = (x.set j (setPos (x.getD j ct0) 0), 0) := by
  unfold offV
  rw [if_neg (by omega), hid, if_neg (by omega), show ((j : Int)).toNat = j by omega, if_neg (by rw [hpo]; exact h0), hfl, hla, if_neg (by rw [hnu]; simp)]
 rw [e]
 exact ⟨rfl, xs_set hx hj 0⟩
theorem xs_on {c x : List Cnt} {P : Nat → Int} (hC : CtsOk c) (hx : XS c x P) (hP : PosOk c P) {j : Nat} (hj : j < c.length) (h0 : P j = 0) {M : Int} (hM0 : 0 ≤ M) (hM : M + 1 ≤ 24) (hmax : ∀ i, i < c.length → (c.getD i ct0).flt = (c.getD j ct0).flt → P i ≤ M)
 (hex : M = 0 ∨ ∃ i, i < c.length ∧ (c.getD i ct0).flt = (c.getD j ct0).flt ∧ P i = M) : (onV x (c.getD j ct0).num).2 = 0 ∧ XS c (onV x (c.getD j ct0).num).1 (updP P j (M + 1)) := by
 have hck := checkV_iff.2 (xs_ok hC hx hP)
 have hid := xs_idx hC hx hj
 have hxj := hx.2 j hj
 have hfl : (x.getD j ct0).flt = (c.getD j ct0).flt := by rw [hxj]; rfl
 have hpo : (x.getD j ct0).pos = P j := by rw [hxj]; rfl
 have hnx : nextP x (c.getD j ct0).flt = M + 1 := by
  unfold nextP
  by_cases hz : M = 0
  · have hemp : ¬ 0 < (aboV x (c.getD j ct0).flt).length := fun q => by
     have hlm : lastV (aboV x (c.getD j ct0).flt) ∈ aboV x (c.getD j ct0).flt := getD_mem (by omega)
     obtain ⟨m1, m2, m3⟩ := aboV_mem.1 hlm
     obtain ⟨i, hi, e⟩ := getD_ct m1
     have hi2 : i < c.length := by rw [← hx.1]; exact hi
     rw [← e, hx.2 i hi2] at m2 m3
     have m3 : P i ≠ 0 := m3
     have := hmax i hi2 m2
     have := (hP.bd i hi2).1
     omega
    rw [if_neg hemp]; omega
  · rcases hex with h | ⟨i, i1, i2, i3⟩
    · exact absurd h hz
    · obtain ⟨l1, l2⟩ := xs_last hC hx hP i1 (by omega) (fun k hk hf => by rw [i3]; exact hmax k hk (hf.trans i2))
      rw [i2] at l1 l2
      rw [if_pos l1, l2, hx.2 i i1]
      show 1 + P i = M + 1
      omega
 have e : onV x (c.getD j ct0).num = (x.set j (setPos (x.getD j ct0) (M + 1)), 0) := by
  unfold onV
  rw [if_neg (by omega), hid, if_neg (by omega), show ((j : Int)).toNat = j by omega, if_neg (by rw [hpo]; simpa using h0), hfl, hnx, if_neg (by omega)]
 rw [e]
 exact ⟨rfl, xs_set hx hj (M + 1)⟩
theorem drop_of2 {p : Cnt → Bool} : ∀ (l : List Cnt), ∃ d, d ≤ l.length ∧ l.dropWhile p = l.drop d ∧ (∀ x, (l.drop d).head? = some x → p x = false) ∧ ∀ r, r < d → p (l.getD r ct0) = true
 | [] => ⟨0, Nat.le_refl _, rfl, fun x h => (by cases h), fun r h => absurd h (Nat.not_lt_zero _)⟩
 | a :: l => by
   by_cases h : p a = true
   · obtain ⟨d, h1, h2, h3, h4⟩ := drop_of2 (p := p) l
     refine ⟨d + 1, Nat.succ_le_succ h1, by rw [List.dropWhile_cons_of_pos h]; exact h2, h3, fun r hr => ?_⟩
     cases r with
     | zero => exact h
     | succ r => rw [List.getD_cons_succ]; exact h4 r (by omega)
   · refine ⟨0, Nat.zero_le _, by rw [List.dropWhile_cons_of_neg h]; rfl, fun x hx => ?_, fun r h => absurd h (Nat.not_lt_zero _)⟩
     cases hx
     simpa using h
theorem ordS2 (c : List Cnt) (f : Flt) (t : List Tsk) : ∃ d, OrdS c f t (orderL (aboV c f) t) d ∧ ∀ r, r < d → hitV t ((aboV c f).getD r ct0) = false := by
 obtain ⟨d, h1, h2, h3, h4⟩ := drop_of2 (p := fun x => !hitV t x) (aboV c f)
 have hO : orderL (aboV c f) t = (((aboV c f).drop d).map (fun x => x.num)).reverse := by unfold orderL; rw [h2]
 have hl : (orderL (aboV c f) t).length = (aboV c f).length - d := by rw [hO, List.length_reverse, List.length_map, List.length_drop]
 refine ⟨d, ⟨h1, hl, fun i hi => ?_, fun hd => ?_⟩, fun r hr => by simpa using h4 r hr⟩
 · rw [hl] at hi
   rw [hO, List.getD_eq_getElem?_getD, List.getElem?_reverse (by rw [List.length_map, List.length_drop]; exact hi), List.length_map, List.length_drop, List.getElem?_map, List.getElem?_drop, show d + ((aboV c f).length - d - 1 - i) = (aboV c f).length - 1 - i by omega, List.getElem?_eq_getElem (by omega), getD_lt (by omega)]
   rfl
 · have := h3 ((aboV c f).getD d ct0) (by rw [List.head?_drop, List.getElem?_eq_getElem hd, getD_lt hd])
   simpa using this
/-- Where a number stands in the order. -/
def qV (O : List Int) (n : Int) : Int := idxV (fun y => decide (y = n)) O
section
variable {c : List Cnt} {f : Flt} {t : List Tsk} {O : List Int} {d : Nat}
theorem q_at (hC : CtsOk c) (h : OrdS c f t O d) {q : Nat} (hq : q < O.length) : qV O (O.getD q 0) = q :=
 idxV_at (d := (0 : Int)) (fun k hk => decide_eq_false (ord_inj hC h (by omega) hq (by omega))) hq (decide_eq_true rfl)
theorem q_cases (hC : CtsOk c) (h : OrdS c f t O d) {j : Nat} (hj : j < c.length) :
 (qV O (c.getD j ct0).num = -1 ∧ ((c.getD j ct0).flt = f → (c.getD j ct0).pos ≠ 0 → ∃ r, r < d ∧ c.getD j ct0 = (aboV c f).getD r ct0)) ∨ (∃ q : Nat, q < O.length ∧ qV O (c.getD j ct0).num = q ∧ c.getD j ct0 = (aboV c f).getD ((aboV c f).length - 1 - q) ct0) := by
 have hlt := idxV_lt (fun y => decide (y = (c.getD j ct0).num)) O
 by_cases h0 : 0 ≤ qV O (c.getD j ct0).num
 · obtain ⟨g1, g2, _⟩ := idxV_spec (d := (0 : Int)) (p := fun y => decide (y = (c.getD j ct0).num)) (l := O) h0
   have g2 := of_decide_eq_true g2
   obtain ⟨i, i1, i2, i3, _, _⟩ := ord_mem h g1
   have : i = j := num_inj hC i1 hj (by rw [i3, g2])
   subst this
   exact .inr ⟨_, g1, (by show _ = ((qV O (c.getD i ct0).num).toNat : Int); omega), i2⟩
 · refine .inl ⟨by have : -1 ≤ qV O (c.getD j ct0).num := hlt.1; omega, fun hf hp => ?_⟩
   have hm : c.getD j ct0 ∈ aboV c f := aboV_mem.2 ⟨getD_mem hj, hf, hp⟩
   obtain ⟨r, hr, e⟩ := getD_ct hm
   refine ⟨r, ?_, e.symm⟩
   apply Classical.byContradiction
   intro hn
   have hl := h.len
   have hle := h.le
   have hq : (aboV c f).length - 1 - r < O.length := by omega
   have := h.at_ _ hq
   rw [show (aboV c f).length - 1 - ((aboV c f).length - 1 - r) = r by omega, e] at this
   have hz := idxV_neg (p := fun y => decide (y = (c.getD j ct0).num)) (l := O) (by unfold qV at h0; omega) _ (getD_mem (d := (0 : Int)) hq)
   exact of_decide_eq_false hz this
/-- The top of what stays. -/
def bB (c : List Cnt) (f : Flt) (d : Nat) : Int := if d = 0 then 0 else ((aboV c f).getD (d - 1) ct0).pos
theorem abo_pos (hC : CtsOk c) {r : Nat} (hr : r < (aboV c f).length) : 0 < ((aboV c f).getD r ct0).pos ∧ ((aboV c f).getD r ct0).pos ≤ 24 ∧ ((aboV c f).getD r ct0).flt = f := by
 obtain ⟨m1, m2, m3⟩ := aboV_mem.1 (getD_mem (d := ct0) hr)
 have := (hC.ok _ m1).1
 unfold propC inV at this
 simp only [Bool.and_eq_true, decide_eq_true_eq] at this
 exact ⟨by omega, by omega, m2⟩
theorem bB_nn (hC : CtsOk c) (h : OrdS c f t O d) : 0 ≤ bB c f d := by
 unfold bB
 split
 · omega
 · have := (abo_pos (f := f) hC (r := d - 1) (by have := h.le; omega)).1; omega
theorem bB_le (hC : CtsOk c) (h : OrdS c f t O d) {r : Nat} (hr : r < d) : ((aboV c f).getD r ct0).pos ≤ bB c f d := by
 have hle := h.le
 unfold bB
 rw [if_neg (by omega)]
 by_cases e : r = d - 1
 · rw [e]; exact Int.le_refl _
 · have := abo_lt hC f r (d - 1) (by omega) (by omega); omega
theorem bB_up (hC : CtsOk c) (h : OrdS c f t O d) : ∀ m, d + m < (aboV c f).length → bB c f d + m + 1 ≤ ((aboV c f).getD (d + m) ct0).pos
 | 0, hm => by
   have h1 := abo_pos (f := f) hC hm
   unfold bB
   split
   · have := h1.1; simp only [Nat.add_zero] at *; omega
   · have := abo_lt hC f (d - 1) d (by omega) (by simpa using hm)
     simp only [Nat.add_zero]; omega
 | m + 1, hm => by
   have h1 := bB_up hC h m (by omega)
   have := abo_lt hC f (d + m) (d + (m + 1)) (by omega) hm
   omega
/-- Positions while containers are taken off; while they are put on again. -/
def PO (O : List Int) (c : List Cnt) (i : Nat) : Nat → Int := fun j => if 0 ≤ qV O (c.getD j ct0).num ∧ qV O (c.getD j ct0).num < i then 0 else (c.getD j ct0).pos
def PN (O : List Int) (c : List Cnt) (B : Int) (i : Nat) : Nat → Int := fun j => if qV O (c.getD j ct0).num < 0 then (c.getD j ct0).pos else if qV O (c.getD j ct0).num < i then 0 else B + (O.length - qV O (c.getD j ct0).num)
theorem pos_bd (hC : CtsOk c) {j : Nat} (hj : j < c.length) : 0 ≤ (c.getD j ct0).pos ∧ (c.getD j ct0).pos ≤ 24 := by
 have := (hC.ok _ (getD_mem (d := ct0) hj)).1
 unfold propC inV at this
 simp only [Bool.and_eq_true, decide_eq_true_eq] at this
 omega
theorem pos_ap (hC : CtsOk c) {i j : Nat} (hi : i < c.length) (hj : j < c.length) (hne : i ≠ j) (h0 : (c.getD j ct0).pos ≠ 0) (e : (c.getD i ct0).pos = (c.getD j ct0).pos) : (c.getD i ct0).flt ≠ (c.getD j ct0).flt := by
 have hp := (pw_getD ct0).1 hC.pos
 rcases Nat.lt_or_ge i j with q | q
 · exact hp i j q hj h0 e
 · exact fun k => hp j i (by omega) hi (by rw [e]; exact h0) e.symm k.symm
theorem xs_zero (c : List Cnt) (O : List Int) : XS c c (PO O c 0) := ⟨rfl, fun j hj => by
 unfold PO
 rw [if_neg (by omega)]
 rfl⟩
theorem po_ok (hC : CtsOk c) (i : Nat) : PosOk c (PO O c i) := by
 refine ⟨fun j hj => ?_, fun a b ha hb hne h0 e => ?_⟩
 · unfold PO
   split
   · omega
   · exact pos_bd hC hj
 · unfold PO at h0 e
   by_cases q : 0 ≤ qV O (c.getD b ct0).num ∧ qV O (c.getD b ct0).num < i
   · rw [if_pos q] at h0; exact absurd rfl h0
   · rw [if_neg q] at h0 e
     by_cases q2 : 0 ≤ qV O (c.getD a ct0).num ∧ qV O (c.getD a ct0).num < i
     · rw [if_pos q2] at e; exact absurd e.symm h0
     · rw [if_neg q2] at e
       exact pos_ap hC ha hb hne h0 e
theorem q_pos (hC : CtsOk c) (h : OrdS c f t O d) {q : Nat} (hq : q < O.length) : bB c f d + (O.length - q : Nat) ≤ ((aboV c f).getD ((aboV c f).length - 1 - q) ct0).pos := by
 have hl := h.len
 have hle := h.le
 have := bB_up hC h ((aboV c f).length - 1 - q - d) (by omega)
 rw [show d + ((aboV c f).length - 1 - q - d) = (aboV c f).length - 1 - q by omega] at this
 omega
/-- What a position is, all cases. -/
theorem pn_val (hC : CtsOk c) (h : OrdS c f t O d) (i : Nat) {j : Nat} (hj : j < c.length) :
 (qV O (c.getD j ct0).num = -1 ∧ PN O c (bB c f d) i j = (c.getD j ct0).pos ∧ ((c.getD j ct0).flt = f → (c.getD j ct0).pos ≤ bB c f d)) ∨
 (∃ q : Nat, q < O.length ∧ qV O (c.getD j ct0).num = q ∧ c.getD j ct0 = (aboV c f).getD ((aboV c f).length - 1 - q) ct0 ∧ (c.getD j ct0).flt = f ∧ PN O c (bB c f d) i j = if q < i then 0 else bB c f d + ((O.length : Int) - q)) := by
 have hB := bB_nn hC h
 rcases q_cases hC h hj with ⟨q1, q2⟩ | ⟨q, q1, q2, q3⟩
 · refine .inl ⟨q1, by unfold PN; rw [if_pos (by omega)], fun hf => ?_⟩
   by_cases hp : (c.getD j ct0).pos = 0
   · omega
   · obtain ⟨r, hr, e⟩ := q2 hf hp
     rw [e]; exact bB_le hC h hr
 · refine .inr ⟨q, q1, q2, q3, ?_, ?_⟩
   · rw [q3]; exact (abo_pos hC (by have := h.len; have := h.le; omega)).2.2
   · unfold PN
     rw [q2, if_neg (by omega)]
     by_cases e : q < i
     · rw [if_pos (by omega), if_pos e]
     · rw [if_neg (by omega), if_neg e]
theorem pn_ok (hC : CtsOk c) (h : OrdS c f t O d) (i : Nat) : PosOk c (PN O c (bB c f d) i) := by
 have hB := bB_nn hC h
 have hl := h.len
 have hle := h.le
 refine ⟨fun j hj => ?_, fun a b ha hb hne h0 e => ?_⟩
 · rcases pn_val hC h i hj with ⟨_, q2, _⟩ | ⟨q, q1, q2, q3, q4, q5⟩
   · rw [q2]; exact pos_bd hC hj
   · rw [q5]
     have h1 := q_pos hC h q1
     have h2 := (abo_pos (f := f) hC (r := (aboV c f).length - 1 - q) (by omega)).2.1
     split <;> omega
 · rcases pn_val hC h i ha with ⟨a1, a2, a3⟩ | ⟨qa, a1, a2, a3, a4, a5⟩ <;> rcases pn_val hC h i hb with ⟨b1, b2, b3⟩ | ⟨qb, b1, b2, b3, b4, b5⟩
   · rw [b2] at h0 e; rw [a2] at e
     exact pos_ap hC ha hb hne h0 e
   · intro ef
     rw [b5] at h0 e; rw [a2] at e
     have := a3 (by rw [ef, b4])
     split at h0
     · exact h0 rfl
     · split at e <;> omega
   · intro ef
     rw [b2] at h0 e; rw [a5] at e
     have := b3 (by rw [← ef, a4])
     split at e <;> omega
   · intro _
     rw [b5] at h0 e; rw [a5] at e
     have : qa = qb := by
      split at h0
      · exact absurd rfl h0
      · split at e <;> omega
     subst this
     rw [← b3] at a3
     exact hne (num_inj hC ha hb (by rw [a3]))
/-- A container is taken off. -/
theorem off_step (hC : CtsOk c) (h : OrdS c f t O d) {x : List Cnt} {i : Nat} (hi : i < O.length) (hx : XS c x (PO O c i)) : (offV x (O.getD i 0)).2 = 0 ∧ XS c (offV x (O.getD i 0)).1 (PO O c (i + 1)) := by
 have hl := h.len
 have hle := h.le
 obtain ⟨j, j1, j2, j3, j4, j5⟩ := ord_mem h hi
 have hqj : qV O (c.getD j ct0).num = i := by rw [j3]; exact q_at hC h hi
 have hPj : PO O c i j = (c.getD j ct0).pos := by unfold PO; rw [hqj, if_neg (by omega)]
 rw [← j3]
 obtain ⟨g1, g2⟩ := xs_off hC hx (po_ok hC i) j1 (by rw [hPj]; exact j5) (fun k hk hf => by
  rw [hPj]
  have hb := pos_bd hC j1
  rcases q_cases hC h hk with ⟨q1, q2⟩ | ⟨q, q1, q2, q3⟩
  · unfold PO
    rw [q1, if_neg (by omega)]
    by_cases hp : (c.getD k ct0).pos = 0
    · omega
    · obtain ⟨r, hr, e⟩ := q2 (hf.trans j4) hp
      rw [e, j2]
      have := abo_lt hC f r ((aboV c f).length - 1 - i) (by omega) (by omega); omega
  · unfold PO
    rw [q2]
    by_cases e : q < i
    · rw [if_pos (by omega)]; omega
    · rw [if_neg (by omega), q3, j2]
      by_cases e2 : q = i
      · rw [e2]; exact Int.le_refl _
      · have := abo_lt hC f ((aboV c f).length - 1 - q) ((aboV c f).length - 1 - i) (by omega) (by omega); omega)
 refine ⟨g1, g2.congr fun k hk => ?_⟩
 unfold updP
 by_cases e : k = j
 · subst e
   rw [if_pos rfl]; unfold PO; rw [hqj, if_pos (by omega)]
 · rw [if_neg e]
   rcases q_cases hC h hk with ⟨q1, _⟩ | ⟨q, q1, q2, q3⟩
   · unfold PO; rw [q1, if_neg (by omega), if_neg (by omega)]
   · have hne : q ≠ i := fun e2 => by
      subst e2
      exact e (num_inj hC hk j1 (by rw [q3, j2]))
     unfold PO
     rw [q2]
     by_cases e2 : q < i
     · rw [if_pos (by omega), if_pos (by omega)]
     · rw [if_neg (by omega), if_neg (by omega)]
theorem on_start (hC : CtsOk c) (h : OrdS c f t O d) {x : List Cnt} (hx : XS c x (PO O c O.length)) : XS c x (PN O c (bB c f d) O.length) := hx.congr fun j hj => by
 rcases q_cases hC h hj with ⟨q1, _⟩ | ⟨q, q1, q2, _⟩
 · unfold PO PN; rw [q1, if_neg (by omega), if_pos (by omega)]
 · unfold PO PN; rw [q2, if_pos (by omega), if_neg (by omega), if_pos (by omega)]
/-- A container is put on board again. -/
theorem on_step (hC : CtsOk c) (h : OrdS c f t O d) {x : List Cnt} {i : Nat} (hi : i < O.length) (hx : XS c x (PN O c (bB c f d) (i + 1))) : (onV x (O.getD i 0)).2 = 0 ∧ XS c (onV x (O.getD i 0)).1 (PN O c (bB c f d) i) := by
 have hl := h.len
 have hle := h.le
 have hB := bB_nn hC h
 obtain ⟨j, j1, j2, j3, j4, j5⟩ := ord_mem h hi
 have hqj : qV O (c.getD j ct0).num = i := by rw [j3]; exact q_at hC h hi
 have hPj : PN O c (bB c f d) (i + 1) j = 0 := by unfold PN; rw [hqj, if_neg (by omega), if_pos (by omega)]
 have hup := q_pos hC h hi
 have h24 := (abo_pos (f := f) hC (r := (aboV c f).length - 1 - i) (by omega)).2.1
 rw [← j3]
 obtain ⟨g1, g2⟩ := xs_on hC hx (pn_ok hC h (i + 1)) j1 hPj (M := bB c f d + ((O.length : Int) - (i + 1 : Nat))) (by omega) (by omega) (fun k hk hf => by
  rcases pn_val hC h (i + 1) hk with ⟨_, q2, q3⟩ | ⟨q, q1, q2, q3, q4, q5⟩
  · rw [q2]; have := q3 (hf.trans j4); omega
  · rw [q5]; split <;> omega) (by
  by_cases hlast : i + 1 < O.length
  · right
    obtain ⟨k, k1, k2, k3, k4, k5⟩ := ord_mem h hlast
    refine ⟨k, k1, k4.trans j4.symm, ?_⟩
    have hqk : qV O (c.getD k ct0).num = (i + 1 : Nat) := by rw [k3]; exact q_at hC h hlast
    unfold PN
    rw [hqk, if_neg (by omega), if_neg (by omega)]
  · by_cases hd : d = 0
    · left
      unfold bB; rw [if_pos hd]; omega
    · right
      have hm := aboV_mem.1 (getD_mem (d := ct0) (l := aboV c f) (i := d - 1) (by omega))
      obtain ⟨k, k1, k2⟩ := getD_ct hm.1
      refine ⟨k, k1, by rw [k2, j4]; exact hm.2.1, ?_⟩
      have hbd : bB c f d = (c.getD k ct0).pos := by unfold bB; rw [if_neg hd, k2]
      rcases pn_val hC h (i + 1) k1 with ⟨_, q2, _⟩ | ⟨q, q1, q2, q3, q4, q5⟩
      · rw [q2]; omega
      · exfalso
        have := abo_lt hC f (d - 1) ((aboV c f).length - 1 - q) (by omega) (by omega)
        rw [← q3, k2] at this
        omega)
 refine ⟨g1, g2.congr fun k hk => ?_⟩
 unfold updP
 by_cases e : k = j
 · subst e
   rw [if_pos rfl]; unfold PN; rw [hqj, if_neg (by omega), if_neg (by omega)]; omega
 · rw [if_neg e]
   rcases q_cases hC h hk with ⟨q1, _⟩ | ⟨q, q1, q2, q3⟩
   · unfold PN; rw [q1, if_pos (by omega), if_pos (by omega)]
   · have hne : q ≠ i := fun e2 => by
      subst e2
      exact e (num_inj hC hk j1 (by rw [q3, j2]))
     have n0 : ¬ ((q : Int) < 0) := by omega
     unfold PN
     rw [q2]
     simp only [if_neg n0]
     by_cases e2 : q < i
     · rw [if_pos (by omega), if_pos (by omega)]
     · rw [if_neg (by omega), if_neg (by omega)]
/-- The order is as it was. -/
theorem pn_mono (hC : CtsOk c) (h : OrdS c f t O d) {i k : Nat} (hi : i < c.length) (hk : k < c.length) (fi : (c.getD i ct0).flt = f) (fk : (c.getD k ct0).flt = f) : decide ((c.getD i ct0).pos < (c.getD k ct0).pos) = decide (PN O c (bB c f d) 0 i < PN O c (bB c f d) 0 k) := by
 have hl := h.len
 have hle := h.le
 rw [decide_eq_decide]
 rcases pn_val hC h 0 hi with ⟨a1, a2, a3⟩ | ⟨qa, a1, a2, a3, a4, a5⟩ <;> rcases pn_val hC h 0 hk with ⟨b1, b2, b3⟩ | ⟨qb, b1, b2, b3, b4, b5⟩
 · rw [a2, b2]
 · rw [a2, b5, if_neg (by omega)]
   have h1 := a3 fi
   have h2 := q_pos hC h b1
   rw [← b3] at h2
   constructor <;> intro _ <;> omega
 · rw [a5, b2, if_neg (by omega)]
   have h1 := b3 fk
   have h2 := q_pos hC h a1
   rw [← a3] at h2
   constructor <;> intro _ <;> omega
 · rw [a5, b5, if_neg (by omega), if_neg (by omega), a3, b3]
   rcases Nat.lt_trichotomy qa qb with g | g | g
   · have := abo_lt hC f ((aboV c f).length - 1 - qb) ((aboV c f).length - 1 - qa) (by omega) (by omega)
     constructor <;> intro _ <;> omega
   · subst g
     constructor <;> intro _ <;> omega
   · have := abo_lt hC f ((aboV c f).length - 1 - qa) ((aboV c f).length - 1 - qb) (by omega) (by omega)
     constructor <;> intro _ <;> omega
/-- Other flights are as they were; what was wanted is off. -/
theorem off_other (hC : CtsOk c) (h : OrdS c f t O d) {x : List Cnt} (hx : XS c x (PO O c O.length)) {j : Nat} (hj : j < c.length) (hf : (c.getD j ct0).flt ≠ f) : x.getD j ct0 = c.getD j ct0 := by
 rw [hx.2 j hj]
 rcases q_cases hC h hj with ⟨q1, _⟩ | ⟨q, q1, q2, q3⟩
 · unfold PO; rw [q1, if_neg (by omega)]; rfl
 · exact absurd (by rw [q3]; exact (abo_pos hC (by have := h.len; have := h.le; omega)).2.2) hf
theorem off_wanted (hC : CtsOk c) (h : OrdS c f t O d) (hn : ∀ r, r < d → hitV t ((aboV c f).getD r ct0) = false) {x : List Cnt} (hx : XS c x (PO O c O.length)) {j : Nat} (hj : j < c.length) (hf : (c.getD j ct0).flt = f) {u : Tsk} (hu : u ∈ t) (he : (c.getD j ct0).num = u.1) : (x.getD j ct0).pos = 0 := by
 rw [hx.2 j hj]
 show PO O c O.length j = 0
 rcases q_cases hC h hj with ⟨q1, q2⟩ | ⟨q, q1, q2, q3⟩
 · unfold PO; rw [q1, if_neg (by omega)]
   apply Classical.byContradiction
   intro hp
   obtain ⟨r, hr, e⟩ := q2 hf hp
   have := hn r hr
   rw [← e] at this
   have h2 : hitV t (c.getD j ct0) = true := List.any_eq_true.2 ⟨u, hu, decide_eq_true he.symm⟩
   rw [h2] at this
   cases this
 · unfold PO; rw [q2, if_pos (by omega)]
end
end Go.Proofs.YteheklpenjjfaaaGreat

/- The generator of containers. -/
set_option linter.unusedSimpArgs false
set_option linter.unusedVariables false
set_option maxRecDepth 100000
set_option maxHeartbeats 8000000
namespace Go.Proofs.YteheklpenjjfaaaGreat
open Go.Ev

attribute [local go_sem] List.set_cons_succ List.set_cons_zero List.getD_cons_succ List.getD_cons_zero List.set_nil
/-- What Containers gives. -/
structure CtsR (most n : Int) (l : List Cnt) : Prop where
 ok : CtsOk l
 len : (l.length : Int) ≤ most
 pl : ∀ c ∈ l, ∀ x ∈ c.pcs, ∃ j : Nat, (j : Int) < n ∧ x.1 = platesV j
 fl : ∀ c ∈ l, ∃ j : Nat, j < 3 ∧ c.flt = fltsV j
structure CtA (most k nm : Int) (xs : List Cnt) : Prop where
 len : (xs.length : Int) + k ≤ most
 n0 : 0 ≤ nm
 n1 : nm ≤ 2 * xs.length
 ok : ∀ c ∈ xs, propC c = true ∧ c.pcs = [] ∧ c.num ≤ nm ∧ ∃ j : Nat, j < 3 ∧ c.flt = fltsV j
 num : xs.Pairwise (fun a b => a.num < b.num)
 pos : ∀ i, i < xs.length → (xs.getD i ct0).pos = 0 ∨ (xs.getD i ct0).pos = i + 1
theorem CtA.push {most k nm : Int} {xs : List Cnt} (h : CtA most k nm xs) (hm : most ≤ 24) (hk : 0 < k) {v f c l m p r : Int} (hv : 1 ≤ v ∧ v ≤ 2) (hf : 0 ≤ f ∧ f < 3) (hc : 0 ≤ c ∧ c ≤ 31) (hl : 0 ≤ l ∧ l ≤ 20000) (hmo : 0 ≤ m ∧ m ≤ 60) (hp : p = 0 ∨ p = xs.length + 1) (hr : -50 ≤ r ∧ r ≤ 50) : CtA most (k - 1) (nm + v) (xs ++ [(nm + v, fltsV f, c, l, m, p, r, [])]) := by
 obtain ⟨il, in0, in1, iok, inum, ipos⟩ := h
 refine ⟨by simp; omega, by omega, by simp; omega, fun x hx => ?_, ?_, fun i hi => ?_⟩
 · rcases List.mem_append.1 hx with hx | hx
   · obtain ⟨h1, h2, h3, h4⟩ := iok x hx
     exact ⟨h1, h2, by omega, h4⟩
   · rw [List.mem_singleton.1 hx]
     refine ⟨?_, rfl, Int.le_refl _, f.toNat, by omega, by rw [show ((f.toNat : Nat) : Int) = f by omega]⟩
     unfold propC inV
     simp only [Cnt.num, Cnt.flt, Cnt.cats, Cnt.lim, Cnt.most, Cnt.pos, Cnt.arm, fltsV_ok, Bool.and_eq_true, decide_eq_true_eq, and_true]
     rcases hp with hp | hp <;> subst hp <;> omega
 · rw [List.pairwise_append]
   refine ⟨inum, List.pairwise_singleton _ _, fun x hx y hy => ?_⟩
   rw [List.mem_singleton.1 hy]
   have := (iok x hx).2.2.1
   show x.num < nm + v
   omega
 · by_cases e : i < xs.length
   · have := ipos i e
     rw [List.getD_eq_getElem?_getD, List.getElem?_append_left e, ← List.getD_eq_getElem?_getD]; exact this
   · have e : i = xs.length := by simp at hi; omega
     subst e
     rw [List.getD_eq_getElem?_getD, List.getElem?_append_right (Nat.le_refl _), Nat.sub_self]
     exact hp
structure CtB (i N : Nat) (yss : List (List Pce)) : Prop where
 len : yss.length = N
 c20 : ∀ p ∈ yss, p.length ≤ 20
 ok : ∀ p ∈ yss, PcsOk p
 pl : ∀ p ∈ yss, ∀ x ∈ p, ∃ j : Nat, j < i ∧ x.1 = platesV j
 ap : yss.Pairwise (fun a b => ∀ x ∈ a, ∀ y ∈ b, x.1 ≠ y.1)
theorem CtB.nil (N : Nat) : CtB 0 N (List.replicate N []) := by
 refine ⟨by simp, fun p hp => ?_, fun p hp => ?_, fun p hp => ?_, ?_⟩
 · rw [List.eq_of_mem_replicate hp]; simp
 · rw [List.eq_of_mem_replicate hp]; exact ⟨fun _ h => (by cases h), .nil⟩
 · rw [List.eq_of_mem_replicate hp]; intro x hx; cases hx
 · rw [List.pairwise_replicate]; right; intro x hx; cases hx
theorem CtB.step {i N : Nat} {yss : List (List Pce)} (h : CtB i N yss) : CtB (i + 1) N yss :=
 ⟨h.len, h.c20, h.ok, fun p hp x hx => (h.pl p hp x hx).imp fun j hj => ⟨by omega, hj.2⟩, h.ap⟩
theorem platesV_ne {a b : Nat} (h : a < b) (hb : b < 1000) : platesV a ≠ platesV b := fun e => by
 have := platesV_lt (a := a) (b := b) (by omega) (by omega) (by omega)
 rw [e, (pltC_cmp.eq _ _).2 rfl] at this
 omega
theorem set_getD {α : Type} (l : List α) (k : Nat) (v d : α) (j : Nat) (hj : j < l.length) : (l.set k v).getD j d = if k = j then v else l.getD j d := by
 rw [List.getD_eq_getElem?_getD, List.getD_eq_getElem?_getD, List.getElem?_set]
 split
 · rename_i e; subst e; simp [hj]
 · rfl
theorem CtB.put {i N k : Nat} {yss : List (List Pce)} (h : CtB i N yss) (hi : i < 1000) (hk : k < N) (h20 : (yss.getD k []).length < 20) {w c : Int} (hw : 1 ≤ w ∧ w ≤ 999) (hc : 0 ≤ c ∧ c ≤ 4) : CtB (i + 1) N (yss.set k (yss.getD k [] ++ [(platesV i, w, c)])) := by
 obtain ⟨h1, h2, h3, h4, h5⟩ := h
 have hmem : yss.getD k [] ∈ yss := getD_mem (by omega)
 have key : ∀ p ∈ yss.set k (yss.getD k [] ++ [(platesV i, w, c)]), p ∈ yss ∨ p = yss.getD k [] ++ [(platesV i, w, c)] := fun p hp => by
  rcases List.mem_or_eq_of_mem_set hp with h | h
  · exact .inl h
  · exact .inr h
 refine ⟨by simp [h1], fun p hp => ?_, fun p hp => ?_, fun p hp x hx => ?_, ?_⟩
 · rcases key p hp with h | h
   · exact h2 p h
   · rw [h, List.length_append, List.length_singleton]; omega
 · rcases key p hp with h | h
   · exact h3 p h
   · subst h
     refine ⟨fun x hx => ?_, ?_⟩
     · rcases List.mem_append.1 hx with hx | hx
       · exact (h3 _ hmem).ok x hx
       · rw [List.mem_singleton.1 hx]
         unfold okPc inV
         simp only [platesV_ok, Bool.and_eq_true, decide_eq_true_eq, true_and]
         omega
     · rw [List.pairwise_append]
       refine ⟨(h3 _ hmem).srt, List.pairwise_singleton _ _, fun x hx y hy => ?_⟩
       rw [List.mem_singleton.1 hy]
       obtain ⟨j, hj, e⟩ := h4 _ hmem x hx
       rw [e]
       exact platesV_lt (by omega) (by omega) (by omega)
 · rcases key p hp with h | h
   · exact (h4 p h x hx).imp fun j hj => ⟨by omega, hj.2⟩
   · subst h
     rcases List.mem_append.1 hx with hx | hx
     · exact (h4 _ hmem x hx).imp fun j hj => ⟨by omega, hj.2⟩
     · rw [List.mem_singleton.1 hx]; exact ⟨i, by omega, rfl⟩
 · rw [pw_getD []] at h5 ⊢
   intro a b hab hb x hx y hy
   rw [List.length_set] at hb
   rw [set_getD _ _ _ _ _ (by omega)] at hx hy
   have hA : yss.getD a [] ∈ yss := getD_mem (by omega)
   have hB : yss.getD b [] ∈ yss := getD_mem hb
   by_cases ea : k = a
   · rw [if_pos ea] at hx
     rw [if_neg (by omega)] at hy
     rcases List.mem_append.1 hx with hx | hx
     · rw [ea] at hx; exact h5 a b hab hb x hx y hy
     · rw [List.mem_singleton.1 hx]
       obtain ⟨j, hj, e⟩ := h4 _ hB y hy
       rw [e]; exact (platesV_ne hj hi).symm
   · rw [if_neg ea] at hx
     by_cases eb : k = b
     · rw [if_pos eb] at hy
       rcases List.mem_append.1 hy with hy | hy
       · rw [eb] at hy; exact h5 a b hab hb x hx y hy
       · rw [List.mem_singleton.1 hy]
         obtain ⟨j, hj, e⟩ := h4 _ hA x hx
         rw [e]; exact platesV_ne hj hi
     · rw [if_neg eb] at hy
       exact h5 a b hab hb x hx y hy
theorem zipS_len {xs : List Cnt} {yss : List (List Pce)} (h : yss.length = xs.length) : ((xs.zip yss).map (fun q => setPcs q.1 q.2)).length = xs.length := by simp [h]
theorem zipS_getD {xs : List Cnt} {yss : List (List Pce)} (h : yss.length = xs.length) {i : Nat} (hi : i < xs.length) : ((xs.zip yss).map (fun q => setPcs q.1 q.2)).getD i ct0 = setPcs (xs.getD i ct0) (yss.getD i []) := by
 simp [List.getD_eq_getElem?_getD, hi, h]
theorem CtsR.mk' {most n nm k : Int} {i : Nat} {xs : List Cnt} {yss : List (List Pce)} (hA : CtA most k nm xs) (hk : 0 ≤ k) (hm : most ≤ 24) (hB : CtB i xs.length yss) (hi : (i : Int) ≤ n ∨ i = 0) : CtsR most n ((xs.zip yss).map (fun q => setPcs q.1 q.2)) := by
 obtain ⟨il, in0, in1, iok, inum, ipos⟩ := hA
 obtain ⟨h1, h2, h3, h4, h5⟩ := hB
 have hl := zipS_len h1
 have hg : ∀ c ∈ (xs.zip yss).map (fun q => setPcs q.1 q.2), ∃ x ∈ xs, ∃ p ∈ yss, c = setPcs x p := fun c hc => by
  obtain ⟨q, hq, rfl⟩ := List.mem_map.1 hc
  exact ⟨q.1, (List.of_mem_zip (a := q.1) (b := q.2) hq).1, q.2, (List.of_mem_zip (a := q.1) (b := q.2) hq).2, rfl⟩
 refine ⟨⟨by omega, fun c hc => ?_, (pw_getD ct0).2 fun a b hab hb => ?_, (pw_getD ct0).2 fun a b hab hb => ?_, (pw_getD ct0).2 fun a b hab hb => ?_⟩, by omega, fun c hc x hx => ?_, fun c hc => ?_⟩
 · obtain ⟨x, hx, p, hp, rfl⟩ := hg c hc
   exact ⟨(iok x hx).1, Nat.le_trans (h2 p hp) (by omega), h3 p hp⟩
 · rw [hl] at hb
   rw [zipS_getD (i := a) h1 (by omega), zipS_getD (i := b) h1 hb]
   exact (pw_getD ct0).1 inum a b hab hb
 · rw [hl] at hb
   rw [zipS_getD (i := a) h1 (by omega), zipS_getD (i := b) h1 hb]
   intro hp he
   have hp : (xs.getD b ct0).pos ≠ 0 := hp
   have he : (xs.getD a ct0).pos = (xs.getD b ct0).pos := he
   have := ipos a (by omega)
   have := ipos b hb
   omega
 · rw [hl] at hb
   rw [zipS_getD (i := a) h1 (by omega), zipS_getD (i := b) h1 hb]
   exact (pw_getD []).1 h5 a b hab (by omega)
 · obtain ⟨x0, hx0, p, hp, rfl⟩ := hg c hc
   obtain ⟨j, hj, e⟩ := h4 p hp x hx
   exact ⟨j, by omega, e⟩
 · obtain ⟨x0, hx0, p, hp, rfl⟩ := hg c hc
   exact (iok x0 hx0).2.2.2
def con9 : RCon := { ps := [.p 62 ySR, .d false (.int .i64), .d false (.int .i64)], rs := [.d false (.sl yCT)], pre := fun (x : Src × Int × Int × Unit) => 0 ≤ x.1.2 ∧ 0 ≤ x.2.1 ∧ x.2.1 ≤ 24 ∧ x.2.2.1 ≤ 1000, rel := fun (x : Src × Int × Int × Unit) (y : List Cnt × Unit) (z : Src × Int × Int × Unit) => 0 ≤ z.1.2 ∧ CtsR x.2.1 x.2.2.1 y.1 }
theorem c9 : RCtrOk Tryz.prog 9 con9.rctr :=
 rcon_sound (G := ⟨[(12, con12.ctr), (27, con27.ctr), (11, con11.ctr), (28, con28.ctr)], [], [(7, 76), (53, 76), (58, 1), (84, 3), (93, 5), (99, 1)], [], []⟩) tab_ok (EnvOk.cons c12 has12 (EnvOk.cons c27 has27 (EnvOk.cons c11 has11 (EnvOk.cons c28 has28 EnvOk.nil)))) rfl Tryz.func9 rfl con9 77371328692341128053669831 (by kernel_rfl) (by decide) (by decide) rfl (by decide) rfl (by
  rintro ⟨⟨(s : List Int), (a : Int)⟩, (most : Int), (n : Int), _⟩ hpre hwf X hT hG hk hK
  (simp -implicitDefEqProofs (maxSteps := 4000000) only [go_sem, Bool.not_eq_true', Bool.not_eq_false', Bool.or_eq_true, Bool.or_eq_false_iff, Bool.and_eq_true, Bool.and_eq_false_iff, decide_eq_true_eq, decide_eq_false_iff_not, Classical.not_not, not_or, maxLen, con9, con12, con27, con11, con28, hT, hG, hk, hK, Tryz.results9] at hwf ⊢); (try simp (disch := decide +kernel) only [drawn, true_and, and_true])
  obtain ⟨h1, h2, h3, h4⟩ : 0 ≤ a ∧ 0 ≤ most ∧ most ≤ 24 ∧ n ≤ 1000 := hpre
  have hs1 : 0 ≤ (Src.step (s, a)).snd := step_pos h1
  have hkb := goMod_bd (Src.raw (s, a)) (most + 1) (by omega)
  generalize goMod (Src.raw (s, a)) (most + 1) = K at hkb ⊢
  generalize Src.step (s, a) = S1 at hs1 ⊢
  obtain ⟨s1, a1⟩ := S1
  (repeat' (with_reducible (first | refine And.intro ?_ ?_ | intro _))) <;> (try (first | with_reducible (first | done | assumption | omega | contradiction) | decide))
  refine evk_loop ⟨{ q : Src × List Cnt × Int × Int // 0 ≤ q.1.2 ∧ CtA most q.2.2.2 q.2.2.1 q.2.1 ∧ 0 ≤ q.2.2.2 }, 1000, fun q => [(0, .one (.loc 0 0)), (2, .one (.int .i64 n)), (7, .one (.row 64)), (8, .one (.int .i64 q.1.2.2.1)), (9, .one (.int .i64 q.1.2.2.2))],
   fun q => [(0, .cells 62 [.sl (.int .i64) q.1.1.1 false, .int .i64 q.1.1.2]), (64, .rowg 44 yCT 10 65 q.1.2.1 none), (65, .fam 68 yPC (List.replicate q.1.2.1.length []))], fun q => q.1.2.2.2.toNat⟩ ⟨((s1, a1), [], 0, K), hs1, ⟨by simp only [List.length_nil]; omega, Int.le_refl _, by simp, fun _ h => (by cases h), .nil, fun i h => absurd h (by simp)⟩, hkb.1⟩ ?_ ?_
  · simp only [go_sem]
    try (first | rfl | exact ⟨rfl, rfl⟩ | (and_intros <;> first | trivial | rfl | omega))
  · rintro ⟨⟨⟨s, a⟩, xs, nm, k⟩, (h1 : 0 ≤ a), (hI : CtA most k nm xs), (hk0 : 0 ≤ k)⟩
    (simp -implicitDefEqProofs (maxSteps := 4000000) only [go_sem, Bool.not_eq_true', Bool.not_eq_false', Bool.or_eq_true, Bool.or_eq_false_iff, Bool.and_eq_true, Bool.and_eq_false_iff, decide_eq_true_eq, decide_eq_false_iff_not, Classical.not_not, not_or, maxLen, con9, con12, con27, con11, con28, hT, hG, hk, hK, Tryz.results9]); (try simp (disch := decide +kernel) only [drawn, true_and, and_true])
    obtain ⟨il, in0, in1, iok, inum, ipos⟩ := hI
    have r1 := goMod_bd (Src.raw (s, a)) 2 (by omega)
    have p1 : 0 ≤ (Src.step (s, a)).snd := step_pos h1
    have p2 : 0 ≤ (Src.step (s, a)).step.snd := step_pos p1
    have p3 : 0 ≤ (Src.step (s, a)).step.step.snd := step_pos p2
    have p4 : 0 ≤ (Src.step (s, a)).step.step.step.snd := step_pos p3
    have p5 : 0 ≤ (Src.step (s, a)).step.step.step.step.snd := step_pos p4
    have p6 : 0 ≤ (Src.step (s, a)).step.step.step.step.step.snd := step_pos p5
    have p7 : 0 ≤ (Src.step (s, a)).step.step.step.step.step.step.snd := step_pos p6
    have r2 := goMod_bd (Src.step (s, a)).raw 3 (by omega)
    have r3 := goMod_bd (Src.step (s, a)).step.raw 6 (by omega)
    have r4 := goMod_bd (Src.step (s, a)).step.step.raw 300 (by omega)
    have r5 := goMod_bd (Src.step (s, a)).step.step.step.raw 10 (by omega)
    have r6 := goMod_bd (Src.step (s, a)).step.step.step.step.raw 21 (by omega)
    have r7 := goMod_bd (Src.step (s, a)).step.step.step.step.step.raw 3 (by omega)
    generalize (Src.step (s, a)).step.step.step.step.step.step = S7 at p7 ⊢
    generalize goMod (Src.step (s, a)).step.step.step.step.step.raw 3 = V7 at r7 ⊢
    generalize goMod (Src.step (s, a)).step.step.step.step.raw 21 = V6 at r6 ⊢
    generalize goMod (Src.step (s, a)).step.step.step.raw 10 = V5 at r5 ⊢
    generalize goMod (Src.step (s, a)).step.step.raw 300 = V4 at r4 ⊢
    generalize goMod (Src.step (s, a)).raw 3 = V2 at r2 ⊢
    generalize goMod (Src.raw (s, a)) 2 = V1 at r1 ⊢
    obtain ⟨s7, a7⟩ := S7
    have hc31 : ∀ k : Int, 0 ≤ k ∧ k < 6 → 0 ≤ [31, 31, 31, 3, 30, 1].getD k.toNat (0 : Int) ∧ [31, 31, 31, 3, 30, 1].getD k.toNat (0 : Int) ≤ 31 := fun k hk => by
     rcases (by omega : k = 0 ∨ k = 1 ∨ k = 2 ∨ k = 3 ∨ k = 4 ∨ k = 5) with rfl | rfl | rfl | rfl | rfl | rfl <;> decide
    have hc31 := hc31 _ r3
    have hrep : List.replicate xs.length ([] : List Pce) ++ [[]] = List.replicate (xs.length + 1) [] := by rw [List.replicate_succ']
    have hI : CtA most k nm xs := ⟨il, in0, in1, iok, inum, ipos⟩
    (repeat' (with_reducible (first | refine And.intro ?_ ?_ | intro _))) <;> (try (first | with_reducible (first | done | assumption | omega | contradiction) | decide))
    all_goals first
     | (have hv7 : V7 > 0 := by assumption
        refine fin_lp ⟨((s7, a7), xs ++ [_], nm + (1 + V1), k - 1), p7, CtA.push (v := 1 + V1) (f := V2) (c := [31, 31, 31, 3, 30, 1].getD (goMod (Src.step (s, a)).step.raw 6).toNat 0) (l := 50 + V4) (m := 2 + V5) (p := xs.length + 1) (r := V6 - 10) hI h3 (by omega) (by omega) r2 hc31 (by omega) (by omega) (.inr rfl) (by omega), (by show 0 ≤ k - 1; omega)⟩ ?_ (by dsimp only; omega)
        simp only [go_sem]
        rw [hrep, List.length_append]
        try (first | rfl | exact ⟨rfl, rfl⟩ | (and_intros <;> first | trivial | rfl | omega))
        done)
     | (have hv7 : ¬ V7 > 0 := by assumption
        refine fin_lp ⟨((s7, a7), xs ++ [_], nm + (1 + V1), k - 1), p7, CtA.push (v := 1 + V1) (f := V2) (c := [31, 31, 31, 3, 30, 1].getD (goMod (Src.step (s, a)).step.raw 6).toNat 0) (l := 50 + V4) (m := 2 + V5) (p := 0) (r := V6 - 10) hI h3 (by omega) (by omega) r2 hc31 (by omega) (by omega) (.inl rfl) (by omega), (by show 0 ≤ k - 1; omega)⟩ ?_ (by dsimp only; omega)
        simp only [go_sem]
        rw [hrep, List.length_append]
        try (first | rfl | exact ⟨rfl, rfl⟩ | (and_intros <;> first | trivial | rfl | omega))
        done)
     | (have hl0 : xs.length = 0 := by omega
        refine ⟨((xs.zip (List.replicate xs.length [])).map (fun q => setPcs q.1 q.2), ()), ((s, a), most, n, ()), ⟨h1, CtsR.mk' hI hk0 h3 (CtB.nil _) (.inr rfl)⟩, rfl, rfl, putSls_ct _ _⟩)
     | (refine evk_loop ⟨{ q : Src × List (List Pce) × Nat // 0 ≤ q.1.2 ∧ CtB q.2.2 xs.length q.2.1 ∧ ((q.2.2 : Int) ≤ n ∨ q.2.2 = 0) }, 1000, fun q => [(0, .one (.loc 0 0)), (2, .one (.int .i64 n)), (7, .one (.row 64)), (11, .one (.int .i64 q.1.2.2))],
         fun q => [(0, .cells 62 [.sl (.int .i64) q.1.1.1 false, .int .i64 q.1.1.2]), (64, .rowg 44 yCT 10 65 xs none), (65, .fam 68 yPC q.1.2.1)], fun q => n.toNat - q.1.2.2⟩ ⟨((s, a), List.replicate xs.length [], 0), h1, CtB.nil _, .inr rfl⟩ ?_ ?_
        · simp only [go_sem]
          try (first | rfl | exact ⟨rfl, rfl⟩ | (and_intros <;> first | trivial | rfl | omega))
        · rintro ⟨⟨⟨s, a⟩, yss, i⟩, (h1 : 0 ≤ a), (hB : CtB i xs.length yss), (hin : (i : Int) ≤ n ∨ i = 0)⟩
          (simp -implicitDefEqProofs (maxSteps := 4000000) only [go_sem, Bool.not_eq_true', Bool.not_eq_false', Bool.or_eq_true, Bool.or_eq_false_iff, Bool.and_eq_true, Bool.and_eq_false_iff, decide_eq_true_eq, decide_eq_false_iff_not, Classical.not_not, not_or, maxLen, con9, con12, con27, con11, con28, hT, hG, hk, hK, Tryz.results9]); (try simp (disch := decide +kernel) only [drawn, true_and, and_true])
          have hxl : 0 < xs.length := by omega
          have r1 := goMod_bd (Src.raw (s, a)) 3 (by omega)
          have p1 : 0 ≤ (Src.step (s, a)).snd := step_pos h1
          have p2 : 0 ≤ (Src.step (s, a)).step.snd := step_pos p1
          have p3 : 0 ≤ (Src.step (s, a)).step.step.snd := step_pos p2
          have p4 : 0 ≤ (Src.step (s, a)).step.step.step.snd := step_pos p3
          have r2 := goMod_bd (Src.step (s, a)).raw xs.length (by omega)
          have r3 := goMod_bd (Src.step (s, a)).step.raw 30 (by omega)
          have r4 := goMod_bd (Src.step (s, a)).step.step.raw 8 (by omega)
          have hw : ∀ k : Int, 0 ≤ k ∧ k < 8 → 0 ≤ [0, 0, 0, 0, 1, 2, 3, 4].getD k.toNat (0 : Int) ∧ [0, 0, 0, 0, 1, 2, 3, 4].getD k.toNat (0 : Int) ≤ 4 := fun k hk => by
           rcases (by omega : k = 0 ∨ k = 1 ∨ k = 2 ∨ k = 3 ∨ k = 4 ∨ k = 5 ∨ k = 6 ∨ k = 7) with rfl | rfl | rfl | rfl | rfl | rfl | rfl | rfl <;> decide
          have hw := hw _ r4
          have hyl := hB.len
          have hbl : ∀ k : Nat, (yss.getD k []).length ≤ 20 := fun k => by
           by_cases h : k < yss.length
           · exact hB.c20 _ (getD_mem h)
           · rw [List.getD_eq_getElem?_getD, List.getElem?_eq_none (by omega)]; simp
          have hbk := hbl (goMod (Src.step (s, a)).raw xs.length).toNat
          generalize (Src.step (s, a)).step.step.step = S4 at p4 ⊢
          generalize goMod (Src.step (s, a)).step.step.raw 8 = V4 at r4 hw ⊢
          generalize goMod (Src.step (s, a)).step.raw 30 = V3 at r3 ⊢
          generalize goMod (Src.step (s, a)).raw xs.length = V2 at r2 hbk ⊢
          generalize goMod (Src.raw (s, a)) 3 = V1 at r1 ⊢
          generalize (Src.step (s, a)).step = S2 at p2 ⊢
          generalize Src.step (s, a) = S1 at p1 ⊢
          obtain ⟨s4, a4⟩ := S4
          obtain ⟨s2, a2⟩ := S2
          obtain ⟨s1, a1⟩ := S1
          (repeat' (with_reducible (first | refine And.intro ?_ ?_ | intro _))) <;> (try (first | with_reducible (first | done | assumption | omega | contradiction) | decide))
          all_goals first
           | (have hv : V1 = 0 := by assumption
              refine fin_lp ⟨((s1, a1), yss, i + 1), p1, hB.step, (by show ((i + 1 : Nat) : Int) ≤ n ∨ _; omega)⟩ ?_ (by dsimp only; omega)
              simp only [go_sem]
              try (first | rfl | exact ⟨rfl, rfl⟩ | (and_intros <;> first | trivial | rfl | omega))
              done)
           | exact step_pos p2
           | (have h20 : ((yss.getD V2.toNat []).length : Int) < 20 := by assumption
              refine fin_lp ⟨((s4, a4), yss.set V2.toNat (yss.getD V2.toNat [] ++ [(platesV i, 1 + V3, [0, 0, 0, 0, 1, 2, 3, 4].getD V4.toNat 0)]), i + 1), p4, hB.put (by omega) (by omega) (by omega) (by omega) hw, (by show ((i + 1 : Nat) : Int) ≤ n ∨ _; omega)⟩ ?_ (by dsimp only; omega)
              simp only [go_sem]
              rw [List.set_set]
              try (first | rfl | exact ⟨rfl, rfl⟩ | (and_intros <;> first | trivial | rfl | omega))
              done)
           | (have h20 : ¬ ((yss.getD V2.toNat []).length : Int) < 20 := by assumption
              refine fin_lp ⟨((s4, a4), yss, i + 1), p4, hB.step, (by show ((i + 1 : Nat) : Int) ≤ n ∨ _; omega)⟩ ?_ (by dsimp only; omega)
              simp only [go_sem]
              try (first | rfl | exact ⟨rfl, rfl⟩ | (and_intros <;> first | trivial | rfl | omega))
              done)
           | (refine ⟨((xs.zip yss).map (fun q => setPcs q.1 q.2), ()), ((s, a), most, n, ()), ⟨h1, CtsR.mk' hI hk0 h3 hB hin⟩, rfl, rfl, putSls_ct _ _⟩)
           | fail))
end Go.Proofs.YteheklpenjjfaaaGreat
