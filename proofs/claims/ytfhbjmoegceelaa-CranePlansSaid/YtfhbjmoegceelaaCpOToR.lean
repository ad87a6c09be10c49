/- Single insertions, and the blocks of the stable sort: the plain laws. -/
import Derived.Test.YtfhbjmoegceelaaCpAToN
set_option maxHeartbeats 1000000
namespace Go.Cp

/-- The rotation alone merges, if its halves are in order. -/
theorem rot_done {key : Int → Int} {l : List Int} {a s m e b : Nat} (h1 : a ≤ s) (h2 : s ≤ m) (h3 : m ≤ e) (h4 : e ≤ b) (hb : b ≤ l.length) (hu : SrtK key (seg l a m)) (hv : SrtK key (seg l m b))
 (hlo : m < e → s < m → key (l.getD (e - 1) 0) < key (l.getD s 0)) (hhi : a < s → e < b → key (l.getD (s - 1) 0) ≤ key (l.getD e 0))
 (hx1 : a < s → m < e → key (l.getD (s - 1) 0) ≤ key (l.getD m 0)) (hx2 : s < m → e < b → key (l.getD (m - 1) 0) ≤ key (l.getD e 0)) : rotL l s m e = sg key l a b := by
 have hcut := sg_cut h1 h2 h3 h4 hb hu hv hlo hhi
 have e1 := seg_split l h1 h2
 have e2 := seg_split l h3 h4
 have u1 : SrtK key (seg l a s) := by rw [← e1] at hu; exact (List.pairwise_append.1 hu).1
 have u2 : SrtK key (seg l s m) := by rw [← e1] at hu; exact (List.pairwise_append.1 hu).2.1
 have v1 : SrtK key (seg l m e) := by rw [← e2] at hv; exact (List.pairwise_append.1 hv).1
 have v2 : SrtK key (seg l e b) := by rw [← e2] at hv; exact (List.pairwise_append.1 hv).2.1
 rw [isort_id (List.pairwise_append.2 ⟨u1, v1, fun x hx y hy => ?_⟩), isort_id (List.pairwise_append.2 ⟨u2, v2, fun x hx y hy => ?_⟩)] at hcut
 · unfold sg
   rw [← hcut]
   unfold rotL
   rw [← take_seg l h1]
   have : l.drop e = seg l e b ++ l.drop b := by
    unfold seg
    rw [List.drop_take]
    have := List.take_append_drop (b - e) (l.drop e)
    rw [List.drop_drop, show e + (b - e) = b by omega] at this
    exact this.symm
   rw [this]
   simp
 · obtain ⟨i, i1, i2, rfl⟩ := mem_seg (by omega) hx
   obtain ⟨j, j1, j2, rfl⟩ := mem_seg (by omega) hy
   have q1 := srt_le (by omega) u2 (show s ≤ i by omega) (show i ≤ m - 1 by omega) (by omega)
   have q2 := srt_le hb v2 (show e ≤ e by omega) (show e ≤ j by omega) (by omega)
   have := hx2 (by omega) (by omega)
   omega
 · obtain ⟨i, i1, i2, rfl⟩ := mem_seg (by omega) hx
   obtain ⟨j, j1, j2, rfl⟩ := mem_seg (by omega) hy
   have q1 := srt_le (by omega) u1 (show a ≤ i by omega) (show i ≤ s - 1 by omega) (by omega)
   have q2 := srt_le (by omega) v1 (show m ≤ m by omega) (show m ≤ j by omega) (by omega)
   have := hx1 (by omega) (by omega)
   omega

theorem set_one (P R : List Int) (x y : Int) {i : Nat} (h : P.length = i) : ((P ++ x :: y :: R).set i y).set (i + 1) x = P ++ y :: x :: R := by
 have := set_swap P [] R x y h (j := i + 1) (by simp)
 simpa using this
theorem set_one' (P R : List Int) (x y : Int) {i : Nat} (h : P.length = i) : ((P ++ x :: y :: R).set (i + 1) x).set i y = P ++ y :: x :: R := by
 rw [List.set_comm _ _ (by omega)]; exact set_one P R x y h
theorem rotA_form {l : List Int} {a k : Nat} (h1 : a ≤ k) (h2 : k + 1 < l.length) : rotL l a (a + 1) (k + 1) = (l.take a ++ seg l (a + 1) (k + 1)) ++ l.getD a 0 :: l.getD (k + 1) 0 :: l.drop (k + 2) := by
 unfold rotL
 rw [seg_one (by omega), drop_at h2]
 simp
theorem rotA_pre {l : List Int} {a k : Nat} (h1 : a ≤ k) (h2 : k + 1 < l.length) : (l.take a ++ seg l (a + 1) (k + 1)).length = k := by
 rw [List.length_append, seg_len l (by omega), List.length_take]; omega
theorem rotA_get1 {l : List Int} {a k : Nat} (h1 : a ≤ k) (h2 : k + 1 < l.length) : (rotL l a (a + 1) (k + 1)).getD k 0 = l.getD a 0 := by
 rw [rotA_form h1 h2, mid_get _ _ _ (rotA_pre h1 h2)]
theorem rotA_get2 {l : List Int} {a k : Nat} (h1 : a ≤ k) (h2 : k + 1 < l.length) : (rotL l a (a + 1) (k + 1)).getD (k + 1) 0 = l.getD (k + 1) 0 := by
 rw [rotA_form h1 h2]
 have e : ∀ (P R : List Int) (x : Int), P ++ x :: R = (P ++ [x]) ++ R := fun P R x => by simp
 rw [e, mid_get _ _ _ (by rw [List.length_append, rotA_pre h1 h2]; rfl)]
theorem rotA_step {l : List Int} {a k : Nat} (h1 : a ≤ k) (h2 : k + 1 < l.length) : ((rotL l a (a + 1) (k + 1)).set k (l.getD (k + 1) 0)).set (k + 1) (l.getD a 0) = rotL l a (a + 1) (k + 2) := by
 rw [rotA_form h1 h2, set_one _ _ _ _ (rotA_pre h1 h2)]
 unfold rotL
 rw [seg_one (show a < l.length by omega), seg_snoc (show a + 1 ≤ k + 1 by omega) h2]
 simp
theorem rotB_form {l : List Int} {k m : Nat} (h1 : k + 1 ≤ m) (h2 : m < l.length) : rotL l (k + 1) m (m + 1) = l.take k ++ l.getD k 0 :: l.getD m 0 :: (seg l (k + 1) m ++ l.drop (m + 1)) := by
 unfold rotL
 rw [take_at (show k < l.length by omega), seg_one h2]
 simp
theorem rotB_get1 {l : List Int} {k m : Nat} (h1 : k + 1 ≤ m) (h2 : m < l.length) : (rotL l (k + 1) m (m + 1)).getD k 0 = l.getD k 0 := by
 rw [rotB_form h1 h2, mid_get _ _ _ (by rw [List.length_take]; omega)]
theorem rotB_get2 {l : List Int} {k m : Nat} (h1 : k + 1 ≤ m) (h2 : m < l.length) : (rotL l (k + 1) m (m + 1)).getD (k + 1) 0 = l.getD m 0 := by
 rw [rotB_form h1 h2]
 have e : ∀ (P R : List Int) (x : Int), P ++ x :: R = (P ++ [x]) ++ R := fun P R x => by simp
 rw [e, mid_get _ _ _ (by rw [List.length_append, List.length_take]; simp; omega)]
theorem rotB_step {l : List Int} {k m : Nat} (h1 : k + 1 ≤ m) (h2 : m < l.length) : ((rotL l (k + 1) m (m + 1)).set (k + 1) (l.getD k 0)).set k (l.getD m 0) = rotL l k m (m + 1) := by
 rw [rotB_form h1 h2, set_one' _ _ _ _ (by rw [List.length_take]; omega)]
 unfold rotL
 rw [seg_one h2, seg_cons (show k < m by omega) (by omega)]
 simp

theorem sg_before (key : Int → Int) {l : List Int} {a b x y : Nat} (ha : a ≤ l.length) (h : y ≤ a) : seg (sg key l a b) x y = seg l x y := by
 have : (sg key l a b).take y = l.take y := by
  unfold sg
  rw [List.take_append_of_le_length (by rw [List.length_take]; omega), List.take_take, Nat.min_eq_left h]
 unfold seg; rw [this]
theorem sg_drop (key : Int → Int) {l : List Int} {a b : Nat} (h : a ≤ b) (hb : b ≤ l.length) : (sg key l a b).drop b = l.drop b := by
 have e : (l.take a ++ isort (ltK key) (seg l a b)).length = b := by rw [List.length_append, isort_len, seg_len l hb, List.length_take]; omega
 unfold sg
 rw [← List.append_assoc]
 have := List.drop_left (l₁ := l.take a ++ isort (ltK key) (seg l a b)) (l₂ := l.drop b)
 rwa [e] at this
theorem sg_after (key : Int → Int) {l : List Int} {a b x y : Nat} (h : a ≤ b) (hb : b ≤ l.length) (hx : b ≤ x) : seg (sg key l a b) x y = seg l x y := by
 have : (sg key l a b).drop x = l.drop x := by
  have := sg_drop key h hb
  rw [show x = b + (x - b) by omega, ← List.drop_drop, ← List.drop_drop, this]
 unfold seg; rw [List.drop_take, List.drop_take, this]
theorem sg_in (key : Int → Int) {l : List Int} {a b : Nat} (h : a ≤ b) (hb : b ≤ l.length) : SrtK key (seg (sg key l a b) a b) := by
 have : seg (sg key l a b) a b = isort (ltK key) (seg l a b) := seg_mid (by rw [List.length_take]; omega) (by rw [isort_len, seg_len l hb]; omega)
 rw [this]; exact isort_srt ..
theorem sg_fk (key : Int → Int) {l : List Int} {a b : Nat} (h : a ≤ b) (d : Int) : fk key d (sg key l a b) = fk key d l := by
 conv => rhs; rw [split_row l h]
 unfold sg
 rw [fk_app, fk_app, isort_fk, fk_app, fk_app]
theorem seg_over (l : List Int) {x y : Nat} (h : l.length ≤ x) : seg l x y = [] := by
 unfold seg; exact List.drop_of_length_le (by rw [List.length_take]; omega)

/-- The blocks of a size are in order. -/
def Blk (key : Int → Int) (s : Nat) (l : List Int) : Prop := ∀ x, s ∣ x → SrtK key (seg l x (min (x + s) l.length))
def Ist (key : Int → Int) (s : Nat) (l : List Int) (a : Nat) : Prop := s ∣ a ∧ a ≤ l.length ∧ ∀ x, s ∣ x → x + s ≤ a → SrtK key (seg l x (x + s))
def Mst (key : Int → Int) (s : Nat) (l : List Int) (a : Nat) : Prop := 2 * s ∣ a ∧ a ≤ l.length ∧ (∀ x, 2 * s ∣ x → x + 2 * s ≤ a → SrtK key (seg l x (x + 2 * s))) ∧ ∀ x, s ∣ x → a ≤ x → SrtK key (seg l x (min (x + s) l.length))
theorem dvd_next {s x a : Nat} (h1 : s ∣ x) (h2 : s ∣ a) (h3 : x < a) : x + s ≤ a := by
 have := Nat.le_of_dvd (show 0 < a - x by omega) (Nat.dvd_sub h2 h1)
 omega
variable {key : Int → Int} {s a : Nat} {l : List Int}
theorem ist_step (h : Ist key s l a) (hs : 0 < s) (hn : a + s ≤ l.length) : Ist key s (sg key l a (a + s)) (a + s) := by
 obtain ⟨h1, h2, h3⟩ := h
 refine ⟨Nat.dvd_add h1 (Nat.dvd_refl s), by rw [sg_len key (by omega) hn]; exact hn, fun x hx hxs => ?_⟩
 by_cases e : x = a
 · subst e; exact sg_in key (by omega) hn
 · have := dvd_next hx h1 (by omega)
   rw [sg_before key h2 this]; exact h3 x hx this
theorem ist_end (h : Ist key s l a) (hn : l.length < a + s) : Blk key s (sg key l a l.length) := by
 obtain ⟨h1, h2, h3⟩ := h
 intro x hx
 rw [sg_len key h2 (Nat.le_refl _)]
 by_cases e : x = a
 · subst e; rw [Nat.min_eq_right (by omega)]; exact sg_in key h2 (Nat.le_refl _)
 · by_cases hlt : x < a
   · have := dvd_next hx h1 hlt
     rw [Nat.min_eq_left (by omega), sg_before key h2 this]; exact h3 x hx this
   · have := dvd_next h1 hx (by omega)
     rw [seg_over _ (by rw [sg_len key h2 (Nat.le_refl _)]; omega)]; exact List.Pairwise.nil
theorem ist_zero : Ist key s l 0 := ⟨Nat.dvd_zero s, Nat.zero_le _, fun x _ h => by
 have : s = 0 := by omega
 subst this
 rw [Nat.add_zero, seg_nil]; exact List.Pairwise.nil⟩
theorem mst_zero (hs : 0 < s) (h : Blk key s l) : Mst key s l 0 := ⟨Nat.dvd_zero _, Nat.zero_le _, fun x _ h => by omega, fun x hx _ => h x hx⟩
theorem dvd_two (h : 2 * s ∣ a) : s ∣ a := Nat.dvd_trans (Nat.dvd_mul_left s 2) h
theorem mst_step (h : Mst key s l a) (hs : 0 < s) (hn : a + 2 * s ≤ l.length) : SrtK key (seg l a (a + s)) ∧ SrtK key (seg l (a + s) (a + 2 * s)) ∧ Mst key s (sg key l a (a + 2 * s)) (a + 2 * s) := by
 obtain ⟨h1, h2, h3, h4⟩ := h
 have g1 := h4 a (dvd_two h1) (Nat.le_refl a)
 have g2 := h4 (a + s) (Nat.dvd_add (dvd_two h1) (Nat.dvd_refl s)) (by omega)
 rw [Nat.min_eq_left (by omega)] at g1 g2
 refine ⟨g1, by rw [show a + 2 * s = a + s + s by omega]; exact g2, Nat.dvd_add h1 (Nat.dvd_refl _), by rw [sg_len key (by omega) hn]; exact hn, fun x hx hxs => ?_, fun x hx hxa => ?_⟩
 · by_cases e : x = a
   · subst e; exact sg_in key (by omega) hn
   · have := dvd_next hx h1 (by omega)
     rw [sg_before key h2 this]; exact h3 x hx this
 · rw [sg_len key (by omega) hn, sg_after key (by omega) hn hxa]; exact h4 x hx (by omega)
theorem mst_fin (h : Mst key s l a) (hn : l.length < a + 2 * s) (hx : SrtK key (seg l a l.length)) : Blk key (2 * s) l := by
 obtain ⟨h1, h2, h3, h4⟩ := h
 intro x hx'
 by_cases e : x = a
 · subst e; rw [Nat.min_eq_right (by omega)]; exact hx
 · by_cases hlt : x < a
   · have := dvd_next hx' h1 hlt
     rw [Nat.min_eq_left (by omega)]; exact h3 x hx' this
   · have := dvd_next h1 hx' (by omega)
     rw [seg_over _ (by omega)]; exact List.Pairwise.nil
theorem mst_end (h : Mst key s l a) (hn : l.length < a + 2 * s) (hm : a + s < l.length) : SrtK key (seg l a (a + s)) ∧ SrtK key (seg l (a + s) l.length) ∧ Blk key (2 * s) (sg key l a l.length) := by
 obtain ⟨h1, h2, h3, h4⟩ := h
 have g1 := h4 a (dvd_two h1) (Nat.le_refl a)
 have g2 := h4 (a + s) (Nat.dvd_add (dvd_two h1) (Nat.dvd_refl s)) (by omega)
 rw [Nat.min_eq_left (by omega)] at g1
 rw [Nat.min_eq_right (by omega)] at g2
 refine ⟨g1, g2, fun x hx => ?_⟩
 rw [sg_len key h2 (Nat.le_refl _)]
 by_cases e : x = a
 · subst e; rw [Nat.min_eq_right (by omega)]; exact sg_in key h2 (Nat.le_refl _)
 · by_cases hlt : x < a
   · have := dvd_next hx h1 hlt
     rw [Nat.min_eq_left (by omega), sg_before key h2 this]; exact h3 x hx this
   · have := dvd_next h1 hx (by omega)
     rw [seg_over _ (by rw [sg_len key h2 (Nat.le_refl _)]; omega)]; exact List.Pairwise.nil
theorem mst_end' (h : Mst key s l a) (hs : 0 < s) (hn : l.length ≤ a + s) : Blk key (2 * s) l := by
 refine mst_fin h (by omega) ?_
 have := h.2.2.2 a (dvd_two h.1) (Nat.le_refl a)
 rwa [Nat.min_eq_right hn] at this
theorem blk_end (h : Blk key s l) (hn : l.length ≤ s) : SrtK key l := by
 have := h 0 (Nat.dvd_zero s)
 rwa [Nat.zero_add, Nat.min_eq_right hn, show seg l 0 l.length = l by unfold seg; simp] at this
end Go.Cp

/- The contracts of the functions that the statement about the crane's plans reaches: insertion sort of a part. -/
set_option linter.unusedSimpArgs false
set_option linter.unusedVariables false
set_option maxRecDepth 100000
set_option maxHeartbeats 4000000
namespace Go.Proofs.Ytfhbjmoegceelaa
open Go.Ev Go.Cp

theorem cmpV_neg (a b : Int) : cmpV a b < 0 ↔ a < b := by
 unfold cmpV
 split
 · omega
 · split <;> omega
abbrev dueLt (js : Jobs) : Int → Int → Bool := ltK (dueOf js)
theorem mid_at (P R : List Int) (x : Int) (j : Nat) (h : j ≤ P.length) : (P.take j ++ x :: (P.drop j ++ R)).getD (j : Int).toNat 0 = x := by
 have e : (P.take j).length = j := by rw [List.length_take]; omega
 simp [List.getElem?_append, e]
theorem mid_before (P R : List Int) (x : Int) (j : Nat) (h : 0 < j ∧ j ≤ P.length) : (P.take j ++ x :: (P.drop j ++ R)).getD ((j : Int) - 1).toNat 0 = P.getD (j - 1) 0 := by
 have e : (P.take j).length = j := by rw [List.length_take]; omega
 have e2 : ((j : Int) - 1).toNat = j - 1 := by omega
 rw [e2]
 simp [List.getElem?_append, e, show j - 1 < j by omega, show j - 1 < P.length by omega]
theorem mid_swap (P R : List Int) (x : Int) (j : Nat) (h : 0 < j ∧ j ≤ P.length) : ((P.take j ++ x :: (P.drop j ++ R)).set (j : Int).toNat (P.getD (j - 1) 0)).set ((j : Int) - 1).toNat x = P.take (j - 1) ++ x :: (P.drop (j - 1) ++ R) := by
 obtain ⟨h1, h2⟩ := h
 obtain ⟨k, rfl⟩ : ∃ k, j = k + 1 := ⟨j - 1, by omega⟩
 have hk : k < P.length := by omega
 have e2 : (((k + 1 : Nat) : Int) - 1).toNat = k := by omega
 have e3 : ((k + 1 : Nat) : Int).toNat = k + 1 := by omega
 rw [e2, e3]
 have e : (P.take k).length = k := by rw [List.length_take]; omega
 show ((P.take (k + 1) ++ x :: (P.drop (k + 1) ++ R)).set (k + 1) (P.getD k 0)).set k x = P.take k ++ x :: (P.drop k ++ R)
 rw [drop_at hk, take_at hk, List.append_assoc]
 exact set_one' (P.take k) (P.drop (k + 1) ++ R) (P.getD k 0) x e
theorem insV_mid {key : Int → Int} (x : Int) : ∀ (P : List Int) (j : Nat), j ≤ P.length → SrtK key P → (∀ y ∈ P.drop j, ltK key x y = true) → (0 < j → ltK key x (P.getD (j - 1) 0) = false) → insV (ltK key) x P = P.take j ++ x :: P.drop j
 | [], j, _, _, _, _ => by simp [insV]
 | y :: P, 0, _, _, h, _ => by
   unfold insV
   rw [if_pos (h y (by simp))]
   rfl
 | y :: P, j + 1, hjl, hs, h, hj => by
   obtain ⟨h1, h2⟩ := List.pairwise_cons.1 hs
   have hy : ltK key x y = false := by
    have := hj (by omega)
    cases j with
    | zero => simpa using this
    | succ j =>
      have hjP : j < P.length := by simp only [List.length_cons] at hjl; omega
      have h3 : ltK key x (P.getD j 0) = false := by simpa using this
      have hm := h1 (P.getD j 0) (by rw [List.getD_eq_getElem?_getD, List.getElem?_eq_getElem hjP]; exact List.getElem_mem hjP)
      simp only [ltK, decide_eq_false_iff_not] at h3 ⊢
      omega
   unfold insV
   rw [if_neg (by rw [hy]; simp), insV_mid x P j (by simpa using hjl) h2 h (fun hj0 => by
    obtain ⟨k, rfl⟩ : ∃ k, j = k + 1 := ⟨j - 1, by omega⟩
    simpa using hj (by omega))]
   rfl
theorem ins_close {key : Int → Int} {l Q : List Int} {a i j : Nat} {x : Int} (ha : a ≤ j) (hji : j ≤ i) (hi : i < l.length) (hx : l.getD i 0 = x) (hQ : Q = l.take a ++ isort (ltK key) (seg l a i)) (hgt : ∀ y ∈ Q.drop j, ltK key x y = true)
 (hle : a < j → ltK key x (Q.getD (j - 1) 0) = false) : Q.take j ++ x :: (Q.drop j ++ l.drop (i + 1)) = sg key l a (i + 1) := by
 have hA : (l.take a).length = a := by rw [List.length_take]; omega
 have hP : (isort (ltK key) (seg l a i)).length = i - a := by rw [isort_len, seg_len l (by omega)]
 have hs := isort_srt key (seg l a i)
 have e : isort (ltK key) (seg l a (i + 1)) = insV (ltK key) x (isort (ltK key) (seg l a i)) := by rw [seg_snoc (by omega) hi, hx, isort_snoc]
 unfold sg
 rw [e]
 generalize isort (ltK key) (seg l a i) = P at *
 subst hQ
 have ed : (l.take a ++ P).drop j = P.drop (j - a) := by
  rw [List.drop_append, List.drop_of_length_le (by omega), List.nil_append, hA]
 have et : (l.take a ++ P).take j = l.take a ++ P.take (j - a) := by
  rw [List.take_append, List.take_of_length_le (by omega), hA]
 rw [ed] at hgt
 rw [insV_mid x P (j - a) (by omega) hs hgt (fun h => ?_), ed, et]
 · simp
 · have := hle (by omega)
   rw [List.getD_eq_getElem?_getD, List.getElem?_append_right (by omega), hA, show j - 1 - a = j - a - 1 by omega] at this
   rwa [List.getD_eq_getElem?_getD]

def con41 : Con := { ps := [.o 3 (.int .i64), .d false (.int .i64), .d false (.int .i64), .cl 32 [.p 22 (.sl (.pair (.int .i64) (.int .i64)))]], rs := [], pre := fun (x : List Int × Int × Int × (Jobs × Unit) × Unit) => 0 ≤ x.2.1 ∧ x.2.1 ≤ x.2.2.1 ∧ x.2.2.1 ≤ x.1.length ∧ x.1.length ≤ 1000 ∧ ∀ k ∈ x.1, 0 ≤ k ∧ k < x.2.2.2.1.1.length, out := fun x => (), nw := fun x => (sg (dueOf x.2.2.2.1.1) x.1 x.2.1.toNat x.2.2.1.toNat, x.2) }
theorem c41 : CtrOk Try.prog 41 con41.ctr :=
 con_sound (G := ⟨[(32, con32.ctr)], [], [], [], []⟩) tab_ok (EnvOk.cons c32 has32 EnvOk.nil) rfl Try.func41 rfl con41 17179886351 (by kernel_rfl) (by decide) (by decide) rfl (by decide) rfl (by
  rintro ⟨(l : List Int), (a : Int), (b : Int), ⟨(js : Jobs), _⟩, _⟩ hpre hwf X hT hG hk hK
  obtain ⟨ha, hab, hbl, h3, h4⟩ : 0 ≤ a ∧ a ≤ b ∧ b ≤ l.length ∧ l.length ≤ 1000 ∧ ∀ k ∈ l, 0 ≤ k ∧ k < js.length := hpre
  obtain ⟨a, rfl⟩ := Int.eq_ofNat_of_zero_le ha
  obtain ⟨b, rfl⟩ := Int.eq_ofNat_of_zero_le (Int.le_trans ha hab)
  clear ha
  (simp -implicitDefEqProofs (maxSteps := 4000000) only [go_sem, con41, con32, hT, hG, hk, hK, Try.results41] at hwf ⊢); (try simp (disch := decide +kernel) only [drawn, true_and, and_true])
  try simp only [Int.toNat_natCast]
  refine ⟨⟨by omega, by omega⟩, ?_⟩
  refine evk_loop ⟨{ i : Nat // a + 1 ≤ i ∧ (i ≤ b ∨ i = a + 1) }, 1000,
   fun q => [(0, .one (.row 0)), (1, .one (.int .i64 a)), (2, .one (.int .i64 b)), (3, .one (.fn 32 [.loc 20 0])), (8, .one (.int .i64 q.1))],
   fun q => [(0, .row 3 (.int .i64) (sg (dueOf js) l a q.1)), (20, .cells 22 [.sl (.pair (.int .i64) (.int .i64)) js false])], fun q => l.length + 1 - q.1⟩ ⟨a + 1, Nat.le_refl _, .inr rfl⟩ ?_ ?_
  · simp only [go_sem]
    first | exact ⟨(sg_one _).symm, by omega⟩ | (refine ⟨?_, ?_⟩ <;> first | exact (sg_one _).symm | omega | rfl) | skip
  · rintro ⟨i, (hi1 : a + 1 ≤ i), (hi2 : i ≤ b ∨ i = a + 1)⟩
    (simp -implicitDefEqProofs (maxSteps := 4000000) only [go_sem, con41, con32, hT, hG, hk, hK, Try.results41]); (try simp (disch := decide +kernel) only [drawn, true_and, and_true])
    refine ⟨fun hlt => ?_, fun hge => ?_⟩
    · have hi' : i < l.length := by omega
      have hQp : (l.take a ++ isort (dueLt js) (seg l a i)).Perm (l.take i) := by
       rw [← take_seg l (show a ≤ i by omega)]; exact (isort_perm _ _).append_left _
      have hrow : sg (dueOf js) l a i = (l.take a ++ isort (dueLt js) (seg l a i)) ++ l.getD i 0 :: l.drop (i + 1) := by
       unfold sg; rw [drop_at hi', List.append_assoc]
      have hcl := fun (j : Nat) h1 h2 h3 h4 => ins_close (key := dueOf js) (l := l) (a := a) (i := i) (j := j) h1 h2 hi' rfl rfl h3 h4
      rw [hrow]
      generalize hQe : l.take a ++ isort (dueLt js) (seg l a i) = Q at hQp hcl ⊢
      have hQl : Q.length = i := by rw [hQp.length_eq, List.length_take]; omega
      have hx4 : 0 ≤ l.getD i 0 ∧ l.getD i 0 < js.length := h4 _ (by rw [List.getD_eq_getElem?_getD, List.getElem?_eq_getElem hi']; exact List.getElem_mem hi')
      generalize hxe : l.getD i 0 = x at hx4 hcl ⊢
      refine evk_loop ⟨{ j : Nat // a ≤ j ∧ j ≤ i ∧ ∀ y ∈ Q.drop j, dueLt js x y = true }, 2000,
       fun q => [(0, .one (.row 0)), (1, .one (.int .i64 a)), (2, .one (.int .i64 b)), (3, .one (.fn 32 [.loc 20 0])), (8, .one (.int .i64 i)), (9, .one (.int .i64 q.1))],
       fun q => [(0, .row 3 (.int .i64) (Q.take q.1 ++ x :: (Q.drop q.1 ++ l.drop (i + 1)))), (20, .cells 22 [.sl (.pair (.int .i64) (.int .i64)) js false])], fun q => q.1⟩ ⟨i, by omega, Nat.le_refl i, by intro y hy; rw [List.drop_of_length_le (by omega)] at hy; cases hy⟩ ?_ ?_
      · simp only [go_sem]
        rw [List.take_of_length_le (by omega), List.drop_of_length_le (by omega : Q.length ≤ i), List.nil_append]
      · rintro ⟨j, (hja : a ≤ j), (hji : j ≤ i), (hgt : ∀ y ∈ Q.drop j, dueLt js x y = true)⟩
        (simp -implicitDefEqProofs (maxSteps := 4000000) only [go_sem, con41, con32, hT, hG, hk, hK, Try.results41]); (try simp (disch := decide +kernel) only [drawn, true_and, and_true])
        have hML : (Q.take j ++ x :: (Q.drop j ++ l.drop (i + 1))).length = l.length := by simp; omega
        have hswap := fun h => mid_swap Q (l.drop (i + 1)) x j h
        have hg1 := mid_at Q (l.drop (i + 1)) x j (by omega)
        have hg2 := fun h => mid_before Q (l.drop (i + 1)) x j h
        have hins := fun h => hcl j hja hji hgt h
        generalize hM : Q.take j ++ x :: (Q.drop j ++ l.drop (i + 1)) = M at hML hswap hg1 hg2 hins ⊢
        simp only [List.length_set]
        by_cases hj0 : a < j
        · have hg2' := hg2 ⟨by omega, by omega⟩
          have hsw := hswap ⟨by omega, by omega⟩
          have hjl : j - 1 < Q.length := by omega
          have hp4 : 0 ≤ Q.getD (j - 1) 0 ∧ Q.getD (j - 1) 0 < js.length := h4 _ (List.mem_of_mem_take (hQp.mem_iff.1 (by rw [List.getD_eq_getElem?_getD, List.getElem?_eq_getElem hjl]; exact List.getElem_mem hjl)))
          rw [hg1, hg2', hsw]
          have hdr : Q.drop (j - 1) = Q.getD (j - 1) 0 :: Q.drop j := by
           have := drop_at hjl
           rwa [show j - 1 + 1 = j by omega] at this
          generalize hpe : Q.getD (j - 1) 0 = p at hp4 hdr hins ⊢
          refine ⟨fun _ => by omega, fun _ => ⟨fun _ => by omega, fun _ => ⟨fun _ => by omega, fun _ => by omega, fun _ => ⟨fun _ => by omega, fun _ => ⟨fun _ => ⟨hx4.1, hx4.2, hp4.1, hp4.2⟩, fun _ => ⟨fun hc => ?_, fun hc => ?_⟩⟩⟩⟩⟩⟩
          · have hlt2 : dueLt js x p = true := by
             simp only [Bool.and_eq_true, decide_eq_true_eq] at hc
             exact decide_eq_true ((cmpV_neg _ _).1 hc.2)
            refine ⟨by omega, by omega, by omega, fun _ => ⟨by omega, fun _ => ⟨by omega, fun _ => ⟨by omega, fun _ => ⟨by omega, fun _ => ⟨by omega, by omega, fun _ => ⟨by omega, by omega, fin_lp ⟨j - 1, by omega, by omega, ?_⟩ ?_ ?_⟩⟩⟩⟩⟩⟩⟩
            · intro y hy
              rw [hdr] at hy
              rcases List.mem_cons.1 hy with rfl | hy
              · exact hlt2
              · exact hgt y hy
            · simp only [go_sem]
              omega
            · show j - 1 < j
              omega
          · have hnl : dueLt js x p = false := by
             have : decide ((j : Int) > a) = true := decide_eq_true (by omega)
             rw [this, Bool.true_and, decide_eq_false_iff_not] at hc
             exact decide_eq_false fun k => hc ((cmpV_neg _ _).2 k)
            refine ⟨by omega, fin_lp ⟨i + 1, by omega, by omega⟩ ?_ ?_⟩
            · simp only [go_sem]
              refine ⟨?_, by omega⟩
              rw [← hins (fun _ => hnl)]
            · show l.length + 1 - (i + 1) < l.length + 1 - i
              omega
        · obtain rfl : j = a := by omega
          have hz : ¬ ((j : Int) > j) := by omega
          have hins2 := hins (fun h => absurd h (by omega))
          refine ⟨fun h => absurd h hz, fun _ => ⟨fun h => absurd h hz, fun _ => ⟨fun h => absurd h hz, fun h => absurd h hz, fun _ => ⟨fun h => absurd h hz, fun _ => ⟨fun h => absurd h hz, fun _ => ⟨fun hc => ?_, fun hc => ⟨by omega, fin_lp ⟨i + 1, by omega, by omega⟩ ?_ ?_⟩⟩⟩⟩⟩⟩⟩
          · rw [decide_eq_false hz] at hc; cases hc
          · simp only [go_sem]
            refine ⟨?_, by omega⟩
            rw [← hins2]
          · show l.length + 1 - (i + 1) < l.length + 1 - i
            omega
    · show sg (dueOf js) l a i = sg (dueOf js) l a b
      by_cases e : i = b
      · rw [e]
      · obtain rfl : i = a + 1 := by omega
        obtain rfl : a = b := by omega
        rw [sg_one, sg_nil])
end Go.Proofs.Ytfhbjmoegceelaa

/- The contracts of the functions that the statement about the crane's plans reaches: exchange and rotation of parts. -/
set_option linter.unusedSimpArgs false
set_option linter.unusedVariables false
set_option maxRecDepth 100000
set_option maxHeartbeats 4000000
namespace Go.Proofs.Ytfhbjmoegceelaa
open Go.Ev Go.Cp

def con60 : Con := { ps := [.o 3 (.int .i64), .d false (.int .i64), .d false (.int .i64), .d false (.int .i64), .cl 32 [.p 22 (.sl (.pair (.int .i64) (.int .i64)))]], rs := [], pre := fun (x : List Int × Int × Int × Int × (Jobs × Unit) × Unit) => 0 ≤ x.2.1 ∧ 0 ≤ x.2.2.2.1 ∧ x.2.1 + x.2.2.2.1 ≤ x.2.2.1 ∧ x.2.2.1 + x.2.2.2.1 ≤ x.1.length ∧ x.1.length ≤ 1000, out := fun x => (), nw := fun x => (swapB x.1 x.2.1.toNat x.2.2.1.toNat x.2.2.2.1.toNat, x.2) }
theorem c60 : CtrOk Try.prog 60 con60.ctr :=
 con_sound (G := ⟨[], [], [], [], []⟩) tab_ok EnvOk.nil rfl Try.func60 rfl con60 9247 (by kernel_rfl) (by decide) (by decide) rfl (by decide) rfl (by
  rintro ⟨(l : List Int), (a : Int), (b : Int), (n : Int), ⟨(js : Jobs), _⟩, _⟩ hpre hwf X hT hG hk hK
  obtain ⟨ha, hn, hab, hbl, h3⟩ : 0 ≤ a ∧ 0 ≤ n ∧ a + n ≤ b ∧ b + n ≤ l.length ∧ l.length ≤ 1000 := hpre
  obtain ⟨a, rfl⟩ := Int.eq_ofNat_of_zero_le ha
  obtain ⟨b, rfl⟩ := Int.eq_ofNat_of_zero_le (show 0 ≤ b by omega)
  obtain ⟨n, rfl⟩ := Int.eq_ofNat_of_zero_le hn
  clear ha hn
  (simp -implicitDefEqProofs (maxSteps := 4000000) only [go_sem, con60, hT, hG, hk, hK, Try.results60] at hwf ⊢); (try simp (disch := decide +kernel) only [drawn, true_and, and_true])
  refine evk_loop ⟨{ i : Nat // i ≤ n }, 1000,
   fun q => [(0, .one (.row 0)), (1, .one (.int .i64 a)), (2, .one (.int .i64 b)), (3, .one (.int .i64 n)), (10, .one (.int .i64 q.1))],
   fun q => [(0, .row 3 (.int .i64) (swapB l a b q.1)), (24, .cells 22 [.sl (.pair (.int .i64) (.int .i64)) js false])], fun q => n - q.1⟩ ⟨0, Nat.zero_le _⟩ ?_ ?_
  · simp only [go_sem]
    exact ⟨(swapB_zero (by omega)).symm, rfl⟩
  · rintro ⟨i, (hi : i ≤ n)⟩
    (simp -implicitDefEqProofs (maxSteps := 4000000) only [go_sem, con60, hT, hG, hk, hK, Try.results60]); (try simp (disch := decide +kernel) only [drawn, true_and, and_true])
    refine ⟨fun hlt => ?_, fun hge => ?_⟩
    · have h1 : a + i + 1 ≤ b := by omega
      have h2 : b + i + 1 ≤ l.length := by omega
      have e1 : ((a : Int) + i).toNat = a + i := by omega
      have e2 : ((b : Int) + i).toNat = b + i := by omega
      have hL := swapB_len (l := l) (show a + i ≤ b by omega) (show b + i ≤ l.length by omega)
      have st := swapB_step h1 h2
      simp only [e1, e2, swapB_get1 h1 h2, swapB_get2 h1 h2, List.length_set, hL, st]
      refine ⟨by omega, by omega, by omega, by omega, fun _ => ⟨by omega, fun _ => ⟨by omega, by omega, fun _ => ⟨by omega, fun _ => ⟨by omega, fun _ => ⟨by omega, by omega, fun _ => ⟨by omega, by omega, fin_lp ⟨i + 1, by omega⟩ ?_ ?_⟩⟩⟩⟩⟩⟩⟩
      · simp only [go_sem]
        try rfl
      · show n - (i + 1) < n - i
        omega
    · show swapB l a b i = swapB l a b n
      rw [show i = n by omega])
def con54 : Con := { ps := [.o 3 (.int .i64), .d false (.int .i64), .d false (.int .i64), .d false (.int .i64), .cl 32 [.p 22 (.sl (.pair (.int .i64) (.int .i64)))]], rs := [], pre := fun (x : List Int × Int × Int × Int × (Jobs × Unit) × Unit) => 0 ≤ x.2.1 ∧ x.2.1 < x.2.2.1 ∧ x.2.2.1 < x.2.2.2.1 ∧ x.2.2.2.1 ≤ x.1.length ∧ x.1.length ≤ 1000, out := fun x => (), nw := fun x => (rotL x.1 x.2.1.toNat x.2.2.1.toNat x.2.2.2.1.toNat, x.2) }
theorem c54 : CtrOk Try.prog 54 con54.ctr :=
 con_sound (G := ⟨[(60, con60.ctr)], [], [], [], []⟩) tab_ok (EnvOk.cons c60 has60 EnvOk.nil) rfl Try.func54 rfl con54 9440287 (by kernel_rfl) (by decide) (by decide) rfl (by decide) rfl (by
  rintro ⟨(l : List Int), (a : Int), (m : Int), (b : Int), ⟨(js : Jobs), _⟩, _⟩ hpre hwf X hT hG hk hK
  obtain ⟨ha, ham, hmb, hbl, h3⟩ : 0 ≤ a ∧ a < m ∧ m < b ∧ b ≤ l.length ∧ l.length ≤ 1000 := hpre
  obtain ⟨a, rfl⟩ := Int.eq_ofNat_of_zero_le ha
  obtain ⟨m, rfl⟩ := Int.eq_ofNat_of_zero_le (show 0 ≤ m by omega)
  obtain ⟨b, rfl⟩ := Int.eq_ofNat_of_zero_le (show 0 ≤ b by omega)
  clear ha
  (simp -implicitDefEqProofs (maxSteps := 4000000) only [go_sem, con54, con60, hT, hG, hk, hK, Try.results54] at hwf ⊢); (try simp (disch := decide +kernel) only [drawn, true_and, and_true])
  refine ⟨⟨by omega, by omega⟩, ⟨by omega, by omega⟩, ?_⟩
  refine evk_loop ⟨{ q : Nat × Nat × List Int // 0 < q.1 ∧ 0 < q.2.1 ∧ a + q.1 ≤ m ∧ m + q.2.1 ≤ b ∧ q.2.2.length = l.length ∧ rotL q.2.2 (m - q.1) m (m + q.2.1) = rotL l a m b }, 1000,
   fun q => [(0, .one (.row 0)), (2, .one (.int .i64 m)), (4, .one (.fn 32 [.loc 24 0])), (10, .one (.int .i64 q.1.1)), (11, .one (.int .i64 q.1.2.1))],
   fun q => [(0, .row 3 (.int .i64) q.1.2.2), (24, .cells 22 [.sl (.pair (.int .i64) (.int .i64)) js false])], fun q => q.1.1 + q.1.2.1⟩ ⟨(m - a, b - m, l), by simp only; omega, by simp only; omega, by simp only; omega, by simp only; omega, rfl, by simp only; rw [show m - (m - a) = a by omega, show m + (b - m) = b by omega]⟩ ?_ ?_
  · simp only [go_sem]
    omega
  · rintro ⟨⟨i, j, M⟩, (hi : 0 < i), (hj : 0 < j), (hai : a + i ≤ m), (hjb : m + j ≤ b), (hM : M.length = l.length), (he : rotL M (m - i) m (m + j) = rotL l a m b)⟩
    (simp -implicitDefEqProofs (maxSteps := 4000000) only [go_sem, con54, con60, hT, hG, hk, hK, Try.results54]); (try simp (disch := decide +kernel) only [drawn, true_and, and_true])
    have e1 : ((m : Int) - i).toNat = m - i := by omega
    have e2 : ((m : Int) + j - i).toNat = m + j - i := by omega
    refine ⟨fun hne => ⟨fun hgt => ?_, fun hle => ?_⟩, fun heq => ?_⟩
    · rw [e1]
      refine ⟨by omega, ⟨by omega, by omega, by omega, by omega, by omega⟩, by omega, fin_lp ⟨(i - j, j, swapB M (m - i) m j), by simp only; omega, hj, by simp only; omega, hjb, ?_, ?_⟩ ?_ ?_⟩
      · exact (swapB_len (l := M) (a := m - i) (b := m) (k := j) (by omega) (by omega)).trans hM
      · show rotL (swapB M (m - i) m j) (m - (i - j)) m (m + j) = rotL l a m b
        rw [show m - (i - j) = m - i + j by omega, rot_left (l := M) (p := m - i) (m := m) (j := j) (by omega) (by omega), he]
      · simp only [go_sem]
        first | (exact ⟨rfl, by omega⟩) | (refine ⟨?_, ?_⟩ <;> first | rfl | omega) | omega
      · show i - j + j < i + j
        omega
    · rw [e1, e2]
      refine ⟨by omega, by omega, by omega, ⟨by omega, by omega, by omega, by omega, by omega⟩, by omega, fin_lp ⟨(i, j - i, swapB M (m - i) (m + j - i) i), hi, by simp only; omega, hai, by simp only; omega, ?_, ?_⟩ ?_ ?_⟩
      · exact (swapB_len (l := M) (a := m - i) (b := m + j - i) (k := i) (by omega) (by omega)).trans hM
      · show rotL (swapB M (m - i) (m + j - i) i) (m - i) m (m + (j - i)) = rotL l a m b
        rw [show m + (j - i) = m + j - i by omega, rot_right (l := M) (p := m - i) (m := m) (i := i) (j := j) (by omega) (by omega) (by omega), he]
      · simp only [go_sem]
        first | (exact ⟨rfl, by omega⟩) | (refine ⟨?_, ?_⟩ <;> first | rfl | omega) | omega
      · show i + (j - i) < i + j
        omega
    · obtain rfl : i = j := by omega
      refine ⟨by omega, ⟨by omega, by omega, by omega, by omega, by omega⟩, ?_⟩
      rw [e1]
      show swapB M (m - i) m i = rotL l a m b
      rw [rot_end (l := M) (p := m - i) (m := m) (i := i) (by omega), he])
end Go.Proofs.Ytfhbjmoegceelaa

/- The contract of the merge that calls itself: a family, by induction. (The text is expanded by exp.py and then turned by cpx.sh: symC into symC.) -/
set_option linter.unusedSimpArgs false
set_option linter.unusedVariables false
set_option maxRecDepth 100000
set_option maxHeartbeats 4000000
namespace Go.Proofs.Ytfhbjmoegceelaa
open Go.Ev Go.Cp

def symC (n : Nat) : Con := { ps := [.o 3 (.int .i64), .d false (.int .i64), .d false (.int .i64), .d false (.int .i64), .cl 32 [.p 22 (.sl (.pair (.int .i64) (.int .i64)))]], rs := [], pre := fun (x : List Int × Int × Int × Int × (Jobs × Unit) × Unit) => 0 ≤ x.2.1 ∧ x.2.1 < x.2.2.1 ∧ x.2.2.1 < x.2.2.2.1 ∧ x.2.2.2.1 ≤ x.1.length ∧ x.1.length ≤ 1000 ∧ x.2.2.2.1 - x.2.1 ≤ n ∧ (∀ k ∈ x.1, 0 ≤ k ∧ k < x.2.2.2.2.1.1.length) ∧ SrtK (dueOf x.2.2.2.2.1.1) (seg x.1 x.2.1.toNat x.2.2.1.toNat) ∧ SrtK (dueOf x.2.2.2.2.1.1) (seg x.1 x.2.2.1.toNat x.2.2.2.1.toNat), out := fun x => (), nw := fun x => (sg (dueOf x.2.2.2.2.1.1) x.1 x.2.1.toNat x.2.2.2.1.toNat, x.2) }
theorem symZero : CtrOk Try.prog 42 (symC 0).ctr :=
 con_sound (G := ⟨[(54, con54.ctr), (32, con32.ctr)], [], [], [], []⟩) tab_ok (EnvOk.cons c54 has54 (EnvOk.cons c32 has32 EnvOk.nil)) rfl Try.func42 rfl (symC 0) 13164839976634628298295110780136696778032692856359452003713154079 (by kernel_rfl) (by decide) (by decide) rfl (by decide) rfl (by
  rintro ⟨(l : List Int), (a : Int), (m : Int), (b : Int), ⟨(js : Jobs), _⟩, _⟩ hpre
  obtain ⟨ha, ham, hmb, hbl, h3, hab, _⟩ : 0 ≤ a ∧ a < m ∧ m < b ∧ b ≤ l.length ∧ l.length ≤ 1000 ∧ b - a ≤ ((0 : Nat) : Int) ∧ _ := hpre
  exact absurd hab (by omega))
theorem symStep (n : Nat) (ih : CtrOk Try.prog 42 (symC n).ctr) : CtrOk Try.prog 42 (symC (n + 1)).ctr :=
 con_sound (G := ⟨[(54, con54.ctr), (32, con32.ctr), (42, (symC n).ctr)], [], [], [], []⟩) tab_ok (EnvOk.cons c54 has54 (EnvOk.cons c32 has32 (EnvOk.cons ih has42 EnvOk.nil))) rfl Try.func42 rfl (symC (n + 1)) 13164839976634628298295110780136696778032692856359452003713154079 (by kernel_rfl) (show pcOk (symC 0).ps = true by decide) (show (symC 0).ps.length ≤ Try.f42.ntmps by decide) rfl (by decide) rfl (by
  rintro ⟨(l : List Int), (a : Int), (m : Int), (b : Int), ⟨(js : Jobs), _⟩, _⟩ hpre hwf X hT hG hk hK
  obtain ⟨ha, ham, hmb, hbl, h3, hab, h4, hs1, hs2⟩ : 0 ≤ a ∧ a < m ∧ m < b ∧ b ≤ l.length ∧ l.length ≤ 1000 ∧ b - a ≤ ((n + 1 : Nat) : Int) ∧ (∀ k ∈ l, 0 ≤ k ∧ k < js.length) ∧ SrtK (dueOf js) (seg l a.toNat m.toNat) ∧ SrtK (dueOf js) (seg l m.toNat b.toNat) := hpre
  obtain ⟨a, rfl⟩ := Int.eq_ofNat_of_zero_le ha
  obtain ⟨m, rfl⟩ := Int.eq_ofNat_of_zero_le (show 0 ≤ m by omega)
  obtain ⟨b, rfl⟩ := Int.eq_ofNat_of_zero_le (show 0 ≤ b by omega)
  clear ha
  (simp -implicitDefEqProofs (maxSteps := 4000000) only [go_sem, symC, con54, con32, hT, hG, hk, hK, Try.results42] at hwf ⊢); (try simp (disch := decide +kernel) only [drawn, true_and, and_true])
  simp only [Int.toNat_natCast] at hs1 hs2
  have hH : ∀ k : Nat, k < l.length → 0 ≤ l.getD k 0 ∧ l.getD k 0 < js.length := fun k hk => h4 _ (by rw [List.getD_eq_getElem?_getD, List.getElem?_eq_getElem hk]; exact List.getElem_mem hk)
  have srt1 := fun i j h1 h2 h3 => srt_le (key := dueOf js) (l := l) (a := a) (b := m) (by omega) hs1 (i := i) (j := j) h1 h2 h3
  have srt2 := fun i j h1 h2 h3 => srt_le (key := dueOf js) (l := l) (a := m) (b := b) (by omega) hs2 (i := i) (j := j) h1 h2 h3
  refine ⟨by omega, fun hone => ?_, fun hmore => ⟨by omega, fun hone => ?_, fun hmore2 => ?_⟩⟩
  · obtain rfl : m = a + 1 := by omega
    refine evk_loop ⟨{ q : Nat × Nat // a + 1 ≤ q.1 ∧ q.1 ≤ q.2 ∧ q.2 ≤ b ∧ (a + 1 < q.1 → dueOf js (l.getD (q.1 - 1) 0) < dueOf js (l.getD a 0)) ∧ (q.2 < b → dueOf js (l.getD a 0) ≤ dueOf js (l.getD q.2 0)) }, 1000,
     fun q => [(0, .one (.row 0)), (1, .one (.int .i64 a)), (4, .one (.fn 32 [.loc 24 0])), (10, .one (.int .i64 q.1.1)), (11, .one (.int .i64 q.1.2))],
     fun q => [(0, .row 3 (.int .i64) l), (24, .cells 22 [.sl (.pair (.int .i64) (.int .i64)) js false])], fun q => q.1.2 - q.1.1⟩ ⟨(a + 1, b), Nat.le_refl _, by simp only; omega, Nat.le_refl _, fun h => absurd h (by simp only; omega), fun h => absurd h (by simp only; omega)⟩ ?_ ?_
    · simp only [go_sem]
    · rintro ⟨⟨i, j⟩, (hi : a + 1 ≤ i), (hij : i ≤ j), (hj : j ≤ b), (hlo : a + 1 < i → dueOf js (l.getD (i - 1) 0) < dueOf js (l.getD a 0)), (hhi : j < b → dueOf js (l.getD a 0) ≤ dueOf js (l.getD j 0))⟩
      (simp -implicitDefEqProofs (maxSteps := 4000000) only [go_sem, symC, con54, con32, hT, hG, hk, hK, Try.results42]); (try simp (disch := decide +kernel) only [drawn, true_and, and_true])
      have eh : ((i : Int) + (j : Int)) / 2 ^ Int.toNat 1 = (((i + j) / 2 : Nat) : Int) := by rw [show ((2 : Int) ^ Int.toNat 1) = 2 from rfl]; omega
      simp only [eh, Int.toNat_natCast]
      refine ⟨fun hlt => ?_, fun hge => ?_⟩
      · have hh : i ≤ (i + j) / 2 ∧ (i + j) / 2 < j := by omega
        generalize (i + j) / 2 = h at hh
        have k1 := hH h (by omega)
        have k2 := hH a (by omega)
        (repeat' (with_reducible (first | refine And.intro ?_ ?_ | intro _))) <;> (try (first | with_reducible (first | done | assumption | omega | contradiction) | decide))
        all_goals try first | exact k1.1 | exact k1.2 | exact k2.1 | exact k2.2
        · rename_i hc
          have hc' := (cmpV_neg _ _).1 hc
          refine fin_lp ⟨(h + 1, j), by simp only; omega, by simp only; omega, hj, fun _ => hc', hhi⟩ ?_ ?_
          · simp only [go_sem]
            try rfl
          · show j - (h + 1) < j - i
            omega
        · rename_i hc
          have hc' : ¬ _ := fun h => hc ((cmpV_neg _ _).2 h)
          refine fin_lp ⟨(i, h), hi, by simp only; omega, by simp only; omega, hlo, fun _ => by simp only; omega⟩ ?_ ?_
          · simp only [go_sem]
            try rfl
          · show h - i < j - i
            omega
      · obtain rfl : i = j := by omega
        refine evk_loop ⟨{ k : Nat // a ≤ k ∧ k + 1 ≤ i }, 2000,
         fun q => [(0, .one (.row 0)), (10, .one (.int .i64 i)), (13, .one (.int .i64 q.1))],
         fun q => [(0, .row 3 (.int .i64) (rotL l a (a + 1) (q.1 + 1))), (24, .cells 22 [.sl (.pair (.int .i64) (.int .i64)) js false])], fun q => i - q.1⟩ ⟨a, Nat.le_refl _, hi⟩ ?_ ?_
        · simp only [go_sem]
          exact (rot_none2 (by omega)).symm
        · rintro ⟨k, (hak : a ≤ k), (hki : k + 1 ≤ i)⟩
          (simp -implicitDefEqProofs (maxSteps := 4000000) only [go_sem, symC, con54, con32, hT, hG, hk, hK, Try.results42]); (try simp (disch := decide +kernel) only [drawn, true_and, and_true])
          have hL : (rotL l a (a + 1) (k + 1)).length = l.length := rotL_len (by omega) (by omega) (by omega)
          refine ⟨by omega, fun hlt => ?_, fun hge => ?_⟩
          · have hk2 : k + 1 < l.length := by omega
            have g1 := rotA_get1 hak hk2
            have g2 := rotA_get2 hak hk2
            have st := rotA_step hak hk2
            have e1 : ((k : Int) + 1).toNat = k + 1 := by omega
            simp only [e1, Int.toNat_natCast, g1, g2, List.length_set, hL, st]
            (repeat' (with_reducible (first | refine And.intro ?_ ?_ | intro _))) <;> (try (first | with_reducible (first | done | assumption | omega | contradiction) | decide))
            refine fin_lp ⟨k + 1, by omega, by omega⟩ ?_ ?_
            · simp only [go_sem]
              try rfl
            · show i - (k + 1) < i - k
              omega
          · obtain rfl : i = k + 1 := by omega
            refine rot_done (key := dueOf js) (Nat.le_refl a) (by omega) hi (by omega) (by omega) hs1 hs2 (fun h _ => hlo h) (fun h => absurd h (by omega)) (fun h => absurd h (by omega)) (fun _ h => hhi h)
  · obtain rfl : b = m + 1 := by omega
    refine evk_loop ⟨{ q : Nat × Nat // a ≤ q.1 ∧ q.1 ≤ q.2 ∧ q.2 ≤ m ∧ (a < q.1 → dueOf js (l.getD (q.1 - 1) 0) ≤ dueOf js (l.getD m 0)) ∧ (q.2 < m → dueOf js (l.getD m 0) < dueOf js (l.getD q.2 0)) }, 3000,
     fun q => [(0, .one (.row 0)), (2, .one (.int .i64 m)), (4, .one (.fn 32 [.loc 24 0])), (14, .one (.int .i64 q.1.1)), (15, .one (.int .i64 q.1.2))],
     fun q => [(0, .row 3 (.int .i64) l), (24, .cells 22 [.sl (.pair (.int .i64) (.int .i64)) js false])], fun q => q.1.2 - q.1.1⟩ ⟨(a, m), Nat.le_refl _, by simp only; omega, Nat.le_refl _, fun h => absurd h (by simp only; omega), fun h => absurd h (by simp only; omega)⟩ ?_ ?_
    · simp only [go_sem]
    · rintro ⟨⟨i, j⟩, (hi : a ≤ i), (hij : i ≤ j), (hj : j ≤ m), (hlo : a < i → dueOf js (l.getD (i - 1) 0) ≤ dueOf js (l.getD m 0)), (hhi : j < m → dueOf js (l.getD m 0) < dueOf js (l.getD j 0))⟩
      (simp -implicitDefEqProofs (maxSteps := 4000000) only [go_sem, symC, con54, con32, hT, hG, hk, hK, Try.results42]); (try simp (disch := decide +kernel) only [drawn, true_and, and_true])
      have eh : ((i : Int) + (j : Int)) / 2 ^ Int.toNat 1 = (((i + j) / 2 : Nat) : Int) := by rw [show ((2 : Int) ^ Int.toNat 1) = 2 from rfl]; omega
      simp only [eh, Int.toNat_natCast, Bool.not_eq_true', decide_eq_false_iff_not, Bool.not_eq_false', decide_eq_true_eq, Bool.not_eq_true]
      refine ⟨fun hlt => ?_, fun hge => ?_⟩
      · have hh : i ≤ (i + j) / 2 ∧ (i + j) / 2 < j := by omega
        generalize (i + j) / 2 = h at hh
        have k1 := hH h (by omega)
        have k2 := hH m (by omega)
        (repeat' (with_reducible (first | refine And.intro ?_ ?_ | intro _))) <;> (try (first | with_reducible (first | done | assumption | omega | contradiction) | decide))
        all_goals try first | exact k1.1 | exact k1.2 | exact k2.1 | exact k2.2
        · rename_i hc
          have hc' : ¬ _ := fun h => hc ((cmpV_neg _ _).2 h)
          refine fin_lp ⟨(h + 1, j), by simp only; omega, by simp only; omega, hj, fun _ => by simp only [Nat.add_sub_cancel]; omega, hhi⟩ ?_ ?_
          · simp only [go_sem]
            try rfl
          · show j - (h + 1) < j - i
            omega
        · rename_i hc
          have hc' := (cmpV_neg _ _).1 hc
          refine fin_lp ⟨(i, h), hi, by simp only; omega, by simp only; omega, hlo, fun _ => hc'⟩ ?_ ?_
          · simp only [go_sem]
            try rfl
          · show h - i < j - i
            omega
      · obtain rfl : i = j := by omega
        refine evk_loop ⟨{ k : Nat // i ≤ k ∧ k ≤ m }, 4000,
         fun q => [(0, .one (.row 0)), (14, .one (.int .i64 i)), (17, .one (.int .i64 q.1))],
         fun q => [(0, .row 3 (.int .i64) (rotL l q.1 m (m + 1))), (24, .cells 22 [.sl (.pair (.int .i64) (.int .i64)) js false])], fun q => q.1⟩ ⟨m, hj, Nat.le_refl m⟩ ?_ ?_
        · simp only [go_sem]
          exact (rot_none1 (by omega)).symm
        · rintro ⟨k, (hik : i ≤ k), (hkm : k ≤ m)⟩
          (simp -implicitDefEqProofs (maxSteps := 4000000) only [go_sem, symC, con54, con32, hT, hG, hk, hK, Try.results42]); (try simp (disch := decide +kernel) only [drawn, true_and, and_true])
          refine ⟨fun hlt => ?_, fun hge => ?_⟩
          · obtain ⟨k, rfl⟩ : ∃ k', k = k' + 1 := ⟨k - 1, by omega⟩
            have hL : (rotL l (k + 1) m (m + 1)).length = l.length := rotL_len (by omega) (by omega) (by omega)
            have hk2 : m < l.length := by omega
            have g1 := rotB_get1 hkm hk2
            have g2 := rotB_get2 hkm hk2
            have st := rotB_step hkm hk2
            have e1 : (((k + 1 : Nat) : Int) - 1).toNat = k := by omega
            simp only [e1, Int.toNat_natCast, g1, g2, List.length_set, hL, st]
            (repeat' (with_reducible (first | refine And.intro ?_ ?_ | intro _))) <;> (try (first | with_reducible (first | done | assumption | omega | contradiction) | decide))
            refine fin_lp ⟨k, by omega, by omega⟩ ?_ ?_
            · simp only [go_sem]
              try omega
            · show k < k + 1
              omega
          · obtain rfl : i = k := by omega
            refine rot_done (key := dueOf js) hi (by omega) (by omega) (Nat.le_refl _) (by omega) hs1 hs2 (fun _ h => hhi h) (fun _ h => absurd h (by omega)) (fun h _ => hlo h) (fun _ h => absurd h (by omega))
  · clear hwf
    have eh : ((a : Int) + (b : Int)) / 2 ^ Int.toNat 1 = (((a + b) / 2 : Nat) : Int) := by rw [show ((2 : Int) ^ Int.toNat 1) = 2 from rfl]; omega
    simp only [eh]
    have hd : a < (a + b) / 2 ∧ (a + b) / 2 < b ∧ 2 * ((a + b) / 2) ≤ a + b ∧ a + b ≤ 2 * ((a + b) / 2) + 1 := by omega
    clear eh
    generalize (a + b) / 2 = d at hd
    obtain ⟨hd1, hd2, hd3, hd4⟩ := hd
    refine ⟨by omega, by omega, by omega, by omega, by omega, fun hb => ⟨by omega, by omega, ?_⟩, fun hb => ⟨by omega, ?_⟩⟩
    · refine evk_loop ⟨{ q : Nat × Nat // a ≤ q.1 ∧ d + m ≤ b + q.1 ∧ q.1 ≤ q.2 ∧ q.2 ≤ m ∧ q.2 ≤ d ∧ (q.2 < m → q.2 < d → dueOf js (l.getD (d + m - q.2 - 1) 0) < dueOf js (l.getD q.2 0)) ∧ (a < q.1 → d + m < b + q.1 → dueOf js (l.getD (q.1 - 1) 0) ≤ dueOf js (l.getD (d + m - q.1) 0)) }, 5000,
       fun q => [(0, .one (.row 0)), (1, .one (.int .i64 a)), (2, .one (.int .i64 m)), (3, .one (.int .i64 b)), (4, .one (.fn 32 [.loc 24 0])), (18, .one (.int .i64 d)), (19, .one (.int .i64 ((d : Int) + m))), (20, .one (.int .i64 q.1.1)), (21, .one (.int .i64 q.1.2)), (22, .one (.int .i64 ((d : Int) + m - 1)))],
       fun q => [(0, .row 3 (.int .i64) l), (24, .cells 22 [.sl (.pair (.int .i64) (.int .i64)) js false])], fun q => q.1.2 - q.1.1⟩ ⟨(d + m - b, d), by simp only; omega, by simp only; omega, by simp only; omega, by simp only; omega, Nat.le_refl _, fun _ h => absurd h (by simp only; omega), fun _ h => absurd h (by simp only; omega)⟩ ?_ ?_
      · simp only [go_sem]
        omega
      · rintro ⟨⟨s, r⟩, (h1 : a ≤ s), (h2 : d + m ≤ b + s), (h3' : s ≤ r), (h5 : r ≤ m), (h6 : r ≤ d), (hlo : r < m → r < d → dueOf js (l.getD (d + m - r - 1) 0) < dueOf js (l.getD r 0)), (hhi : a < s → d + m < b + s → dueOf js (l.getD (s - 1) 0) ≤ dueOf js (l.getD (d + m - s) 0))⟩
        (simp -implicitDefEqProofs (maxSteps := 4000000) only [go_sem, symC, con54, con32, hT, hG, hk, hK, Try.results42]); (try simp (disch := decide +kernel) only [drawn, true_and, and_true])
        have eh : ((s : Int) + (r : Int)) / 2 ^ Int.toNat 1 = (((s + r) / 2 : Nat) : Int) := by rw [show ((2 : Int) ^ Int.toNat 1) = 2 from rfl]; omega
        simp only [eh, Int.toNat_natCast, Bool.not_eq_true', decide_eq_false_iff_not, Bool.not_eq_false', decide_eq_true_eq, Bool.not_eq_true]
        refine ⟨fun hlt => ?_, fun hge => ?_⟩
        · have hh : s ≤ (s + r) / 2 ∧ (s + r) / 2 < r := by omega
          generalize (s + r) / 2 = c at hh
          have ep : ((d : Int) + m - 1 - c).toNat = d + m - 1 - c := by omega
          have k1 := hH c (by omega)
          have k2 := hH (d + m - 1 - c) (by omega)
          simp only [ep]
          (repeat' (with_reducible (first | refine And.intro ?_ ?_ | intro _))) <;> (try (first | with_reducible (first | done | assumption | omega | contradiction) | decide))
          all_goals try first | exact k1.1 | exact k1.2 | exact k2.1 | exact k2.2
          · rename_i hc
            have hc' : ¬ _ := fun h => hc ((cmpV_neg _ _).2 h)
            refine fin_lp ⟨(c + 1, r), by simp only; omega, by simp only; omega, by simp only; omega, h5, h6, hlo, fun _ _ => ?_⟩ ?_ ?_
            · simp only [Nat.add_sub_cancel, show d + m - (c + 1) = d + m - 1 - c by omega]; omega
            · simp only [go_sem]
              try rfl
            · show r - (c + 1) < r - s
              omega
          · rename_i hc
            have hc' := (cmpV_neg _ _).1 hc
            refine fin_lp ⟨(s, c), h1, h2, by simp only; omega, by simp only; omega, by simp only; omega, fun _ _ => ?_, hhi⟩ ?_ ?_
            · simp only [show d + m - c - 1 = d + m - 1 - c by omega]; exact hc'
            · simp only [go_sem]
              try rfl
            · show c - s < r - s
              omega
        · obtain rfl : s = r := by omega
          clear hge h3'
          have he : ((d : Int) + m - s) = ((d + m - s : Nat) : Int) := by omega
          obtain ⟨e, hee⟩ : ∃ e, e = d + m - s := ⟨_, rfl⟩
          simp only [he, ← hee, Int.toNat_natCast, Bool.and_eq_true, decide_eq_true_eq, Bool.and_eq_false_iff, decide_eq_false_iff_not]
          have hlo2 : m < e → s < m → dueOf js (l.getD (e - 1) 0) < dueOf js (l.getD s 0) := fun h h' => by rw [hee]; exact hlo h' (by omega)
          have hhi2 : a < s → e < b → dueOf js (l.getD (s - 1) 0) ≤ dueOf js (l.getD e 0) := fun h h' => by rw [hee]; exact hhi h (by omega)
          obtain ⟨q1, q2, q3, q4, q5, q6, q7, q8, q9, q10, q11, q12, q13⟩ := sym_end (R := rotL l s m e) (R1 := sg (dueOf js) (rotL l s m e) a d) h1 h5 (by omega) (by omega) (by omega) (by omega) (by omega) (by omega) hs1 hs2 hlo2 hhi2 rfl rfl
          have m1 : ∀ k : Int, k ∈ rotL l s m e → 0 ≤ k ∧ k < js.length := fun k hk => h4 k (q3.mem_iff.1 hk)
          have m2 : ∀ k : Int, k ∈ sg (dueOf js) (rotL l s m e) a d → 0 ≤ k ∧ k < js.length := fun k hk => h4 k (q4.mem_iff.1 hk)
          have hR0 : ¬ (s < m ∧ m < e) → rotL l s m e = l := fun h => by
           by_cases hsm : s = m
           · rw [hsm]; exact rot_none1 (by omega)
           · rw [show e = m by omega]; exact rot_none2 h5
          generalize hR : rotL l s m e = R at *
          refine ⟨by omega, fun hc1 => ⟨⟨by omega, by omega, by omega, by omega, h3⟩, ?_⟩, fun hc1 => ?_⟩
          case' refine_2 =>
           have hRl := hR0 (by omega)
           rw [hRl] at q1 q2 q7 q8 q9 q10 q11 q12 q13 m1 m2
          all_goals
           refine ⟨fun hc2 => ⟨⟨by omega, by omega, by omega, by omega, by omega, by omega, m1, q7, q8⟩, fun hc3 => ⟨⟨by omega, by omega, by omega, by omega, by omega, by omega, m2, q9, q10⟩, q12⟩, fun hc3 => q13 (by omega)⟩, fun hc2 => ?_⟩
           have hRR := q11 (by omega)
           rw [hRR] at q2 q9 q10 q12 q13 m2
           exact ⟨fun hc3 => ⟨⟨by omega, by omega, by omega, by omega, by omega, by omega, m1, q9, q10⟩, q12⟩, fun hc3 => q13 (by omega)⟩
    · refine evk_loop ⟨{ q : Nat × Nat // a ≤ q.1 ∧ d + m ≤ b + q.1 ∧ q.1 ≤ q.2 ∧ q.2 ≤ m ∧ q.2 ≤ d ∧ (q.2 < m → q.2 < d → dueOf js (l.getD (d + m - q.2 - 1) 0) < dueOf js (l.getD q.2 0)) ∧ (a < q.1 → d + m < b + q.1 → dueOf js (l.getD (q.1 - 1) 0) ≤ dueOf js (l.getD (d + m - q.1) 0)) }, 5000,
       fun q => [(0, .one (.row 0)), (1, .one (.int .i64 a)), (2, .one (.int .i64 m)), (3, .one (.int .i64 b)), (4, .one (.fn 32 [.loc 24 0])), (18, .one (.int .i64 d)), (19, .one (.int .i64 ((d : Int) + m))), (20, .one (.int .i64 q.1.1)), (21, .one (.int .i64 q.1.2)), (22, .one (.int .i64 ((d : Int) + m - 1)))],
       fun q => [(0, .row 3 (.int .i64) l), (24, .cells 22 [.sl (.pair (.int .i64) (.int .i64)) js false])], fun q => q.1.2 - q.1.1⟩ ⟨(a, m), Nat.le_refl _, by simp only; omega, by simp only; omega, Nat.le_refl _, by simp only; omega, fun h => absurd h (by simp only; omega), fun h => absurd h (by simp only; omega)⟩ ?_ ?_
      · simp only [go_sem]
      · rintro ⟨⟨s, r⟩, (h1 : a ≤ s), (h2 : d + m ≤ b + s), (h3' : s ≤ r), (h5 : r ≤ m), (h6 : r ≤ d), (hlo : r < m → r < d → dueOf js (l.getD (d + m - r - 1) 0) < dueOf js (l.getD r 0)), (hhi : a < s → d + m < b + s → dueOf js (l.getD (s - 1) 0) ≤ dueOf js (l.getD (d + m - s) 0))⟩
        (simp -implicitDefEqProofs (maxSteps := 4000000) only [go_sem, symC, con54, con32, hT, hG, hk, hK, Try.results42]); (try simp (disch := decide +kernel) only [drawn, true_and, and_true])
        have eh : ((s : Int) + (r : Int)) / 2 ^ Int.toNat 1 = (((s + r) / 2 : Nat) : Int) := by rw [show ((2 : Int) ^ Int.toNat 1) = 2 from rfl]; omega
        simp only [eh, Int.toNat_natCast, Bool.not_eq_true', decide_eq_false_iff_not, Bool.not_eq_false', decide_eq_true_eq, Bool.not_eq_true]
        refine ⟨fun hlt => ?_, fun hge => ?_⟩
        · have hh : s ≤ (s + r) / 2 ∧ (s + r) / 2 < r := by omega
          generalize (s + r) / 2 = c at hh
          have ep : ((d : Int) + m - 1 - c).toNat = d + m - 1 - c := by omega
          have k1 := hH c (by omega)
          have k2 := hH (d + m - 1 - c) (by omega)
          simp only [ep]
          (repeat' (with_reducible (first | refine And.intro ?_ ?_ | intro _))) <;> (try (first | with_reducible (first | done | assumption | omega | contradiction) | decide))
          all_goals try first | exact k1.1 | exact k1.2 | exact k2.1 | exact k2.2
          · rename_i hc
            have hc' : ¬ _ := fun h => hc ((cmpV_neg _ _).2 h)
            refine fin_lp ⟨(c + 1, r), by simp only; omega, by simp only; omega, by simp only; omega, h5, h6, hlo, fun _ _ => ?_⟩ ?_ ?_
            · simp only [Nat.add_sub_cancel, show d + m - (c + 1) = d + m - 1 - c by omega]; omega
            · simp only [go_sem]
              try rfl
            · show r - (c + 1) < r - s
              omega
          · rename_i hc
            have hc' := (cmpV_neg _ _).1 hc
            refine fin_lp ⟨(s, c), h1, h2, by simp only; omega, by simp only; omega, by simp only; omega, fun _ _ => ?_, hhi⟩ ?_ ?_
            · simp only [show d + m - c - 1 = d + m - 1 - c by omega]; exact hc'
            · simp only [go_sem]
              try rfl
            · show c - s < r - s
              omega
        · obtain rfl : s = r := by omega
          clear hge h3'
          have he : ((d : Int) + m - s) = ((d + m - s : Nat) : Int) := by omega
          obtain ⟨e, hee⟩ : ∃ e, e = d + m - s := ⟨_, rfl⟩
          simp only [he, ← hee, Int.toNat_natCast, Bool.and_eq_true, decide_eq_true_eq, Bool.and_eq_false_iff, decide_eq_false_iff_not]
          have hlo2 : m < e → s < m → dueOf js (l.getD (e - 1) 0) < dueOf js (l.getD s 0) := fun h h' => by rw [hee]; exact hlo h' (by omega)
          have hhi2 : a < s → e < b → dueOf js (l.getD (s - 1) 0) ≤ dueOf js (l.getD e 0) := fun h h' => by rw [hee]; exact hhi h (by omega)
          obtain ⟨q1, q2, q3, q4, q5, q6, q7, q8, q9, q10, q11, q12, q13⟩ := sym_end (R := rotL l s m e) (R1 := sg (dueOf js) (rotL l s m e) a d) h1 h5 (by omega) (by omega) (by omega) (by omega) (by omega) (by omega) hs1 hs2 hlo2 hhi2 rfl rfl
          have m1 : ∀ k : Int, k ∈ rotL l s m e → 0 ≤ k ∧ k < js.length := fun k hk => h4 k (q3.mem_iff.1 hk)
          have m2 : ∀ k : Int, k ∈ sg (dueOf js) (rotL l s m e) a d → 0 ≤ k ∧ k < js.length := fun k hk => h4 k (q4.mem_iff.1 hk)
          have hR0 : ¬ (s < m ∧ m < e) → rotL l s m e = l := fun h => by
           by_cases hsm : s = m
           · rw [hsm]; exact rot_none1 (by omega)
           · rw [show e = m by omega]; exact rot_none2 h5
          generalize hR : rotL l s m e = R at *
          refine ⟨by omega, fun hc1 => ⟨⟨by omega, by omega, by omega, by omega, h3⟩, ?_⟩, fun hc1 => ?_⟩
          case' refine_2 =>
           have hRl := hR0 (by omega)
           rw [hRl] at q1 q2 q7 q8 q9 q10 q11 q12 q13 m1 m2
          all_goals
           refine ⟨fun hc2 => ⟨⟨by omega, by omega, by omega, by omega, by omega, by omega, m1, q7, q8⟩, fun hc3 => ⟨⟨by omega, by omega, by omega, by omega, by omega, by omega, m2, q9, q10⟩, q12⟩, fun hc3 => q13 (by omega)⟩, fun hc2 => ?_⟩
           have hRR := q11 (by omega)
           rw [hRR] at q2 q9 q10 q12 q13 m2
           exact ⟨fun hc3 => ⟨⟨by omega, by omega, by omega, by omega, by omega, by omega, m1, q9, q10⟩, q12⟩, fun hc3 => q13 (by omega)⟩)
theorem symOk : ∀ n : Nat, CtrOk Try.prog 42 (symC n).ctr
 | 0 => symZero
 | n + 1 => symStep n (symOk n)
end Go.Proofs.Ytfhbjmoegceelaa
