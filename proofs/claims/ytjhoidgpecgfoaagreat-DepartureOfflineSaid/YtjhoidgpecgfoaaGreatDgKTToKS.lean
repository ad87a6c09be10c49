/- Devices offline: what their logs give (plain). -/
import Derived.Test.YtjhoidgpecgfoaaGreatDgKXToKZ
import Derived.Test.YtjhoidgpecgfoaaGreatDgKCToKM
import Derived.Test.YtjhoidgpecgfoaaGreatDgKJToKP
set_option linter.unusedSimpArgs false
set_option linter.unusedVariables false
set_option maxRecDepth 100000
set_option maxHeartbeats 4000000
namespace Go.Proofs.YtjhoidgpecgfoaaGreat
open Go.Ev

theorem lt_le {l : List Opn} (h : ∀ i, 0 < i → i < l.length → (l.getD (i - 1) o0).1 ≤ (l.getD i o0).1) : ∀ i j, i ≤ j → j < l.length → (l.getD i o0).1 ≤ (l.getD j o0).1 := by
 intro i j hij
 induction j with
 | zero => intro _; rw [show i = 0 by omega]; exact Int.le_refl _
 | succ j ih =>
   intro hj
   by_cases e : i = j + 1
   · rw [e]; exact Int.le_refl _
   · have h1 := ih (by omega) (by omega)
     have h2 := h (j + 1) (by omega) hj
     rw [show j + 1 - 1 = j by omega] at h2
     omega
theorem HOk.okl {h : Hnd} (h0 : HOk h) : OkL h.2.2.2.2.2.2 := by
 refine ⟨fun o ho => (h0.lok o ho).1, (pw_getD o0).2 fun i j hij hj => ?_⟩
 have s1 := h0.lsq i (by omega)
 have s2 := h0.lsq j hj
 have d1 := (h0.lok _ (getD_mem (d := o0) (by omega : i < h.2.2.2.2.2.2.length))).2.1
 have d2 := (h0.lok _ (getD_mem (d := o0) hj)).2.1
 have t := lt_le h0.lt i j (by omega) hj
 refine ⟨?_, fun _ => by omega⟩
 unfold bfV
 rw [decide_eq_true_eq]
 omega
theorem mg_apart : ∀ (a b : List Opn), OkL a → OkL b → (∀ x ∈ a, ∀ y ∈ b, x.2.1 ≠ y.2.1) → OkL (mg a b) ∧ (∀ x, x ∈ mg a b ↔ x ∈ a ∨ x ∈ b) ∧ (mg a b).length = a.length + b.length := by
 intro a b
 fun_induction mg a b with
 | case1 b => exact fun _ hb _ => ⟨hb, fun x => by simp, by simp⟩
 | case2 a hne => exact fun ha _ _ => ⟨ha, fun x => by simp, by simp⟩
 | case3 =>
   intro _ _ hd
   exact absurd rfl (hd _ List.mem_cons_self _ List.mem_cons_self)
 | case4 =>
   rename_i x a y b hne hb ih
   intro ha hbb hd
   obtain ⟨p1, p2⟩ := List.pairwise_cons.1 hbb.pw
   obtain ⟨q1, q2⟩ := List.pairwise_cons.1 ha.pw
   obtain ⟨i1, i2, i3⟩ := ih ha ⟨fun z hz => hbb.ok z (List.mem_cons_of_mem _ hz), p2⟩ (fun z hz w hw => hd z hz w (List.mem_cons_of_mem _ hw))
   refine ⟨⟨fun z hz => ?_, List.pairwise_cons.2 ⟨fun z hz => ?_, i1.pw⟩⟩, fun z => ?_, ?_⟩
   · rcases List.mem_cons.1 hz with rfl | hz
     · exact hbb.ok z List.mem_cons_self
     · exact i1.ok z hz
   · rcases (i2 z).1 hz with hz | hz
     · refine ⟨?_, fun e => absurd e.symm (hd z hz y List.mem_cons_self)⟩
       rcases List.mem_cons.1 hz with rfl | hz
       · exact hb
       · exact bfV_trans hb (q1 z hz).1
     · exact p1 z hz
   · rw [List.mem_cons, i2 z, List.mem_cons, List.mem_cons]
     constructor
     · rintro (h | h | h) <;> simp [h]
     · rintro ((h | h) | (h | h)) <;> simp [h]
   · rw [List.length_cons, i3, List.length_cons, List.length_cons]; omega
 | case5 =>
   rename_i x a y b hne hb ih
   intro ha hbb hd
   obtain ⟨p1, p2⟩ := List.pairwise_cons.1 hbb.pw
   obtain ⟨q1, q2⟩ := List.pairwise_cons.1 ha.pw
   have hxy : bfV x y = true := by
    cases e : bfV x y
    · exact absurd (bfV_tot e (by simpa using hb)).1 (hd x List.mem_cons_self y List.mem_cons_self)
    · rfl
   obtain ⟨i1, i2, i3⟩ := ih ⟨fun z hz => ha.ok z (List.mem_cons_of_mem _ hz), q2⟩ hbb (fun z hz w hw => hd z (List.mem_cons_of_mem _ hz) w hw)
   refine ⟨⟨fun z hz => ?_, List.pairwise_cons.2 ⟨fun z hz => ?_, i1.pw⟩⟩, fun z => ?_, ?_⟩
   · rcases List.mem_cons.1 hz with rfl | hz
     · exact ha.ok z List.mem_cons_self
     · exact i1.ok z hz
   · rcases (i2 z).1 hz with hz | hz
     · exact q1 z hz
     · refine ⟨?_, fun e => absurd e (hd x List.mem_cons_self z hz)⟩
       rcases List.mem_cons.1 hz with rfl | hz
       · exact hxy
       · exact bfV_trans hxy (p1 z hz).1
   · rw [List.mem_cons, i2 z, List.mem_cons, List.mem_cons, or_assoc]
   · rw [List.length_cons, i3, List.length_cons, List.length_cons]; omega
theorem merge_apart {a b : List Opn} (ha : OkL a) (hb : OkL b) (hl : a.length + b.length ≤ 360) (hd : ∀ x ∈ a, ∀ y ∈ b, x.2.1 ≠ y.2.1) :
 (mergeV a b).2 = 0 ∧ OkL (mergeV a b).1 ∧ (∀ x, x ∈ (mergeV a b).1 ↔ x ∈ a ∨ x ∈ b) ∧ (mergeV a b).1.length = a.length + b.length := by
 obtain ⟨i1, i2, i3⟩ := mg_apart a b ha hb hd
 have e1 : valV a = 0 := ha.val (by omega)
 have e2 : valV b = 0 := hb.val (by omega)
 have e3 : valV (mg a b) = 0 := i1.val (by omega)
 have e4 : dupBm a b = false := by
  unfold dupBm
  rw [decide_eq_false_iff_not]
  rintro ⟨x, hx, y, hy, h1, _⟩
  exact hd x hx y hy h1
 have e : mergeV a b = (mg a b, 0) := by
  unfold mergeV
  rw [if_neg (by simp [e1]), if_neg (by simp [e2]), if_neg (by simp [e4]), if_neg (by simp [e3])]
 rw [e]
 exact ⟨rfl, i1, i2, i3⟩
theorem applyV_n {c : List Cnt} {l : List Opn} (h : FiveC c) (hl : l.length ≤ 30) (hok : OkL l) (hbx : ∀ o ∈ l, 1 ≤ o.box ∧ o.box ≤ c.length) : (applyV c l).2 = 0 ∧ PInv c 30 (LastL l) (applyV c l).1 := by
 have hv : valV l = 0 := hok.val (by omega)
 have hnum : numsIn c l = true := List.all_eq_true.2 fun o ho => by
  have hb := hbx o ho
  have := numIdx_at h.num (b := o.box) hb.1 hb.2
  have hb1 : 1 ≤ o.box := hb.1
  exact decide_eq_true (by omega)
 have hclr : c.map (clrC ((placesV l).map (fun x => x.1.1))) = c := by
  conv => rhs; rw [← List.map_id c]
  refine List.map_congr_left fun o ho => ?_
  obtain ⟨k, hk, rfl⟩ := getD_ct ho
  have := (h.at_ k hk).2.1
  unfold clrC
  rw [this]
  show setPcs _ [] = _
  rw [← this]; rfl
 have e : applyV c l = forceAll (placesV l) c := by
  unfold applyV
  rw [if_neg (by simp [checkV_iff.2 h.ok]), if_neg (by simp [hv]), if_neg (by simp [hnum]), hclr]
 have hkey : ∀ p, p ∈ sortBy pltC (abK l) → (placeV (aboutP l p)).1.1 = p ∧ ∃ o ∈ l, (placeV (aboutP l p)).1 = o.2.2.2.2.2 := fun p hp => by
  have hne := about_ne hp
  have hl : 0 < (aboutP l p).length := List.length_pos_iff.2 hne
  have hm : (aboutP l p).getD ((aboutP l p).length - 1) o0 ∈ aboutP l p := getD_mem (by omega)
  exact ⟨of_decide_eq_true (List.mem_filter.1 hm).2, _, (List.mem_filter.1 hm).1, rfl⟩
 have hpl : (placesV l).length ≤ 30 := by
  unfold placesV
  rw [if_neg (by simp [hv]), List.length_map]
  exact Nat.le_trans (sortBy_len l) hl
 obtain ⟨a, b⟩ := forceAll_ok h.num (placesV l) 0 (LastL []) c h.start (by omega) (fun z hz => by
  have h1 : okPc z.1 = true := by
   unfold placesV at hz
   rw [if_neg (by simp [hv])] at hz
   obtain ⟨p, hp, rfl⟩ := List.mem_map.1 hz
   obtain ⟨_, o, ho, e⟩ := hkey p hp
   rw [e]; exact okOp_pc (hok.ok o ho)
  rcases placesV_box hz with q | ⟨o, ho, q⟩
  · exact ⟨by omega, by omega, h1⟩
  · have hb := hbx o ho
    have hb1 : 1 ≤ o.box := hb.1
    have hb2 : o.box ≤ c.length := hb.2
    exact ⟨by omega, by omega, h1⟩) (by
  unfold placesV
  rw [if_neg (by simp [hv])]
  have hsub : ∀ L : List Plt, (∀ p ∈ L, p ∈ sortBy pltC (abK l)) → L.Nodup → (L.map (fun p => placeV (aboutP l p))).Pairwise (fun y z => y.1.1 ≠ z.1.1) := fun L hL hn => by
   rw [List.pairwise_map]
   exact List.Pairwise.imp_of_mem (fun {p q} hp hq e => by rw [(hkey p (hL p hp)).1, (hkey q (hL q hq)).1]; exact e) hn
  exact hsub _ (fun p hp => hp) ((sortBy_perm pltC (abK l)).nodup_iff.2 (abK_nodup l)))
  fun z hz k hk y hy => absurd hy (lastL_nil k y)
 rw [e]
 refine ⟨a, b.imp (by omega) fun j hj x => ?_⟩
 rw [lastL_places hv]
 exact ⟨.inr, fun q => q.resolve_left (lastL_nil j x)⟩
theorem held_at {k : Nat} (hk : k < 3) : (heldV 3).getD k ct0 = heldC k := by
 rcases (by omega : k = 0 ∨ k = 1 ∨ k = 2) with rfl | rfl | rfl <;> rfl
theorem held_five : FiveC (heldV 3) := by
 refine ⟨by decide, fun k hk => ?_⟩
 have hk : k < 3 := hk
 rw [held_at hk]
 refine ⟨rfl, rfl, ?_, .inr rfl⟩
 unfold propC inV heldC
 simp only [Cnt.num, Cnt.flt, Cnt.cats, Cnt.lim, Cnt.most, Cnt.pos, Cnt.arm, fltsV_ok, Bool.and_eq_true, decide_eq_true_eq, and_true]
 omega
def gpc (i : Nat) : Pce := (platesV (i : Int), 10, 0)
def goodO (o : Opn) : Prop := (∃ i : Nat, i < 6 ∧ o.2.2.2.2.2 = gpc i) ∧ 1 ≤ o.box ∧ o.box ≤ 3
def rlgs (n : Nat) : List Rlg := (List.range n).map (fun (i : Nat) => (platesV (i : Int), true, 2, 0))
structure GoodL (l : List Opn) : Prop where
 len : l.length ≤ 20
 ok : OkL l
 good : ∀ o ∈ l, goodO o
theorem rl_may {i : Nat} (h : i < 6) : mayV (rlgs 6) (platesV (i : Int)) = true := by
 rcases (by omega : i = 0 ∨ i = 1 ∨ i = 2 ∨ i = 3 ∨ i = 4 ∨ i = 5) with rfl | rfl | rfl | rfl | rfl | rfl <;> decide +kernel
theorem rl_lost {i j : Nat} (h : i < 6) (hj : j < 6) : mayV ((rlgs 6).set i (platesV (i : Int), false, 0, 7)) (platesV (j : Int)) = decide (j ≠ i) := by
 rcases (by omega : i = 0 ∨ i = 1 ∨ i = 2 ∨ i = 3 ∨ i = 4 ∨ i = 5) with rfl | rfl | rfl | rfl | rfl | rfl <;> rcases (by omega : j = 0 ∨ j = 1 ∨ j = 2 ∨ j = 3 ∨ j = 4 ∨ j = 5) with rfl | rfl | rfl | rfl | rfl | rfl <;> decide +kernel
theorem rl_reason {i : Nat} (h : i < 6) : reasonV ((rlgs 6).set i (platesV (i : Int), false, 0, 7)) (platesV (i : Int)) = 7 := by
 rcases (by omega : i = 0 ∨ i = 1 ∨ i = 2 ∨ i = 3 ∨ i = 4 ∨ i = 5) with rfl | rfl | rfl | rfl | rfl | rfl <;> decide +kernel
theorem weight10 : ∀ (l : List Pce), (∀ x ∈ l, x.2.1 = 10) → weightV l = 10 * (l.length : Int)
 | [], _ => rfl
 | x :: l, h => by
   have h1 := h x List.mem_cons_self
   have h2 := weight10 l (fun y hy => h y (List.mem_cons_of_mem _ hy))
   unfold weightV at h2 ⊢
   rw [List.map_cons, List.sum_cons, h2, h1, List.length_cons]
   omega
theorem trail_in {m : List Opn} {n : Int} (h : n ∈ trail m) : ∃ o ∈ m, o.box = n := by
 unfold Proofs.YtjhoidgpecgfoaaGreat.trail at h
 obtain ⟨o, ho, rfl⟩ := List.mem_map.1 h
 exact ⟨o, List.mem_reverse.1 ((List.takeWhile_sublist _).subset ho), rfl⟩
theorem places_in {l : List Opn} {z : Plc} (hz : z ∈ placesV l) : (∃ o ∈ l, o.2.2.2.2.2 = z.1) ∧ (∀ n ∈ z.2.2, ∃ o ∈ l, o.box = n) ∧ (z.2.1 ≠ 0 → 0 < z.2.2.length) := by
 unfold placesV at hz
 split at hz
 · cases hz
 · obtain ⟨p, hp, rfl⟩ := List.mem_map.1 hz
   have hne := about_ne hp
   have hl : 0 < (aboutP l p).length := List.length_pos_iff.2 hne
   have hm : (aboutP l p).getD ((aboutP l p).length - 1) o0 ∈ aboutP l p := getD_mem (by omega)
   have hin : ∀ o, o ∈ aboutP l p → o ∈ l := fun o ho => (List.mem_filter.1 ho).1
   refine ⟨⟨_, hin _ hm, rfl⟩, fun n hn => ?_, fun h0 => ?_⟩
   · obtain ⟨o, ho, e⟩ := trail_in (((compV_spec (trail (aboutP l p))).2 n).1 hn)
     exact ⟨o, hin o ho, e⟩
   · have hk : ((aboutP l p).getD ((aboutP l p).length - 1) o0).kind = 1 := by
      unfold placeV at h0
      dsimp only at h0
      split at h0
      · assumption
      · exact absurd rfl h0
     have : ((aboutP l p).getD ((aboutP l p).length - 1) o0).box ∈ trail (aboutP l p) := by
      obtain ⟨a, b, e⟩ : ∃ a b, aboutP l p = a ++ [b] := ⟨_, _, (List.dropLast_concat_getLast hne).symm⟩
      rw [e] at hk ⊢
      rw [trail_snoc]
      have e2 : (a ++ [b]).getD ((a ++ [b]).length - 1) o0 = b := by simp
      rw [e2] at hk ⊢
      rw [if_pos hk]
      exact List.mem_cons_self
     exact List.length_pos_of_mem (((compV_spec (trail (aboutP l p))).2 _).2 this)
section
variable {l : List Opn} (hG : GoodL l)
include hG
theorem good_val : valV l = 0 := hG.ok.val (by have := hG.len; omega)
theorem good_apply : (applyV (heldV 3) l).2 = 0 ∧ PInv (heldV 3) 30 (LastL l) (applyV (heldV 3) l).1 :=
 applyV_n held_five (by have := hG.len; omega) hG.ok fun o ho => (hG.good o ho).2
theorem good_at {o : Cnt} (ho : o ∈ (applyV (heldV 3) l).1) : ∃ k : Nat, k < 3 ∧ o = setPcs (heldC k) o.pcs ∧ o.pcs.length ≤ 30 ∧ ∀ x, x ∈ o.pcs ↔ LastL l k x := by
 have h := (good_apply hG).2
 obtain ⟨k, hk, rfl⟩ := getD_ct ho
 have hk3 : k < 3 := by have := h.len; rw [heldV_len] at this; omega
 have hkh : k < (heldV 3).length := by rw [heldV_len]; exact hk3
 refine ⟨k, hk3, ?_, h.sz k hkh, h.mem k hkh⟩
 have := h.same k hkh
 rw [held_at hk3] at this
 exact this
theorem good_has {n : Int} (h1 : 1 ≤ n) (h3 : n ≤ 3) : ∃ o ∈ (applyV (heldV 3) l).1, o.num = n ∧ o.flt = fltsV 0 := by
 have h := (good_apply hG).2
 have hl := h.len
 rw [heldV_len] at hl
 have hk : (n - 1).toNat < 3 := by omega
 refine ⟨_, getD_mem (d := ct0) (i := (n - 1).toNat) (by omega), ?_, ?_⟩ <;> rw [h.same _ (by rw [heldV_len]; exact hk), held_at hk]
 · show (((n - 1).toNat : Nat) : Int) + 1 = n; omega
 · rfl
theorem good_last {k : Nat} {x : Pce} (h : LastL l k x) : ∃ i : Nat, i < 6 ∧ x = gpc i := by
 obtain ⟨o, h1, _, _, h4⟩ := h
 have : o ∈ l := (List.mem_filter.1 (List.mem_of_getLast? h1)).1
 obtain ⟨⟨i, hi, e⟩, _⟩ := hG.good o this
 exact ⟨i, hi, by rw [← h4, e]⟩
theorem good_over {o : Cnt} (ho : o ∈ (applyV (heldV 3) l).1) : overV o = false := by
 obtain ⟨k, hk, e, hl, hm⟩ := good_at hG ho
 have hp : ∀ x ∈ o.pcs, x.2.1 = 10 ∧ x.2.2 = 0 := fun x hx => by
  obtain ⟨i, _, rfl⟩ := good_last hG ((hm x).1 hx)
  exact ⟨rfl, rfl⟩
 have hw := weight10 o.pcs fun x hx => (hp x hx).1
 have hc : o.cats = 31 ∧ o.lim = 9000 ∧ o.most = 50 := by rw [e]; exact ⟨rfl, rfl, rfl⟩
 unfold overV
 split
 · rfl
 · rw [hw, hc.2.1, hc.2.2, Bool.or_eq_false_iff, Bool.or_eq_false_iff, List.any_eq_false]
   refine ⟨⟨fun x hx => ?_, by rw [decide_eq_false_iff_not]; omega⟩, by rw [decide_eq_false_iff_not]; omega⟩
   rw [(hp x hx).2]
   unfold takesV
   rw [hc.1]
   decide
theorem good_conc {x : Plt} : x ∈ concV (fltsV 0) (applyV (heldV 3) l).1 (placesV l) ↔ ∃ z ∈ placesV l, z.1.1 = x ∧ 0 < z.2.2.length := by
 rw [concV_mem]
 constructor
 · rintro (⟨o, ho, _, y, hy, rfl⟩ | ⟨z, hz, rfl, n, hn, _⟩)
   · obtain ⟨k, hk, _, _, hm⟩ := good_at hG ho
     obtain ⟨z, hz, h1, rfl⟩ := (lastL_places (good_val hG) k y).1 ((hm y).1 hy)
     exact ⟨z, hz, rfl, (places_in hz).2.2 (by omega)⟩
   · exact ⟨z, hz, rfl, List.length_pos_of_mem hn⟩
 · rintro ⟨z, hz, rfl, h0⟩
   obtain ⟨n, hn⟩ := List.exists_mem_of_length_pos h0
   obtain ⟨o, ho, rfl⟩ := (places_in hz).2.1 n hn
   obtain ⟨_, h1, h3⟩ := hG.good o ho
   obtain ⟨c, hc, e1, e2⟩ := good_has hG h1 h3
   exact .inr ⟨z, hz, rfl, _, hn, c, hc, e1, e2⟩
theorem good_plate {z : Plc} (hz : z ∈ placesV l) : ∃ i : Nat, i < 6 ∧ z.1.1 = platesV (i : Int) := by
 obtain ⟨o, ho, e⟩ := (places_in hz).1
 obtain ⟨⟨i, hi, e2⟩, _⟩ := hG.good o ho
 exact ⟨i, hi, by rw [← e, e2]; rfl⟩
theorem good_bars {hs : List Hnd} (hh : ∀ x ∈ hs, x.2.2.2.1 = false) :
 decide ((barsV dayV (fltsV 0) 45 hs (applyV (heldV 3) l).1 (placesV l) (rlgs 6)).length = 0) = decide ((confV l).length = 0) := by
 have hst : stateV dayV (fltsV 0) 45 = 0 := by decide +kernel
 rw [Bool.eq_iff_iff, decide_eq_true_eq, decide_eq_true_eq, List.length_eq_zero_iff, List.length_eq_zero_iff, barsV_nil]
 unfold confV
 rw [List.map_eq_nil_iff, List.filter_eq_nil_iff]
 constructor
 · rintro ⟨_, _, h3, _⟩ z hz hq
   have hq : 1 < z.2.2.length := of_decide_eq_true hq
   have h4 := (h3 z.1.1 ((good_conc hG).2 ⟨z, hz, rfl, by omega⟩)).1
   have := List.any_eq_false.1 h4 z hz
   unfold uncP at this
   simp only [decide_true, Bool.true_and, decide_eq_true_eq] at this
   omega
 · intro h
   refine ⟨hst, hh, fun x hx => ?_, fun o ho _ => good_over hG ho⟩
   obtain ⟨z, hz, rfl, _⟩ := (good_conc hG).1 hx
   refine ⟨List.any_eq_false.2 fun y hy => ?_, ?_⟩
   · have := h y hy
     simp only [decide_eq_true_eq] at this
     unfold uncP
     rw [Bool.and_eq_true, decide_eq_true_eq, decide_eq_true_eq]
     omega
   · obtain ⟨i, hi, e⟩ := good_plate hG hz
     rw [e]; exact rl_may hi
theorem good_lost {hs : List Hnd} {i : Nat} (hi : i < 6) : ((4, 7, platesV (i : Int)) : Bar) ∈ barsV dayV (fltsV 0) 45 hs (applyV (heldV 3) l).1 (placesV l) ((rlgs 6).set i (platesV (i : Int), false, 0, 7)) ↔ ∃ z ∈ placesV l, z.1.1 = platesV (i : Int) ∧ 0 < z.2.2.length := by
 rw [← good_conc hG]
 unfold barsV
 simp only [List.mem_append, List.mem_flatMap]
 constructor
 · rintro ((((h | ⟨x, _, h⟩) | ⟨x, _, h⟩) | ⟨x, hx, h⟩) | ⟨x, _, h⟩)
   · unfold brS at h; split at h
     · have h := congrArg Prod.fst (List.mem_singleton.1 h)
       have h : (4 : Int) = 1 := h
       omega
     · cases h
   · unfold brH at h; split at h
     · have h := congrArg Prod.fst (List.mem_singleton.1 h)
       have h : (4 : Int) = 2 := h
       omega
     · cases h
   · unfold brU at h; split at h
     · have h := congrArg Prod.fst (List.mem_singleton.1 h)
       have h : (4 : Int) = 3 := h
       omega
     · cases h
   · unfold brA at h; split at h
     · have := congrArg (fun b : Bar => b.2.2) (List.mem_singleton.1 h)
       have this : platesV (i : Int) = x := this
       rw [this]; exact hx
     · cases h
   · unfold brC at h; split at h
     · have h := congrArg Prod.fst (List.mem_singleton.1 h)
       have h : (4 : Int) = 5 := h
       omega
     · cases h
 · intro h
   refine .inl (.inr ⟨_, h, ?_⟩)
   unfold brA
   rw [if_pos (by rw [rl_lost hi hi]; simp), rl_reason hi]
   exact List.mem_singleton.2 rfl
end
end Go.Proofs.YtjhoidgpecgfoaaGreat

/- Devices offline: the states of the law's loops (plain). -/
set_option linter.unusedSimpArgs false
set_option linter.unusedVariables false
set_option maxRecDepth 100000
set_option maxHeartbeats 4000000
namespace Go.Proofs.YtjhoidgpecgfoaaGreat
open Go.Ev

def grL (n : Nat) : List Grt := (List.range n).map (fun (i : Nat) => (gpc i, fltsV 0))
theorem grL_succ (n : Nat) : grL (n + 1) = grL n ++ [(gpc n, fltsV 0)] := by unfold grL; rw [List.range_succ, List.map_append]; rfl
theorem grL_len (n : Nat) : (grL n).length = n := by unfold grL; simp
theorem rlgs_succ (n : Nat) : rlgs (n + 1) = rlgs n ++ [(platesV (n : Int), true, 2, 0)] := by unfold rlgs; rw [List.range_succ, List.map_append]; rfl
theorem rlgs_len (n : Nat) : (rlgs n).length = n := by unfold rlgs; simp
theorem grL_at {n i : Nat} (h : i < n) (z : Grt) : (grL n).getD i z = (gpc i, fltsV 0) := by
 unfold grL; simp [List.getD_eq_getElem?_getD, h]
theorem gpc_ok {i : Nat} (h : i < 6) : okPc (gpc i) = true := by
 unfold gpc okPc inV
 simp only [platesV_ok, Bool.true_and]
 rfl
theorem grL_ok : GOk (grL 6) := by
 refine ⟨by rw [grL_len]; omega, fun x hx => ?_, fun i h0 hi => ?_⟩
 · unfold grL at hx
   obtain ⟨i, hi, rfl⟩ := List.mem_map.1 hx
   have hi := List.mem_range.1 hi
   unfold okGr
   rw [gpc_ok hi, fltsV_ok]; rfl
 · rw [grL_len] at hi
   rw [grL_at (by omega), grL_at hi]
   exact platesV_lt (by omega) (by omega) (by omega)
theorem held_ok : CtsOk (heldV 3) := held_five.ok
structure DevO (i : Nat) (h : List Hnd) : Prop where
 len : h.length = 3
 at_ : ∀ j, j < 3 → HOk (h.getD j hn0) ∧ (h.getD j hn0).1 = (j : Int) + 1 ∧ (h.getD j hn0).2.1 = 1 ∧ (h.getD j hn0).2.2.1 = 0 ∧ (h.getD j hn0).2.2.2.2.2.2 = [] ∧ (h.getD j hn0).2.2.2.1 = decide (j < i)
theorem newsH_at3 {i : Nat} (h : i < 3) : (newsH 3).getD i hn0 = newH i := by
 rcases (by omega : i = 0 ∨ i = 1 ∨ i = 2) with rfl | rfl | rfl <;> rfl
theorem DevO.new : DevO 0 (newsH 3) :=
 ⟨rfl, fun j hj => by rw [newsH_at3 hj]; exact ⟨newH_ok (by omega), rfl, rfl, rfl, rfl, rfl⟩⟩
theorem DevO.step {i : Nat} {h : List Hnd} (D : DevO i h) (hi : i < 3) : DevO (i + 1) (h.set i (offH (h.getD i hn0) (grL 6) (heldV 3))) := by
 have hl := D.len
 refine ⟨by rw [List.length_set]; exact hl, fun j hj => ?_⟩
 rw [getD_setH (by omega)]
 by_cases e : j = i
 · subst e
   rw [if_pos rfl]
   obtain ⟨a, b, c', d, e, _⟩ := D.at_ j hj
   refine ⟨a.off grL_ok held_ok, b, c', d, e, ?_⟩
   rw [decide_eq_true (by omega)]; rfl
 · rw [if_neg e]
   obtain ⟨a, b, c', d, e', f⟩ := D.at_ j hj
   refine ⟨a, b, c', d, e', ?_⟩
   rw [f]
   congr 1
   exact propext (by omega)
structure OD (h : List Hnd) (now : Int) (k : Nat) : Prop where
 len : h.length = 3
 hok : ∀ j, j < 3 → HOk (h.getD j hn0) ∧ (h.getD j hn0).1 = (j : Int) + 1 ∧ (h.getD j hn0).2.2.1 ≤ now ∧ (h.getD j hn0).2.1 ≤ (k : Int) + 1 ∧ (h.getD j hn0).2.2.2.1 = true ∧ ∀ o ∈ (h.getD j hn0).2.2.2.2.2.2, goodO o
 tot : (h.getD 0 hn0).2.2.2.2.2.2.length + (h.getD 1 hn0).2.2.2.2.2.2.length + (h.getD 2 hn0).2.2.2.2.2.2.length ≤ k
 nw : 10 ≤ now ∧ now ≤ 10 + (k : Int)
theorem DevO.od {h : List Hnd} (D : DevO 3 h) : OD h 10 0 := by
 refine ⟨D.len, fun j hj => ?_, ?_, by omega⟩
 · obtain ⟨a, b, c, d, e, f⟩ := D.at_ j hj
   refine ⟨a, b, by omega, by omega, by rw [f]; exact decide_eq_true hj, fun o ho => ?_⟩
   rw [e] at ho; cases ho
 · rw [(D.at_ 0 (by omega)).2.2.2.2.1, (D.at_ 1 (by omega)).2.2.2.2.1, (D.at_ 2 (by omega)).2.2.2.2.1]; exact Nat.le_refl _
theorem OD.next {h : List Hnd} {now now' : Int} {k : Nat} (D : OD h now k) (h1 : now ≤ now') (h2 : now' ≤ now + 1) : OD h now' (k + 1) :=
 ⟨D.len, fun j hj => by
   obtain ⟨a, b, c, d, e⟩ := D.hok j hj
   exact ⟨a, b, by omega, by omega, e⟩, Nat.le_succ_of_le D.tot, by have := D.nw; omega⟩
theorem OD.scan {h : List Hnd} {now now' : Int} {k : Nat} (D : OD h now k) (ht : now ≤ now' ∧ now' ≤ now + 1) (hk20 : k < 20) {d : Nat} (hd : d < 3) {kd n : Int} {i : Nat} (hk : kd = 1 ∨ kd = 2) (hi : i < 6) (hn : 1 ≤ n ∧ n ≤ 3)
 {S : Hnd × Opn × Int} (hS : scanV (h.getD d hn0) kd (gpc i) n now' = S) (he : S.2.2 = 0) : OD (h.set d S.1) now' (k + 1) := by
 obtain ⟨ha, hb, hc, hx, hf, hl⟩ := D.hok d hd
 have hnw := D.nw
 have htot := D.tot
 subst hS
 obtain ⟨e1, e2⟩ := scanV_0 he
 rw [e1]
 have hll : (h.getD d hn0).2.2.2.2.2.2.length ≤ k := by rcases (by omega : d = 0 ∨ d = 1 ∨ d = 2) with rfl | rfl | rfl <;> omega
 obtain ⟨g1, g2⟩ := ha.scan (k := kd) (n := n) hk (gpc_ok hi) (by omega) (t := now') (by omega) (by omega) (by omega)
 dsimp only
 have hlen := D.len
 rw [if_pos hf] at g2
 rw [if_pos hf]
 refine ⟨by rw [List.length_set]; exact hlen, fun j hj => ?_, ?_, by omega⟩
 · rw [getD_setH (by omega)]
   by_cases e : j = d
   · subst e
     rw [if_pos rfl]
     refine ⟨g2, hb, Int.le_refl _, by dsimp only; omega, hf, fun o ho => ?_⟩
     rcases List.mem_append.1 ho with ho | ho
     · exact hl o ho
     · rw [List.mem_singleton.1 ho]
       exact ⟨⟨i, hi, rfl⟩, hn⟩
   · rw [if_neg e]
     obtain ⟨a, b, c, d, e⟩ := D.hok j hj
     exact ⟨a, b, by omega, by omega, e⟩
 · rw [getD_setH (by omega), getD_setH (by omega), getD_setH (by omega)]
   rcases (by omega : d = 0 ∨ d = 1 ∨ d = 2) with rfl | rfl | rfl <;> simp [-List.getD_eq_getElem?_getD] <;> omega
structure OM (i : Nat) (h : List Hnd) (all : List Opn) : Prop where
 len : h.length = 3
 off : ∀ j, i ≤ j → j < 3 → HOk (h.getD j hn0) ∧ (h.getD j hn0).1 = (j : Int) + 1 ∧ (h.getD j hn0).2.2.2.1 = true ∧ ∀ o ∈ (h.getD j hn0).2.2.2.2.2.2, goodO o
 onl : ∀ j, j < i → (h.getD j hn0).2.2.2.1 = false
 ok : OkL all
 good : ∀ o ∈ all, goodO o ∧ o.2.1 ≤ (i : Int)
 tot : all.length + (if i ≤ 0 then (h.getD 0 hn0).2.2.2.2.2.2.length else 0) + (if i ≤ 1 then (h.getD 1 hn0).2.2.2.2.2.2.length else 0) + (if i ≤ 2 then (h.getD 2 hn0).2.2.2.2.2.2.length else 0) ≤ 20
theorem OD.om {h : List Hnd} {now : Int} {k : Nat} (D : OD h now k) (hk : k ≤ 20) : OM 0 h [] := by
 refine ⟨D.len, fun j _ hj => ?_, fun j hj => absurd hj (Nat.not_lt_zero _), ⟨fun o ho => (by cases ho), .nil⟩, fun o ho => (by cases ho), ?_⟩
 · obtain ⟨a, b, _, _, c, d⟩ := D.hok j hj
   exact ⟨a, b, c, d⟩
 · have := D.tot
   simp [-List.getD_eq_getElem?_getD]; omega
theorem OM.bar {i : Nat} {h : List Hnd} {all : List Opn} (D : OM i h all) (hi : i < 3) {l : List Dpt} {f : Flt} {t : Int} {c : List Cnt} {p : List Plm} {r : List Rlg} : decide ((barsV l f t h c p r).length = 0) = false := by
 rw [decide_eq_false_iff_not, List.length_eq_zero_iff, barsV_nil]
 rintro ⟨_, h2, _⟩
 have := h2 _ (getD_mem (d := hn0) (by rw [D.len]; exact hi))
 rw [(D.off i (Nat.le_refl _) hi).2.2.1] at this
 cases this
theorem OM.step {i : Nat} {h : List Hnd} {all : List Opn} (D : OM i h all) (hi : i < 3) {u : Hnd} (hu : h.getD i hn0 = u) :
 (mergeV all u.2.2.2.2.2.2).2 = 0 ∧ OM (i + 1) (h.set i (u.1, u.2.1, u.2.2.1, false, [], [], [])) (mergeV all u.2.2.2.2.2.2).1 := by
 obtain ⟨ha, hb, hf, hg⟩ := D.off i (Nat.le_refl _) hi
 have hlen := D.len
 have htot := D.tot
 have hL : all.length + (h.getD i hn0).2.2.2.2.2.2.length + (if i + 1 ≤ 1 then (h.getD 1 hn0).2.2.2.2.2.2.length else 0) + (if i + 1 ≤ 2 then (h.getD 2 hn0).2.2.2.2.2.2.length else 0) ≤ 20 := by
  rcases (by omega : i = 0 ∨ i = 1 ∨ i = 2) with rfl | rfl | rfl <;> simp [-List.getD_eq_getElem?_getD] at htot ⊢ <;> omega
 subst hu
 obtain ⟨m1, m2, m3, m4⟩ := merge_apart D.ok ha.okl (by omega) (fun x hx y hy => by
  have h1 := (D.good x hx).2
  have h2 := (ha.lok y hy).2.1
  rw [h2, hb]; omega)
 refine ⟨m1, by rw [List.length_set]; exact hlen, fun j h1 h2 => ?_, fun j hj => ?_, m2, fun o ho => ?_, ?_⟩
 · rw [getD_setH (by omega), if_neg (by omega)]; exact D.off j (by omega) h2
 · rw [getD_setH (by omega)]
   split
   · rfl
   · exact D.onl j (by omega)
 · rcases (m3 o).1 ho with ho | ho
   · exact ⟨(D.good o ho).1, by have := (D.good o ho).2; omega⟩
   · exact ⟨hg o ho, by rw [(ha.lok o ho).2.1, hb]; omega⟩
 · rw [m4, getD_setH (by omega), getD_setH (by omega), getD_setH (by omega)]
   rcases (by omega : i = 0 ∨ i = 1 ∨ i = 2) with rfl | rfl | rfl <;> simp [-List.getD_eq_getElem?_getD] at hL ⊢ <;> omega
theorem OM.fin {h : List Hnd} {all : List Opn} (D : OM 3 h all) : GoodL all ∧ ∀ x ∈ h, x.2.2.2.1 = false := by
 refine ⟨⟨by have := D.tot; simp [-List.getD_eq_getElem?_getD] at this; omega, D.ok, fun o ho => (D.good o ho).1⟩, fun x hx => ?_⟩
 obtain ⟨i, hi, rfl⟩ := List.getElem_of_mem hx
 have h1 := D.onl i (by have := D.len; omega)
 rw [List.getD_eq_getElem?_getD, List.getElem?_eq_getElem hi] at h1
 exact h1
theorem smC_places {c : List Cnt} {l : List Opn} (h1 : c.length ≤ 1000) (h2 : ∀ o ∈ c, o.pcs.length ≤ 1000) (h3 : l.length ≤ 20) : SmC c (placesV l) :=
 ⟨h1, h2, Nat.le_trans (placesV_len l) (by omega), fun y hy => Nat.le_trans (placesV_may hy) (by omega)⟩
theorem held_pcs : ∀ o ∈ heldV 3, o.pcs.length ≤ 1000 := fun o ho => by
 obtain ⟨k, hk, rfl⟩ := getD_ct ho
 rw [(held_five.at_ k hk).2.1]; exact Nat.zero_le _
def onP (i : Nat) (z : Plc) : Bool := decide (z.1.1 = platesV (i : Int)) && decide ((z.2.2.length : Int) > 0)
theorem any_succ {α : Type} (f : α → Bool) {l : List α} {j : Nat} (d : α) {z : α} (h : j < l.length) (hz : l.getD (j : Int).toNat d = z) : (l.take (j + 1)).any f = ((l.take j).any f || f z) := by
 rw [List.take_succ_eq_append_getElem h, List.any_append]
 have : l[j] = z := by rw [← hz]; simp [h]
 rw [this]; simp
theorem onP_any {i : Nat} {l : List Plc} : l.any (onP i) = true ↔ ∃ z ∈ l, z.1.1 = platesV (i : Int) ∧ 0 < z.2.2.length := by
 rw [List.any_eq_true]
 constructor
 · rintro ⟨z, hz, h⟩
   unfold onP at h
   rw [Bool.and_eq_true, decide_eq_true_eq, decide_eq_true_eq] at h
   exact ⟨z, hz, h.1, by omega⟩
 · rintro ⟨z, hz, h1, h2⟩
   refine ⟨z, hz, ?_⟩
   unfold onP
   rw [Bool.and_eq_true, decide_eq_true_eq, decide_eq_true_eq]
   exact ⟨h1, by omega⟩
theorem onP_eq (i : Nat) (z : Plc) : (decide (z.1.1.1 = (platesV (i : Int)).1) && (decide (z.1.1.2.1 = (platesV (i : Int)).2.1) && decide (z.1.1.2.2 = (platesV (i : Int)).2.2)) && decide ((z.2.2.length : Int) > 0)) = onP i z := by
 unfold onP
 obtain ⟨⟨⟨a, b, c⟩, d⟩, e⟩ := z
 obtain ⟨x, y, w⟩ := platesV (i : Int)
 rw [Bool.eq_iff_iff]
 simp [Prod.ext_iff]
theorem barD (i : Nat) (x : Bar) : (decide (x.1 = 4) && (decide (x.2.1 = 7) && (decide (x.2.2.1 = (platesV (i : Int)).1) && (decide (x.2.2.2.1 = (platesV (i : Int)).2.1) && decide (x.2.2.2.2 = (platesV (i : Int)).2.2))))) = decide (x = ((4, 7, platesV (i : Int)) : Bar)) := by
 obtain ⟨a, b, c, d, e⟩ := x
 obtain ⟨x, y, w⟩ := platesV (i : Int)
 rw [Bool.eq_iff_iff]
 simp [Prod.ext_iff]
end Go.Proofs.YtjhoidgpecgfoaaGreat

/- Handhelds: Online, Offline, Scan. -/
set_option linter.unusedSimpArgs false
set_option linter.unusedVariables false
set_option maxRecDepth 100000
set_option maxHeartbeats 8000000
namespace Go.Proofs.YtjhoidgpecgfoaaGreat
open Go.Ev

def con36 : Con := { ps := [.d true yHH], rs := [.d true yHH, .d false (.sl yOP), .d false (.int .i64)], pre := fun (x : Hnd × Unit) => HOk x.1 ∧ x.1.2.2.2.1 = true, out := fun (x : Hnd × Unit) => ((x.1.1, x.1.2.1, x.1.2.2.1, false, [], [], []), x.1.2.2.2.2.2.2, 0, ()), nw := id }
theorem c36 : CtrOk Tryz.prog 36 con36.ctr :=
 con_sound (G := ⟨[(89, con89.ctr), (97, con97.ctr)], [], [], []⟩) tab_ok (EnvOk.cons c89 has89 (EnvOk.cons c97 has97 EnvOk.nil)) rfl Tryz.func36 rfl con36 16959 (by kernel_rfl) (by decide) (by decide) rfl (by decide) rfl (by
  rintro ⟨⟨(n : Int), (x : Int), (t : Int), (off : Bool), (gr : List (Pce × Flt)), (cs : List Cnt), (lg : List Opn)⟩, _⟩ hpre hwf X hT hG hk hK
  obtain ⟨h0, h1⟩ : HOk (n, x, t, off, gr, cs, lg) ∧ off = true := hpre
  have hll : lg.length ≤ 60 := h0.ll
  subst h1
  have h2 : HOk (n, x, t, true, gr, cs, lg) = True := eq_true h0
  (simp -implicitDefEqProofs only [go_sem, Bool.not_eq_true', Bool.not_eq_false', Bool.or_eq_true, Bool.or_eq_false_iff, Bool.and_eq_true, Bool.and_eq_false_iff, decide_eq_true_eq, decide_eq_false_iff_not, Classical.not_not, not_or, maxLen, con36, con89, con97, hT, hG, hk, hK, Tryz.results36] at hwf ⊢); (try simp (disch := decide +kernel) only [drawn, true_and, and_true])
  clear hwf
  (repeat' (with_reducible (first | refine And.intro ?_ ?_ | intro _))) <;> (try (first | with_reducible (first | done | assumption | omega | contradiction) | decide))
  all_goals first | omega | rfl | fail)
def con33 : Con := { ps := [.d true yHH, .d false (.sl yGR), .d false (.sl yCT)], rs := [.d true yHH, .d false (.int .i64)], pre := fun (x : Hnd × List Grt × List Cnt × Unit) => HOk x.1 ∧ x.1.2.2.2.1 = false ∧ GOk x.2.1 ∧ CtsOk x.2.2.1, out := fun (x : Hnd × List Grt × List Cnt × Unit) => (offH x.1 x.2.1 x.2.2.1, 0, ()), nw := id }
theorem c33 : CtrOk Tryz.prog 33 con33.ctr :=
 con_sound (G := ⟨[(89, con89.ctr), (90, con90.ctr), (49, con49.ctr), (65, con65.ctr), (91, con91.ctr), (92, con92.ctr)], [], [], []⟩) tab_ok (EnvOk.cons c89 has89 (EnvOk.cons c90 has90 (EnvOk.cons c49 has49 (EnvOk.cons c65 has65 (EnvOk.cons c91 has91 (EnvOk.cons c92 has92 EnvOk.nil)))))) rfl Tryz.func33 rfl con33 146367005581676495 (by kernel_rfl) (by decide) (by decide) rfl (by decide) rfl (by
  rintro ⟨⟨(n : Int), (x : Int), (t : Int), (off : Bool), (gr : List (Pce × Flt)), (cs : List Cnt), (lg : List Opn)⟩, (g : List (Pce × Flt)), (c : List Cnt), _⟩ hpre hwf X hT hG hk hK
  obtain ⟨h0, h1, h2, h3⟩ : HOk (n, x, t, off, gr, cs, lg) ∧ off = false ∧ GOk g ∧ CtsOk c := hpre
  subst h1
  have h4 : HOk (n, x, t, false, gr, cs, lg) = True := eq_true h0
  have hcv : checkV c = 0 := checkV_iff.2 h3
  have hcl : c.length ≤ 24 := h3.len
  have hgl : g.length ≤ 60 := h2.len
  have hgk : ∀ x ∈ g, okGr x = true := h2.ok
  have hgs : ∀ i, 0 < i → i < g.length → pltC (g.getD (i - 1) (pc0, ct0.flt)).1.1 (g.getD i (pc0, ct0.flt)).1.1 < 0 := h2.srt
  (simp -implicitDefEqProofs only [go_sem, Bool.not_eq_true', Bool.not_eq_false', Bool.or_eq_true, Bool.or_eq_false_iff, Bool.and_eq_true, Bool.and_eq_false_iff, decide_eq_true_eq, decide_eq_false_iff_not, Classical.not_not, not_or, maxLen, con33, con89, con90, con49, con65, con91, con92, hT, hG, hk, hK, Tryz.results33] at hwf ⊢); (try simp (disch := decide +kernel) only [drawn, true_and, and_true])
  clear hwf
  refine ⟨h0, fun _ => ⟨fun q => q.elim, fun q => q.elim, fun _ => ⟨fun _ => by omega, fun _ _ => ?_⟩⟩⟩
  refine evk_loop ⟨{ i : Nat // i ≤ g.length }, 1000, fun q => [(1, .one (.sl yGR g false)), (2, .one (.sl yCT c false)), (3, .one (.loc 70 0)), (6, .one (.loc 71 0)), (25, .one (.sl yGR g false)), (26, .one (.int .i64 g.length)), (27, .one (.int .i64 q.1))], fun q => [(70, .cells 40 [.int .i64 n, .int .i64 x, .int .i64 t, .bool false, .sl yGR gr false, .sl yCT cs false, .sl yOP lg false]), (71, .cells 40 [.int .i64 0, .int .i64 0, .int .i64 0, .bool false, .sl yGR [] false, .sl yCT [] false, .sl yOP [] false])], fun q => g.length - q.1⟩ ⟨0, Nat.zero_le _⟩ ?_ ?_
  · simp only [go_sem]
    try (first | rfl | exact ⟨rfl, rfl⟩ | (and_intros <;> first | trivial | rfl | omega))
  · rintro ⟨i, (hi : i ≤ g.length)⟩
    (simp -implicitDefEqProofs only [go_sem, Bool.not_eq_true', Bool.not_eq_false', Bool.or_eq_true, Bool.or_eq_false_iff, Bool.and_eq_true, Bool.and_eq_false_iff, decide_eq_true_eq, decide_eq_false_iff_not, Classical.not_not, not_or, maxLen, con33, con89, con90, con49, con65, con91, con92, hT, hG, hk, hK, Tryz.results33]); (try simp (disch := decide +kernel) only [drawn, true_and, and_true])
    obtain ⟨u, hu⟩ : ∃ u, g.getD (i : Int).toNat (((0, 0, 0), 0, 0), ByteArray.empty, 0, ByteArray.empty, 0) = u := ⟨_, rfl⟩
    obtain ⟨v, hv⟩ : ∃ v, g.getD ((i : Int) - 1).toNat (((0, 0, 0), 0, 0), ByteArray.empty, 0, ByteArray.empty, 0) = v := ⟨_, rfl⟩
    have hu2 : g.getD i (pc0, ct0.flt) = u := hu
    have hk1 : i < g.length → okGr u = true := fun h => hgk u (by rw [← hu2]; exact getD_mem h)
    have hk2 : 0 < i → i < g.length → pltC v.1.1 u.1.1 < 0 := fun h1 h2 => by
     have := hgs i h1 h2
     rw [hu2, show g.getD (i - 1) (pc0, ct0.flt) = v from by rw [← hv, show ((i : Int) - 1).toNat = i - 1 by omega]; rfl] at this
     exact this
    try simp only [hu, hv, hcv]
    generalize okGr u = B at hk1 ⊢
    generalize pltC v.1.1 u.1.1 = C at hk2 ⊢
    clear hgk hgs h0 h4 h2 h3 hu2 hu hv
    (repeat' (with_reducible (first | refine And.intro ?_ ?_ | intro _))) <;> (try (first | with_reducible (first | done | assumption | omega | contradiction) | decide))
    all_goals first
     | omega
     | (refine fin_lp ⟨i + 1, by omega⟩ ?_ (by dsimp only; omega)
        simp only [go_sem]
        try (first | rfl | exact ⟨rfl, rfl⟩ | (and_intros <;> first | trivial | rfl | omega))
        done)
     | rfl
     | (have := hk1 (by omega); simp_all; done)
     | (rename_i q; rcases q with q | q
        · have := hk1 (by omega); rw [q] at this; cases this
        · have := hk2 (by omega) (by omega); omega)
     | fail)
def con35 : Con := { ps := [.d true yHH, .d false (.int .i64), .d true yPC, .d false (.int .i64), .d false (.int .i64)], rs := [.d true yHH, .d true yOP, .d false (.int .i64)], pre := fun (x : Hnd × Int × Pce × Int × Int × Unit) => HOk x.1 ∧ (x.2.1 = 1 ∨ x.2.1 = 2) ∧ okPc x.2.2.1 = true ∧ (1 ≤ x.2.2.2.1 ∧ x.2.2.2.1 ≤ 999) ∧ (x.1.2.2.1 ≤ x.2.2.2.2.1 ∧ x.2.2.2.2.1 ≤ 1000) ∧ x.1.2.1 ≤ 1000 ∧ x.1.2.2.2.2.2.2.length < 60, out := fun (x : Hnd × Int × Pce × Int × Int × Unit) => ((scanV x.1 x.2.1 x.2.2.1 x.2.2.2.1 x.2.2.2.2.1).1, (scanV x.1 x.2.1 x.2.2.1 x.2.2.2.1 x.2.2.2.2.1).2.1, (scanV x.1 x.2.1 x.2.2.1 x.2.2.2.1 x.2.2.2.2.1).2.2, ()), nw := id }
theorem c35 : CtrOk Tryz.prog 35 con35.ctr :=
 con_sound (G := ⟨[(88, con88.ctr), (89, con89.ctr), (93, con93.ctr), (94, con94.ctr), (95, con95.ctr), (96, con96.ctr)], [], [], []⟩) tab_ok (EnvOk.cons c88 has88 (EnvOk.cons c89 has89 (EnvOk.cons c93 has93 (EnvOk.cons c94 has94 (EnvOk.cons c95 has95 (EnvOk.cons c96 has96 EnvOk.nil)))))) rfl Tryz.func35 rfl con35 2658456072036538764577485929616768191 (by kernel_rfl) (by decide) (by decide) rfl (by decide) rfl (by
  rintro ⟨⟨(n : Int), (x : Int), (t : Int), (off : Bool), (gr : List (Pce × Flt)), (cs : List Cnt), (lg : List Opn)⟩, (k : Int), ⟨⟨(p1 : Int), (p2 : Int), (p3 : Int)⟩, (e1 : Int), (e2 : Int)⟩, (b : Int), (now : Int), _⟩ hpre hwf X hT hG hk hK
  obtain ⟨h0, h1, h2, h3, h4, h5, h6⟩ : HOk (n, x, t, off, gr, cs, lg) ∧ (k = 1 ∨ k = 2) ∧ okPc ((p1, p2, p3), e1, e2) = true ∧ (1 ≤ b ∧ b ≤ 999) ∧ (t ≤ now ∧ now ≤ 1000) ∧ x ≤ 1000 ∧ lg.length < 60 := hpre
  have hl0 : 0 ≤ t := h0.lst.1
  have hx0 : 1 ≤ x := h0.nxt.1
  have hT1 : HOk (n, x, t, off, gr, cs, lg) = True := eq_true h0
  have i1 : inV b 1 999 = true := by unfold inV; simp only [Bool.and_eq_true, decide_eq_true_eq]; exact h3
  have i2 : inV now 0 1048576 = true := by unfold inV; simp only [Bool.and_eq_true, decide_eq_true_eq]; omega
  (simp -implicitDefEqProofs only [go_sem, Bool.not_eq_true', Bool.not_eq_false', Bool.or_eq_true, Bool.or_eq_false_iff, Bool.and_eq_true, Bool.and_eq_false_iff, decide_eq_true_eq, decide_eq_false_iff_not, Classical.not_not, not_or, maxLen, con35, con88, con89, con93, con94, con95, con96, hT, hG, hk, hK, Tryz.results35] at hwf ⊢); (try simp (disch := decide +kernel) only [drawn, true_and, and_true])
  clear hwf
  simp only [h2, i1, i2, hT1]
  have hSa : off = true ∧ k = 1 → ¬ loadV cs gr lg ((p1, p2, p3), e1, e2) b = 0 → scanV (n, x, t, off, gr, cs, lg) k ((p1, p2, p3), e1, e2) b now = ((0, 0, 0, false, [], [], []), o0, loadV cs gr lg ((p1, p2, p3), e1, e2) b) := fun q1 q2 => by
   unfold scanV
   exact if_pos ⟨q1.1, q1.2, q2⟩
  have hSb : ¬ (off = true ∧ k = 1 ∧ ¬ loadV cs gr lg ((p1, p2, p3), e1, e2) b = 0) → scanV (n, x, t, off, gr, cs, lg) k ((p1, p2, p3), e1, e2) b now = ((n, x + 1, now, off, gr, cs, if off = true then lg ++ [(now, n, x, k, b, ((p1, p2, p3), e1, e2))] else lg), (now, n, x, k, b, ((p1, p2, p3), e1, e2)), 0) := fun q => by
   unfold scanV
   exact if_neg q
  generalize scanV (n, x, t, off, gr, cs, lg) k ((p1, p2, p3), e1, e2) b now = SV at hSa hSb ⊢
  generalize loadV cs gr lg ((p1, p2, p3), e1, e2) b = LV at hSa hSb ⊢
  clear h0 hT1 h2 i1 i2
  try simp only [Int.toNat_natCast, List.take_length]
  (repeat' (with_reducible (first | refine And.intro ?_ ?_ | intro _))) <;> (try (first | with_reducible (first | done | assumption | omega | contradiction) | decide))
  all_goals first
   | omega
   | rfl
   | (rw [hSa (by assumption) (by assumption)]; done)
   | (rw [hSa (by assumption) (by assumption)]; rfl)
   | (rw [hSb (fun q => by rcases q with ⟨q1, q2, q3⟩; first | contradiction | (simp_all; done))]; first | done | rfl | (rw [if_pos (by assumption)]; done) | (rw [if_neg (by assumption)]; done) | (simp_all; done))
   | fail)
end Go.Proofs.YtjhoidgpecgfoaaGreat
