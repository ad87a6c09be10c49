/- Part. -/
import Derived.Test.YtkjpbhkldioggaaGreatClK2ToKM
import Derived.Test.YtkjpbhkldioggaaGreatClKBToKN
import Derived.Test.YtkjpbhkldioggaaGreatClKDToKT
import Derived.Test.YtkjpbhkldioggaaGreatClKOToKS
import Derived.Test.YtkjpbhkldioggaaGreatEvBox
import Derived.Test.YtkjpbhkldioggaaGreatClKVToKC
set_option linter.all false
set_option maxRecDepth 100000
set_option maxHeartbeats 8000000
namespace Go.Proofs.YtkjpbhkldioggaaGreat
open Go.Ev
structure NC (m : Nat) (c : List Cnt) : Prop where
 len : c.length ≤ m
 at_ : ∀ k, k < c.length → (c.getD k ct0).num = (k : Int) + 1 ∧ (c.getD k ct0).pcs = [] ∧ propC (c.getD k ct0) = true ∧ ((c.getD k ct0).pos = 0 ∨ (c.getD k ct0).pos = (k : Int) + 1)
theorem NC.num {m : Nat} {c : List Cnt} (h : NC m c) : NumC c := fun k hk => (h.at_ k hk).1
theorem NC.ok {m : Nat} {c : List Cnt} (h : NC m c) (hm : m ≤ 24) : CtsOk c := by
 have hl := h.len; refine ⟨by omega, fun c hc => ?_, (pw_getD ct0).2 fun a b hab hb => ?_, (pw_getD ct0).2 fun a b hab hb => ?_, (pw_getD ct0).2 fun a b hab hb => ?_⟩
 · obtain ⟨i, hi, rfl⟩ := getD_ct hc; obtain ⟨_, h2, h3, _⟩ := h.at_ i hi; rw [h2]; exact ⟨h3, (by show (0 : Nat) ≤ 60; omega), fun x hx => (by cases hx), .nil⟩
 · rw [(h.at_ a (by omega)).1, (h.at_ b hb).1]; omega
 · intro h1 h2
   rcases (h.at_ a (by omega)).2.2.2 with q | q <;> rcases (h.at_ b hb).2.2.2 with r | r <;> omega
 · rw [(h.at_ a (by omega)).2.1]; intro x hx; cases hx
theorem NC.start {m : Nat} {c : List Cnt} (h : NC m c) (hm : m ≤ 24) : PInv c 0 (LastL []) c := by
 refine ⟨rfl, fun k hk => ?_, fun k hk => ctErr_iff.2 ((h.ok hm).ok _ (getD_mem hk)), fun k hk => ?_, fun k hk x => ?_⟩
 · rfl
 · rw [(h.at_ k hk).2.1]; exact Nat.le_refl _
 · rw [(h.at_ k hk).2.1]; exact ⟨fun q => (by cases q), fun q => absurd q (lastL_nil k x)⟩
theorem applyV_nc {m : Nat} {c : List Cnt} {l : List Opn} (h : NC m c) (hm24 : m ≤ 24) (h5 : c.length = m) (hl : OpsR m l) : (applyV c l).2 = 0 ∧ PInv c 60 (LastL l) (applyV c l).1 := by
 have hlen := hl.len; have hv : valV l = 0 := hl.okl.val (by omega); have hnum : numsIn c l = true := List.all_eq_true.2 fun o ho => by
  have hb := hl.bx o ho; have := numIdx_at h.num (b := o.box) hb.1 (by rw [h5]; exact hb.2); have hb1 : 1 ≤ o.box := hb.1; exact decide_eq_true (by omega)
 have hclr : c.map (clrC ((placesV l).map (fun x => x.1.1))) = c := by
  conv => rhs; rw [← List.map_id c]
  refine List.map_congr_left fun o ho => ?_; obtain ⟨k, hk, rfl⟩ := getD_ct ho; have := (h.at_ k hk).2.1; unfold clrC; rw [this]; show setPcs _ [] = _; rw [← this]; rfl
 have e : applyV c l = forceAll (placesV l) c := by
  unfold applyV; rw [if_neg (by simp [checkV_iff.2 (h.ok hm24)]), if_neg (by simp [hv]), if_neg (by simp [hnum]), hclr]
 have hkey : ∀ p, p ∈ sortBy pltC (abK l) → (placeV (aboutP l p)).1.1 = p ∧ ∃ o ∈ l, (placeV (aboutP l p)).1 = o.2.2.2.2.2 := fun p hp => by
  have hne := about_ne hp; have hl : 0 < (aboutP l p).length := List.length_pos_iff.2 hne; have hm : (aboutP l p).getD ((aboutP l p).length - 1) o0 ∈ aboutP l p := getD_mem (by omega); exact ⟨of_decide_eq_true (List.mem_filter.1 hm).2, _, (List.mem_filter.1 hm).1, rfl⟩
 have hpl : (placesV l).length ≤ 30 := by
  unfold placesV; rw [if_neg (by simp [hv]), List.length_map]; exact Nat.le_trans (sortBy_len l) hlen
 obtain ⟨a, b⟩ := forceAll_ok h.num (placesV l) 0 (LastL []) c (h.start hm24) (by omega) (fun z hz => by
  have h1 : okPc z.1 = true := by
   unfold placesV at hz; rw [if_neg (by simp [hv])] at hz; obtain ⟨p, hp, rfl⟩ := List.mem_map.1 hz; obtain ⟨_, o, ho, e⟩ := hkey p hp; rw [e]; exact okOp_pc (hl.okl.ok o ho)
  rcases placesV_box hz with q | ⟨o, ho, q⟩
  · exact ⟨by omega, by omega, h1⟩
  · have hb := hl.bx o ho; have hb1 : 1 ≤ o.box := hb.1; have hb2 : o.box ≤ m := hb.2; exact ⟨by omega, by omega, h1⟩) (by
  unfold placesV; rw [if_neg (by simp [hv])]; have hsub : ∀ L : List Plt, (∀ p ∈ L, p ∈ sortBy pltC (abK l)) → L.Nodup → (L.map (fun p => placeV (aboutP l p))).Pairwise (fun y z => y.1.1 ≠ z.1.1) := fun L hL hn => by
   rw [List.pairwise_map]; exact List.Pairwise.imp_of_mem (fun {p q} hp hq e => by rw [(hkey p (hL p hp)).1, (hkey q (hL q hq)).1]; exact e) hn
  exact hsub _ (fun p hp => hp) ((sortBy_perm pltC (abK l)).nodup_iff.2 (abK_nodup l)))
  fun z hz k hk y hy => absurd hy (lastL_nil k y)
 rw [e]; refine ⟨a, b.imp (by omega) fun j hj x => ?_⟩; rw [lastL_places hv]; exact ⟨.inr, fun q => q.resolve_left (lastL_nil j x)⟩
theorem pinv_ok {m : Nat} {c x : List Cnt} {l : List Opn} (h : NC m c) (hm : m ≤ 24) (hP : PInv c 60 (LastL l) x) : CtsOk x ∧ NumC x := by
 have hl := h.len; have hxl := hP.len; have hC := h.ok hm; have hn : NumC x := fun k hk => by
  rw [hP.same k (by omega)]; exact (h.at_ k (by omega)).1
 refine ⟨⟨by omega, fun o ho => ?_, (pw_getD ct0).2 fun a b hab hb => ?_, (pw_getD ct0).2 fun a b hab hb => ?_, (pw_getD ct0).2 fun a b hab hb => ?_⟩, hn⟩
 · obtain ⟨i, hi, rfl⟩ := getD_ct ho; exact ctErr_iff.1 (hP.ok i (by omega))
 · rw [hn a (by omega), hn b hb]; omega
 · have h0 := (pw_getD ct0).1 hC.pos a b hab (by omega); rw [hP.same a (by omega), hP.same b (by omega)]; exact h0
 · intro y hy z hz e; obtain ⟨o1, g1, _, g3, _⟩ := (hP.mem a (by omega) y).1 hy; obtain ⟨o2, k1, _, k3, _⟩ := (hP.mem b (by omega) z).1 hz; rw [e, k1] at g1; have := Option.some.inj g1; rw [this] at k3; omega
theorem place_in {k : Int} {l : List Opn} (hO : OpsR k l) {z : Plm} (hz : z ∈ placesV l) (h0 : z.2.1 ≠ 0) : z.2.1 ∈ z.2.2 := by
 unfold placesV at hz; split at hz
 · cases hz
 · obtain ⟨p, hp, rfl⟩ := List.mem_map.1 hz; have hne := about_ne hp; obtain ⟨ys, a, e⟩ : ∃ ys a, aboutP l p = ys ++ [a] := ⟨_, _, (List.dropLast_concat_getLast hne).symm⟩; rw [e] at h0 ⊢; have hl : (ys ++ [a]).getD ((ys ++ [a]).length - 1) o0 = a := by simp [gdE]
   unfold placeV at h0 ⊢; dsimp only at h0 ⊢; rw [hl] at h0 ⊢; by_cases q : a.kind = 1
   · rw [if_pos q, (compV_spec _).2, trail_snoc, if_pos q]; exact List.mem_cons_self ..
   · rw [if_neg q] at h0; exact absurd rfl h0
theorem pinv_cand {m : Nat} {c x : List Cnt} {l : List Opn} (hO : OpsR m l) (hl : l.length ≤ 30) (hP : PInv c 60 (LastL l) x) (hN : NumC x) {o : Cnt} (ho : o ∈ x) {y : Pce} (hy : y ∈ o.pcs) : o.num ∈ candV x (placesV l) y.1 := by
 obtain ⟨i, hi, rfl⟩ := getD_ct ho; have hxl := hP.len; have hv : valV l = 0 := hO.okl.val (by omega); obtain ⟨z, hz, h1, h2⟩ := (lastL_places hv i y).1 ((hP.mem i (by omega) y).1 hy); have h3 := db_plm hO hz; rw [← h2, db_cand hz h3.1, hN i hi, ← h1]; exact place_in hO hz (by omega)
theorem findV_num {x : List Cnt} {p : Plt} (h : (findV x p).2 = true) : ¬ numIdx x (findV x p).1 < 0 := by
 unfold findV at h ⊢; split at h
 · rename_i hi; rw [if_pos hi]; obtain ⟨g1, _, _⟩ := idxV_spec (d := ct0) hi; intro q; have := idxV_neg q _ (getD_mem (d := ct0) g1); simp at this
 · cases h
theorem pinv_lost {m : Nat} {x : List Cnt} {l : List Opn} (hO : OpsR m l) (hN : NumC x) (hx : x.length = m) (p : Plt) : lostV x (placesV l) p = false := by
 unfold lostV; rw [List.any_eq_false]; intro n hn; unfold candV at hn; split at hn
 · rename_i z hz; have h3 := (db_plm hO (List.mem_of_find?_eq_some hz)).2.2.2 n hn; rw [numIdx_at hN h3.1 (by rw [hx]; exact h3.2)]; simp; omega
 · split at hn
   · rename_i q; have := findV_num q; rw [List.mem_singleton.1 hn]; simpa using this
   · cases hn
theorem want_ok {w : List Plt} (hn : w.Nodup) (hv : ∀ p ∈ w, okPl p = true) : wantE w = 0 := by
 unfold wantE; have h1 : w.any (fun p => !okPl p) = false := by
  rw [List.any_eq_false]; intro p hp; rw [hv p hp]; simp
 have h2 : (setP w).Nodup := (setP_spec w).1.imp fun {a b} h q => by
  rw [q] at h; have := (pltC_cmp.eq b b).2 rfl; omega
 have h3 := ((List.perm_ext_iff_of_nodup h2 hn).2 (setP_spec w).2).length_eq; rw [compP_set, if_neg (by rw [h1]; simp), if_neg (by omega)]
theorem find_tasks {x : List Cnt} {l : List Plm} {w : List Plt} (hw : w.Nodup) (hl : ∀ p ∈ w, lostV x l p = false) :
 TkN (sortT (tskL x l (sortBy pltC w))) ∧ (∀ t ∈ sortT (tskL x l (sortBy pltC w)), ¬ numIdx x t.1 < 0 ∧ ∀ p, p ∈ t.2 ↔ p ∈ w ∧ t.1 ∈ candV x l p) ∧ ∀ n, ∀ p ∈ w, n ∈ candV x l p → ∃ t ∈ sortT (tskL x l (sortBy pltC w)), t.1 = n := by
 have hp := sortBy_perm pltC w; have hn : (sortBy pltC w).Nodup := hp.nodup_iff.2 hw; have hP : (sortT (tskL x l (sortBy pltC w))).Perm (tskL x l (sortBy pltC w)) := List.mergeSort_perm _ _; have I := tskL_i x l _ hn; refine ⟨?_, fun t ht => ?_, fun n p hpw hc => ?_⟩
 · unfold TkN; exact (hP.map _).nodup_iff.2 I.n
 · obtain ⟨h1, h2⟩ := I.m t (hP.mem_iff.1 ht); have h3 : ∀ p, p ∈ t.2 ↔ p ∈ w ∧ t.1 ∈ candV x l p := fun p => by rw [h1, namV_mem, hp.mem_iff]
   refine ⟨?_, h3⟩; rw [← h1] at h2; obtain ⟨p, hpm⟩ := List.exists_mem_of_ne_nil _ h2; obtain ⟨g1, g2⟩ := (h3 p).1 hpm; have hlo := hl p g1; unfold lostV at hlo; have := (List.any_eq_false.1 hlo) t.1 g2; simpa using this
 · obtain ⟨t, ht, e⟩ := I.e n (by
    intro q; have : p ∈ namV x l n (sortBy pltC w) := namV_mem.2 ⟨hp.mem_iff.2 hpw, hc⟩; rw [q] at this; cases this)
   exact ⟨t, hP.mem_iff.2 ht, e⟩
def goneB (TS : List Tsk) (n : Int) (y : Pce) : Bool := TS.any (fun u => decide (u.1 = n) && inT u y)
theorem goneB_iff {TS : List Tsk} {n : Int} {y : Pce} : goneB TS n y = true ↔ ∃ u ∈ TS, u.1 = n ∧ y.1 ∈ u.2 := by
 unfold goneB inT; rw [List.any_eq_true]; constructor
 · rintro ⟨u, hu, h⟩; rw [Bool.and_eq_true, List.any_eq_true] at h; obtain ⟨h1, z, hz, e⟩ := h; exact ⟨u, hu, of_decide_eq_true h1, of_decide_eq_true e ▸ hz⟩
 · rintro ⟨u, hu, h1, h2⟩; refine ⟨u, hu, ?_⟩; rw [Bool.and_eq_true, List.any_eq_true]; exact ⟨decide_eq_true h1, y.1, h2, decide_eq_true rfl⟩
theorem goneB_snoc (TS : List Tsk) (u : Tsk) (n : Int) (y : Pce) : goneB (TS ++ [u]) n y = (goneB TS n y || (decide (u.1 = n) && inT u y)) := by
 unfold goneB; rw [List.any_append, List.any_cons, List.any_nil, Bool.or_false]
def thinC (TS : List Tsk) (o : Cnt) : Cnt := setPcs o (o.pcs.filter (fun y => !goneB TS o.num y))
def thinL (TS : List Tsk) (x : List Cnt) : List Cnt := x.map (thinC TS)
theorem thin_nil (x : List Cnt) : thinL [] x = x := by
 unfold thinL
 conv => rhs; rw [← List.map_id x]
 refine List.map_congr_left fun o _ => ?_; unfold thinC; have e : o.pcs.filter (fun y => !goneB [] o.num y) = o.pcs := List.filter_eq_self.2 fun y _ => rfl; rw [e]; rfl
theorem thin_ok {x : List Cnt} (hC : CtsOk x) (TS : List Tsk) : CtsOk (thinL TS x) := by
 unfold thinL; refine ⟨by rw [List.length_map]; exact hC.len, fun c hc => ?_, ?_, ?_, ?_⟩
 · obtain ⟨o, ho, rfl⟩ := List.mem_map.1 hc; obtain ⟨h1, h2, h3⟩ := hC.ok o ho; exact ⟨h1, Nat.le_trans (List.length_filter_le _ _) h2, fun y hy => h3.ok y (List.mem_filter.1 hy).1, h3.srt.filter _⟩
 · rw [List.pairwise_map]; exact hC.num
 · rw [List.pairwise_map]; exact hC.pos
 · rw [List.pairwise_map]; exact hC.pl.imp fun {a b} h y hy z hz => h y (List.mem_filter.1 hy).1 z (List.mem_filter.1 hz).1
theorem num_uniq {x : List Cnt} (hC : CtsOk x) {i j : Nat} (hi : i < x.length) (hj : j < x.length) (e : (x.getD i ct0).num = (x.getD j ct0).num) : i = j := by
 have h := (pw_getD ct0).1 hC.num; apply Classical.byContradiction; intro q
 rcases (by omega : i < j ∨ j < i) with g | g
 · have := h i j g hj; omega
 · have := h j i g hi; omega
theorem thin_step {x : List Cnt} (hC : CtsOk x) {TS : List Tsk} {u : Tsk} (hu : ∀ t ∈ TS, t.1 ≠ u.1) (hk : ¬ numIdx x u.1 < 0) :
 perfV (thinL TS x) u = (thinL (TS ++ [u]) x, ((x.getD (numIdx x u.1).toNat ct0).pcs.filter (inT u)).map (fun y => y.1), 0) := by
 have hT := checkV_iff.2 (thin_ok hC TS); have hnum : numIdx (thinL TS x) u.1 = numIdx x u.1 := numIdx_nums (by unfold thinL; rw [List.map_map]; rfl) u.1; obtain ⟨g1, g2, _⟩ := idxV_spec (d := ct0) (p := fun (o : Cnt) => decide (o.num = u.1)) (l := x) (by unfold numIdx at hk; omega); have g2 : (x.getD (numIdx x u.1).toNat ct0).num = u.1 := of_decide_eq_true g2; have g1 : (numIdx x u.1).toNat < x.length := g1; unfold perfV; rw [if_neg (by rw [hT]; simp), hnum, if_neg hk]; generalize (numIdx x u.1).toNat = k at g1 g2 ⊢; have hgk : (thinL TS x).getD k ct0 = thinC TS (x.getD k ct0) := by
  unfold thinL; rw [getD_lt (by rw [List.length_map]; exact g1), List.getElem_map, getD_lt g1]
 rw [hgk]; have hg0 : ∀ y, goneB TS (x.getD k ct0).num y = false := fun y => by
  rw [Bool.eq_false_iff]; intro q; obtain ⟨t, ht, e, _⟩ := goneB_iff.1 q; exact hu t ht (e.trans g2)
 have hpc : (thinC TS (x.getD k ct0)).pcs = (x.getD k ct0).pcs := by
  show (x.getD k ct0).pcs.filter (fun y => !goneB TS (x.getD k ct0).num y) = _; exact List.filter_eq_self.2 fun y _ => by rw [hg0]; rfl
 rw [hpc]; refine Prod.ext ?_ rfl; dsimp only; apply List.ext_getElem?; intro i; unfold thinL; rw [List.getElem?_set, List.length_map]; by_cases e : k = i
 · subst e; rw [if_pos rfl, if_pos g1, List.getElem?_map, List.getElem?_eq_getElem g1]; have e2 : x[k] = x.getD k ct0 := (getD_lt g1).symm; rw [e2]; show some _ = some (thinC (TS ++ [u]) (x.getD k ct0)); congr 1; show setPcs (x.getD k ct0) ((x.getD k ct0).pcs.filter (fun y => !inT u y)) = setPcs (x.getD k ct0) ((x.getD k ct0).pcs.filter (fun y => !goneB (TS ++ [u]) (x.getD k ct0).num y)); congr 1; refine List.filter_congr fun y _ => ?_; rw [goneB_snoc, hg0, g2, decide_eq_true rfl, Bool.false_or, Bool.true_and]
 · rw [if_neg e, List.getElem?_map, List.getElem?_map]
   cases h : x[i]? with
   | none => rfl
   | some o =>
     show some (thinC TS o) = some (thinC (TS ++ [u]) o); congr 1; obtain ⟨hi, ho⟩ := List.getElem?_eq_some_iff.1 h; have hne : ¬ u.1 = o.num := fun q => by
      refine e (num_uniq hC g1 hi ?_); rw [g2, q, ← ho, getD_lt hi]
     unfold thinC; congr 1; refine List.filter_congr fun y _ => ?_; rw [goneB_snoc, decide_eq_false hne, Bool.false_and, Bool.or_false]
structure FndK (x : List Cnt) (w : List Plt) (TS : List Tsk) : Prop where
 ok : CtsOk x
 nd : w.Nodup
 n : TkN TS
 ex : ∀ t ∈ TS, ¬ numIdx x t.1 < 0
 sub : ∀ t ∈ TS, ∀ p ∈ t.2, p ∈ w
 all : ∀ o ∈ x, ∀ y ∈ o.pcs, y.1 ∈ w → ∃ t ∈ TS, t.1 = o.num ∧ y.1 ∈ t.2
theorem FndK.hold {x : List Cnt} {w : List Plt} {TS : List Tsk} (h : FndK x w TS) {o : Cnt} (ho : o ∈ x) {y : Pce} (hy : y ∈ o.pcs) : holdsV (thinC TS o) y.1 = !decide (y.1 ∈ w) := by
 rw [Bool.eq_iff_iff, holdsV_iff]; constructor
 · rintro ⟨z, hz, e⟩; obtain ⟨h1, h2⟩ := List.mem_filter.1 hz; by_cases q : y.1 ∈ w
   · rw [← e] at q; obtain ⟨t, ht, e2, h3⟩ := h.all o ho z h1 q; rw [goneB_iff.2 ⟨t, ht, e2, h3⟩] at h2; cases h2
   · rw [decide_eq_false q]; rfl
 · intro q; have q : ¬ y.1 ∈ w := by simpa using q
   refine ⟨y, List.mem_filter.2 ⟨hy, ?_⟩, rfl⟩; have : goneB TS o.num y = false := by
    rw [Bool.eq_false_iff]; intro g; obtain ⟨t, ht, _, h3⟩ := goneB_iff.1 g; exact q (h.sub t ht _ h3)
   rw [this]; rfl
def setU (l : List Int) : List (Int × Unit) := l.foldl (fun m x => mset (kt := .int .i64) m x ()) []
theorem setU_push (l : List Int) (x : Int) : setU (l ++ [x]) = mset (kt := .int .i64) (setU l) x () := by
 unfold setU; rw [List.foldl_append]; rfl
theorem setU_in (x : Int) : ∀ (l : List Int), (mget (kt := .int .i64) (setU l) x).isSome = true ↔ x ∈ l := by
 have key : ∀ (l : List Int) (m : List (Int × Unit)), (mget (kt := .int .i64) (l.foldl (fun m x => mset (kt := .int .i64) m x ()) m) x).isSome = true ↔ (x ∈ l ∨ (mget (kt := .int .i64) m x).isSome = true) := by
  intro l
  induction l with
  | nil => intro m; simp
  | cons y l ih =>
    intro m; rw [List.foldl_cons, ih, mget_mset (kt := .int .i64) (β := Unit) keyEq_int]; by_cases h : keyEq yI x y = true
    · rw [if_pos h]; simp [(keyEq_int x y).1 h]
    · rw [if_neg h]; have : x ≠ y := fun e => h ((keyEq_int x y).2 e); simp [this]
 intro l; rw [setU, key]; simp [mget]
def rawC (f : Flt) (o : Cnt) : List Plt := if o.flt = f then o.pcs.map (fun x => x.1) else []
def rawA (f : Flt) (c : List Cnt) : List Plt := c.flatMap (rawC f)
def ownC (f : Flt) (o : Cnt) : List Int := if o.flt = f then [o.num] else []
def ownL (f : Flt) (c : List Cnt) : List Int := c.flatMap (ownC f)
def rawP (f : Flt) (c : List Cnt) (y : Plm) : List Plt := if y.2.2.any (fun n => decide (n ∈ ownL f c)) = true then [y.1.1] else []
def concV (f : Flt) (c : List Cnt) (p : List Plm) : List Plt := setP (rawA f c ++ p.flatMap (rawP f c))
def SmC (c : List Cnt) (p : List Plm) : Prop := c.length ≤ 1000 ∧ (∀ o ∈ c, o.pcs.length ≤ 1000) ∧ p.length ≤ 1000 ∧ ∀ y ∈ p, y.2.2.length ≤ 1000
theorem any_own (f : Flt) (c : List Cnt) (l : List Int) : (l.any fun n => (mget (kt := .int .i64) (setU (ownL f c)) n).isSome) = l.any fun n => decide (n ∈ ownL f c) := by
 congr 1; funext n; rw [Bool.eq_iff_iff, setU_in, decide_eq_true_eq]
theorem flat_len {α β : Type} (g : α → List β) (n : Nat) : ∀ (l : List α), (∀ x ∈ l, (g x).length ≤ n) → (l.flatMap g).length ≤ n * l.length
 | [], _ => by simp
 | a :: l, h => by
   have h1 := h a (List.mem_cons_self ..); have h2 := flat_len g n l fun x hx => h x (List.mem_cons_of_mem _ hx); rw [List.flatMap_cons, List.length_append, List.length_cons, Nat.mul_succ]; omega
theorem flat_take {α β : Type} (g : α → List β) (d : α) {l : List α} {i : Nat} (h : i < l.length) : (l.take (i + 1)).flatMap g = (l.take i).flatMap g ++ g (l.getD i d) := by
 rw [tsE h, List.flatMap_append, getD_lt (d := d) h]; simp
theorem rawC_len (f : Flt) (o : Cnt) : (rawC f o).length ≤ o.pcs.length := by unfold rawC; split <;> simp
theorem rawA_len {f : Flt} {c : List Cnt} {p : List Plm} (h : SmC c p) (i : Nat) : (rawA f (c.take i)).length ≤ 1000000 := by
 have h1 := flat_len (rawC f) 1000 (c.take i) fun x hx => Nat.le_trans (rawC_len f x) (h.2.1 x (List.mem_of_mem_take hx)); have h2 : (c.take i).length ≤ 1000 := by rw [List.length_take]; have := h.1; omega
 show ((c.take i).flatMap (rawC f)).length ≤ _
 calc _ ≤ 1000 * (c.take i).length := h1
  _ ≤ 1000 * 1000 := Nat.mul_le_mul_left _ h2
  _ ≤ 1000000 := by omega
theorem rawP_len (f : Flt) (c : List Cnt) (p : List Plm) : (p.flatMap (rawP f c)).length ≤ p.length := by
 have := flat_len (rawP f c) 1 p fun y _ => by unfold rawP; split <;> simp
 omega
theorem mem_ownL {f : Flt} {c : List Cnt} {n : Int} : n ∈ ownL f c ↔ oursV f c n = true := by
 unfold ownL oursV; rw [List.mem_flatMap, List.any_eq_true]; constructor
 · rintro ⟨o, ho, h⟩; unfold ownC at h; split at h
   · rename_i e; have h : n = o.num := by simpa using h
     exact ⟨o, ho, by rw [Bool.and_eq_true, decide_eq_true_eq, decide_eq_true_eq]; exact ⟨h.symm, e⟩⟩
   · cases h
 · rintro ⟨o, ho, h⟩; rw [Bool.and_eq_true, decide_eq_true_eq, decide_eq_true_eq] at h; refine ⟨o, ho, ?_⟩; unfold ownC; rw [if_pos h.2, h.1]; exact List.mem_singleton.2 rfl
def con70 : BCon := { ps := [.d false yI, .bx], rs := [.d false .bool], e := 148, k := .map yI .unit false true, pre := fun _ _ => True, out := fun (x : Int × Unit × Unit) z => ((mget (kt := .int .i64) z x.1).isSome, ()), nw := fun x _ => x, nx := fun _ z => z }
theorem c70 : CtrOk Tryz.prog 70 con70.ctr :=
 box_sound (G := ⟨[], [], [], [], []⟩) tab_ok EnvOk.nil rfl Tryz.func70 rfl con70 43 (by kernel_rfl) (by decide) (by decide) rfl (by decide) rfl (by
  rintro ⟨(n : Int), _⟩ (z : List (Int × Unit)) hpre hwf X hT hG hk hK
  (simp -implicitDefEqProofs only [go_sem, bP, con70, hT, hG, hk, hK, Tryz.results70] at hwf ⊢)
  all_goals rfl)
def con97 : BCon := { ps := [.d false (.sl yI), .cl 70 [.bx]], rs := [.d false yI], e := 148, k := .map yI .unit false true, pre := fun _ _ => True, out := fun (x : List Int × (Unit × Unit) × Unit) z => (idxV (fun n => (mget (kt := .int .i64) z n).isSome) x.1, ()), nw := fun x _ => x, nx := fun _ z => z }
theorem c97 : CtrOk Tryz.prog 97 con97.ctr :=
 box_sound (G := ⟨[(70, con70.ctr)], [], [], [], []⟩) tab_ok (EnvOk.cons c70 has70 EnvOk.nil) rfl Tryz.func97 rfl con97 66483 (by kernel_rfl) (by decide) (by decide) rfl (by decide) rfl (by
  rintro ⟨(l : List Int), _⟩ (z : List (Int × Unit)) hpre hwf X hT hG hk hK
  (simp -implicitDefEqProofs only [go_sem, bP, con97, con70, hT, hG, hk, hK, Tryz.results97] at hwf ⊢)
  clear hwf; refine fun _ => evk_loop ⟨{ i : Nat // i ≤ l.length ∧ ∀ k, k < i → (fun n => (mget (kt := .int .i64) z n).isSome) (l.getD k 0) = false }, 1000, fun q => [(0, .one (.sl yI l false)), (1, .one (.fn 70 [.loc 31 0])), (4, .one (.int .i64 0)), (7, .one (.int .i64 l.length)), (8, .one (.int .i64 q.1))], fun q => [(31, .cells 148 [.map 40]), (40, .mapb yI .unit false true z)], fun q => l.length - q.1⟩ ⟨0, by omega, fun k hk => by omega⟩ ?_ ?_
  · simp only [go_sem]
    try first | rfl | (and_intros <;> first | trivial | rfl | omega)
  · rintro ⟨i, (hi : i ≤ l.length), hz⟩
    (simp -implicitDefEqProofs only [go_sem, bP, con97, con70, hT, hG, hk, hK, Tryz.results97])
    obtain ⟨o, ho⟩ : ∃ o, l.getD i 0 = o := ⟨_, rfl⟩; have eo : l.getD (i : Int).toNat 0 = o := ho; rw [eo]
    (repeat' with_reducible first | refine And.intro ?_ ?_ | intro _) <;> try first | with_reducible (first | assumption | omega | contradiction) | decide
    all_goals first
     | rfl
     | (have h : (mget (kt := .int .i64) z o).isSome = true := by assumption
        exact (idxV_at (d := 0) hz (by omega) (by rw [ho]; exact h)).symm)
     | (have h : (mget (kt := .int .i64) z o).isSome = false := by assumption
        refine fin_lp ⟨i + 1, by omega, lt_succ hz (by rw [ho]; exact h)⟩ (by simp only [go_sem]; first | rfl | ((repeat' apply And.intro) <;> first | rfl | assumption | omega)) (by dsimp only; omega)
        done)
     | exact (idxV_none (d := 0) fun k hk => hz k (by omega)).symm)
def con69 : BCon := { ps := [.d false (.sl yI), .cl 70 [.bx]], rs := [.d false .bool], e := 148, k := .map yI .unit false true, pre := fun _ _ => True, out := fun (x : List Int × (Unit × Unit) × Unit) z => (x.1.any (fun n => (mget (kt := .int .i64) z n).isSome), ()), nw := fun x _ => x, nx := fun _ z => z }
theorem any_idx (g : Int → Bool) (l : List Int) : l.any g = decide (idxV g l ≥ 0) := by
 by_cases h : 0 ≤ idxV g l
 · obtain ⟨h1, h2, _⟩ := idxV_spec (d := 0) h; rw [decide_eq_true (by omega), List.any_eq_true]; exact ⟨_, getD_mem h1, h2⟩
 · rw [decide_eq_false (by omega), List.any_eq_false]; intro x hx; have := idxV_neg (p := g) (l := l) (by omega) x hx; rw [this]; exact Bool.false_ne_true
theorem c69 : CtrOk Tryz.prog 69 con69.ctr :=
 box_sound (G := ⟨[(97, con97.ctr)], [], [], [], []⟩) tab_ok (EnvOk.cons c97 has97 EnvOk.nil) rfl Tryz.func69 rfl con69 19 (by kernel_rfl) (by decide) (by decide) rfl (by decide) rfl (by
  rintro ⟨(l : List Int), _⟩ (z : List (Int × Unit)) hpre hwf X hT hG hk hK
  (simp -implicitDefEqProofs only [go_sem, bP, con69, con97, hT, hG, hk, hK, Tryz.results69] at hwf ⊢)
  rw [any_idx]
  (repeat' with_reducible first | refine And.intro ?_ ?_ | intro _) <;> try first | with_reducible (first | assumption | omega | contradiction) | decide
  all_goals rfl)
def con34 : Con := { ps := [.d true yFL, .d false (.sl yCT), .d false (.sl yPM)], rs := [.d false (.sl yPL)], pre := fun (x : Flt × List Cnt × List Plm × Unit) => SmC x.2.1 x.2.2.1, out := fun (x : Flt × List Cnt × List Plm × Unit) => (concV x.1 x.2.1 x.2.2.1, ()), nw := id }
theorem c34 : CtrOk Tryz.prog 34 con34.ctr :=
 con_sound (G := ⟨[(69, con69.ctr), (71, con71.ctr)], [(63, con63.rctr)], [], [], []⟩) tab_ok (EnvOk.cons c69 has69 (EnvOk.cons c71 has71 (EnvOk.rcons c63 has63 EnvOk.nil))) rfl Tryz.func34 rfl con34 9271114292221391 (by kernel_rfl) (by decide) (by decide) rfl (by decide) rfl (by
  rintro ⟨⟨f1, (f2 : Int), f3, (f4 : Int)⟩, (c : List Cnt), (p : List Plm), _⟩ hpre hwf X hT hG hk hK; have hsm : SmC c p := hpre
  (simp -implicitDefEqProofs only [go_sem, bP, con34, con69, con71, con63, hT, hG, hk, hK, Tryz.results34, sortFCon] at hwf ⊢)
  clear hwf; obtain ⟨F, hF⟩ : ∃ F : Flt, F = (f1, f2, f3, f4) := ⟨_, rfl⟩; refine fun _ => evk_loop ⟨{ i : Nat // i ≤ c.length }, 1000, fun q => [(2, .one (.sl yPM p false)), (3, .one (.loc 70 0)), (7, .one (.row 71)), (8, .one (.loc 72 0)), (16, .one (.sl yCT c false)), (17, .one (.int .i64 c.length)), (18, .one (.int .i64 q.1))], fun q => [(70, .cells 26 [.str f1, .int .i64 f2, .str f3, .int .i64 f4]), (72, .cells 148 [.map 73]), (71, .row 45 yPL (rawA F (c.take q.1))), (73, .mapb yI .unit false true (setU (ownL F (c.take q.1))))], fun q => c.length - q.1⟩ ⟨0, by omega⟩ ?_ ?_
  · simp only [go_sem]
    try first | rfl | (and_intros <;> first | trivial | rfl | omega)
  · rintro ⟨i, (hi : i ≤ c.length)⟩
    (simp -implicitDefEqProofs only [go_sem, bP, con34, con69, con71, con63, hT, hG, hk, hK, Tryz.results34, sortFCon])
    obtain ⟨o, ho⟩ : ∃ o, c.getD i ct0 = o := ⟨_, rfl⟩; have eo : c.getD (i : Int).toNat (0, (ByteArray.empty, 0, ByteArray.empty, 0), 0, 0, 0, 0, 0, []) = o := ho; rw [eo]; have hra : i < c.length → rawA F (c.take (i + 1)) = rawA F (c.take i) ++ rawC F o := fun h => by unfold rawA; rw [flat_take _ ct0 h, ho]
    have hro : i < c.length → ownL F (c.take (i + 1)) = ownL F (c.take i) ++ ownC F o := fun h => by unfold ownL; rw [flat_take _ ct0 h, ho]
    have hlr := rawA_len (f := F) hsm i; have hlo : i < c.length → o.pcs.length ≤ 1000 := fun h => hsm.2.1 o (by rw [← ho]; exact getD_mem h)
    (repeat' with_reducible first | refine And.intro ?_ ?_ | intro _) <;> try first | with_reducible (first | assumption | omega | contradiction) | decide
    all_goals first
     | (have h : ¬ o.2.1.1 = f1 ∨ ¬ o.2.1.2.1 = f2 ∨ ¬ o.2.1.2.2.1 = f3 ∨ ¬ o.2.1.2.2.2 = f4 := by assumption
        have hn : ¬ o.flt = F := by rw [hF]; exact (fltN o.2.1 (f1, f2, f3, f4)).mp h
        have e1 := hra (by omega); have e2 := hro (by omega); unfold rawC at e1; unfold ownC at e2; rw [if_neg hn, List.append_nil] at e1 e2; refine fin_lp ⟨i + 1, by omega⟩ ?_ (by dsimp only; omega); simp only [go_sem]; rw [e1, e2]
        try first | rfl | (and_intros <;> first | trivial | rfl | omega)
        done)
     | (have h : o.2.1.1 = f1 ∧ o.2.1.2.1 = f2 ∧ o.2.1.2.2.1 = f3 ∧ o.2.1.2.2.2 = f4 := by assumption
        have hn : o.flt = F := by rw [hF]; exact (fltE o.2.1 (f1, f2, f3, f4)).mp h
        have e1 := hra (by omega); have e2 := hro (by omega); have hlo := hlo (by omega); unfold rawC at e1; unfold ownC at e2; rw [if_pos hn] at e1 e2; rw [← setU_push]; refine evk_loop ⟨{ k : Nat // k ≤ o.pcs.length }, 1000, fun q => [(2, .one (.sl yPM p false)), (3, .one (.loc 70 0)), (7, .one (.row 71)), (8, .one (.loc 72 0)), (16, .one (.sl yCT c false)), (17, .one (.int .i64 c.length)), (18, .one (.int .i64 i)), (31, .one (.sl yPC o.pcs false)), (32, .one (.int .i64 o.pcs.length)), (33, .one (.int .i64 q.1))], fun q => [(70, .cells 26 [.str f1, .int .i64 f2, .str f3, .int .i64 f4]), (72, .cells 148 [.map 73]), (71, .row 45 yPL (rawA F (c.take i) ++ (o.pcs.take q.1).map (fun x => x.1))), (73, .mapb yI .unit false true (setU (ownL F (c.take i) ++ [o.num])))], fun q => o.pcs.length - q.1⟩ ⟨0, by omega⟩ ?_ ?_
        · simp only [go_sem]
          try simp only [List.take_zero, List.map_nil, List.append_nil]
          try first | rfl | (and_intros <;> first | trivial | rfl | omega)
        · rintro ⟨k, (hk2 : k ≤ o.pcs.length)⟩
          (simp -implicitDefEqProofs only [go_sem, bP, con34, con69, con71, con63, hT, hG, hk, hK, Tryz.results34, sortFCon])
          obtain ⟨y, hy⟩ : ∃ y, o.pcs.getD k pc0 = y := ⟨_, rfl⟩; have ey : o.pcs.getD (k : Int).toNat ((0, 0, 0), 0, 0) = y := hy; have hps : k < o.pcs.length → (o.pcs.take (k + 1)).map (fun x => x.1) = (o.pcs.take k).map (fun x => x.1) ++ [y.1] := fun h => by rw [pcs_push h, hy]
          have hkl : ((o.pcs.take k).map (fun x : Pce => x.1)).length ≤ 1000 := by rw [List.length_map, List.length_take]; omega
          try rw [ey]
          (repeat' with_reducible first | refine And.intro ?_ ?_ | intro _) <;> try first | with_reducible (first | assumption | omega | contradiction) | decide
          all_goals first
           | (have e3 := hps (by omega)
              refine fin_lp ⟨k + 1, by omega⟩ ?_ (by dsimp only; omega); simp only [go_sem]; rw [e3, ← List.append_assoc]
              try first | rfl | (and_intros <;> first | trivial | rfl | omega)
              done)
           | (have e4 : k = o.pcs.length := by omega
              refine fin_lp ⟨i + 1, by omega⟩ ?_ (by dsimp only; omega); simp only [go_sem]; rw [e1, e2, e4, List.take_length]
              try first | rfl | (and_intros <;> first | trivial | rfl | omega)
              done)
           | (rw [List.length_append]; omega))
     | (have ei : c.take i = c := List.take_of_length_le (by omega)
        rw [ei]; refine evk_loop ⟨{ k : Nat // k ≤ p.length }, 1000, fun q => [(3, .one (.loc 70 0)), (7, .one (.row 71)), (8, .one (.loc 72 0)), (44, .one (.sl yPM p false)), (45, .one (.int .i64 p.length)), (46, .one (.int .i64 q.1))], fun q => [(70, .cells 26 [.str f1, .int .i64 f2, .str f3, .int .i64 f4]), (72, .cells 148 [.map 73]), (71, .row 45 yPL (rawA F c ++ (p.take q.1).flatMap (rawP F c))), (73, .mapb yI .unit false true (setU (ownL F c)))], fun q => p.length - q.1⟩ ⟨0, by omega⟩ ?_ ?_
        · simp only [go_sem]
          try simp only [List.take_zero, List.flatMap_nil, List.append_nil]
          try first | rfl | (and_intros <;> first | trivial | rfl | omega)
        · rintro ⟨k, (hk2 : k ≤ p.length)⟩
          (simp -implicitDefEqProofs only [go_sem, bP, con34, con69, con71, con63, hT, hG, hk, hK, Tryz.results34, sortFCon])
          obtain ⟨y, hy⟩ : ∃ y, p.getD k pm0 = y := ⟨_, rfl⟩; have ey : p.getD (k : Int).toNat (((0, 0, 0), 0, 0), 0, []) = y := hy; have hps : k < p.length → (p.take (k + 1)).flatMap (rawP F c) = (p.take k).flatMap (rawP F c) ++ rawP F c y := fun h => by rw [flat_take _ pm0 h, hy]
          have hkl := rawP_len F c (p.take k); have hkl2 : (p.take k).length ≤ 1000 := by rw [List.length_take]; have := hsm.2.2.1; omega
          have hlr := rawA_len (f := F) hsm c.length; rw [List.take_length] at hlr
          try rw [ey]
          try simp only [any_own]
          (repeat' with_reducible first | refine And.intro ?_ ?_ | intro _) <;> try first | with_reducible (first | assumption | omega | contradiction) | decide
          all_goals first
           | (have h : (y.2.2.any fun n => decide (n ∈ ownL F c)) = true := by assumption
              have e3 := hps (by omega); unfold rawP at e3; rw [if_pos h] at e3; refine fin_lp ⟨k + 1, by omega⟩ ?_ (by dsimp only; omega); simp only [go_sem]; unfold rawP; rw [e3, ← List.append_assoc]
              try first | rfl | (and_intros <;> first | trivial | rfl | omega)
              done)
           | (have h : (y.2.2.any fun n => decide (n ∈ ownL F c)) = false := by assumption
              have e3 := hps (by omega); unfold rawP at e3; rw [if_neg (by rw [h]; exact Bool.false_ne_true), List.append_nil] at e3; refine fin_lp ⟨k + 1, by omega⟩ ?_ (by dsimp only; omega); simp only [go_sem]; unfold rawP; rw [e3]
              try first | rfl | (and_intros <;> first | trivial | rfl | omega)
              done)
           | (rw [List.length_append]; omega)
           | (rename_i h _
              have e4 : p.take k = p := List.take_of_length_le (by omega); rw [e4] at h; rw [compP_eq h.1 h.2, hF]; rfl)))
abbrev Hhd := Int × Int × Int × Bool × List (Pce × Flt) × List Cnt × List Opn
abbrev Bar := Int × Int × Plt
def hh0 : Hhd := (0, 0, 0, false, [], [], [])
def br0 : Bar := (0, 0, (0, 0, 0))
def brS (n : Int) : List Bar := if n ≠ 0 then [(1, n, (0, 0, 0))] else []
def brH (x : Hhd) : List Bar := if x.2.2.2.1 = true then [(2, x.1, (0, 0, 0))] else []
def brU (p : List Plm) (x : Plt) : List Bar := if uncV p x = true then [(3, 0, x)] else []
def brA (r : List Rlg) (x : Plt) : List Bar := if mayV r x = false then [(4, reasonV r x, x)] else []
def brC (f : Flt) (o : Cnt) : List Bar := if o.flt = f ∧ overV o = true then [(5, o.num, (0, 0, 0))] else []
def barsV (l : List Dpt) (f : Flt) (now : Int) (h : List Hhd) (c : List Cnt) (p : List Plm) (r : List Rlg) : List Bar :=
 brS (stateV l f now) ++ h.flatMap brH ++ (concV f c p).flatMap (brU p) ++ (concV f c p).flatMap (brA r) ++ c.flatMap (brC f)
theorem brS_len (n : Int) : (brS n).length ≤ 1 := by unfold brS; split <;> simp
theorem brH_len (x : Hhd) : (brH x).length ≤ 1 := by unfold brH; split <;> simp
theorem brU_len (p : List Plm) (x : Plt) : (brU p x).length ≤ 1 := by unfold brU; split <;> simp
theorem brA_len (p : List Rlg) (x : Plt) : (brA p x).length ≤ 1 := by unfold brA; split <;> simp
theorem brC_len (f : Flt) (x : Cnt) : (brC f x).length ≤ 1 := by unfold brC; split <;> simp
theorem fl1 {α β : Type} {g : α → List β} (h : ∀ x, (g x).length ≤ 1) (l : List α) : (l.flatMap g).length ≤ l.length := by
 have := flat_len g 1 l fun x _ => h x; omega
theorem concV_len {f : Flt} {c : List Cnt} {p : List Plm} (h : SmC c p) : (concV f c p).length ≤ 1001000 := by
 unfold concV; have h1 := setP_len (rawA f c ++ p.flatMap (rawP f c)); have h2 := rawA_len (f := f) h c.length; rw [List.take_length] at h2; have h3 := rawP_len f c p; have h4 := h.2.2.1; rw [List.length_append] at h1; omega
def con32 : BCon := { ps := [.d false yI, .d false yI, .d true yPL, .bx], rs := [], e := 39, k := .row 47 yBR, pre := fun _ (z : List Bar) => z.length ≤ 100000000, out := fun _ _ => (), nw := fun x _ => x, nx := fun (x : Int × Int × Plt × Unit × Unit) z => z ++ [(x.1, x.2.1, x.2.2.1)] }
theorem c32 : CtrOk Tryz.prog 32 con32.ctr :=
 box_sound (G := ⟨[], [], [], [], []⟩) tab_ok EnvOk.nil rfl Tryz.func32 rfl con32 79 (by kernel_rfl) (by decide) (by decide) rfl (by decide) rfl (by
  rintro ⟨(n : Int), (m : Int), ⟨(p1 : Int), (p2 : Int), (p3 : Int)⟩, _⟩ (z : List Bar) hpre hwf X hT hG hk hK; have hz : z.length ≤ 100000000 := hpre
  (simp -implicitDefEqProofs only [go_sem, bP, con32, hT, hG, hk, hK, Tryz.results32] at hwf ⊢)
  (repeat' with_reducible first | refine And.intro ?_ ?_ | intro _) <;> try first | with_reducible (first | assumption | omega | contradiction) | decide
  all_goals rfl)
def con11 : Con := { ps := [.d false (.sl yDP), .d true yFL, .d false yI, .d false (.sl yHH), .d false (.sl yCT), .d false (.sl yPM), .d false (.sl yRU)], rs := [.d false (.sl yBR)], pre := fun (x : List Dpt × Flt × Int × List Hhd × List Cnt × List Plm × List Rlg × Unit) => SmC x.2.2.2.2.1 x.2.2.2.2.2.1 ∧ x.2.2.2.1.length ≤ 1000, out := fun (x : List Dpt × Flt × Int × List Hhd × List Cnt × List Plm × List Rlg × Unit) => (barsV x.1 x.2.1 x.2.2.1 x.2.2.2.1 x.2.2.2.2.1 x.2.2.2.2.2.1 x.2.2.2.2.2.2.1, ()), nw := id }
theorem c11 : CtrOk Tryz.prog 11 con11.ctr :=
 con_sound (G := ⟨[(32, con32.ctr), (33, con33.ctr), (34, con34.ctr), (35, con35.ctr), (37, con37.ctr), (36, con36.ctr), (38, con38.ctr)], [], [], [], []⟩) tab_ok (EnvOk.cons c32 has32 (EnvOk.cons c33 has33 (EnvOk.cons c34 has34 (EnvOk.cons c35 has35 (EnvOk.cons c37 has37 (EnvOk.cons c36 has36 (EnvOk.cons c38 has38 EnvOk.nil))))))) rfl Tryz.func11 rfl con11 634986180006364451094446981503 (by kernel_rfl) (by decide) (by decide) rfl (by decide) rfl (by
  rintro ⟨(l : List Dpt), ⟨f1, (f2 : Int), f3, (f4 : Int)⟩, (now : Int), (h : List Hhd), (c : List Cnt), (p : List Plm), (r : List Rlg), _⟩ hpre hwf X hT hG hk hK; obtain ⟨hsm, hhl⟩ : SmC c p ∧ h.length ≤ 1000 := hpre
  (simp -implicitDefEqProofs only [go_sem, bP, con11, con32, con33, con34, con35, con37, con36, con38, hT, hG, hk, hK, Tryz.results11] at hwf ⊢); (try simp (disch := decide +kernel) only [drawn, true_and, and_true])
  clear hwf; obtain ⟨F, hF⟩ : ∃ F : Flt, F = (f1, f2, f3, f4) := ⟨_, rfl⟩; have hFp : concV (f1, f2, f3, f4) c p = concV F c p := by rw [hF]
  obtain ⟨P, hP⟩ : ∃ P : List Plt, concV F c p = P := ⟨_, rfl⟩; have hPl : P.length ≤ 1001000 := by rw [← hP]; exact concV_len hsm
  have hcl := hsm.1; have eta3 : ∀ x : Plt, (x.1, x.2.1, x.2.2) = x := fun _ => rfl; have hA1 := fl1 (g := brH) brH_len h; have hA2 := fl1 (g := brU p) (brU_len p) P; have hA3 := fl1 (g := brA r) (brA_len r) P; obtain ⟨S, hS⟩ : ∃ S : List Bar, brS (stateV l (f1, f2, f3, f4) now) = S := ⟨_, rfl⟩; have hSl : S.length ≤ 1 := by rw [← hS]; exact brS_len _
  have hS0 : S = if ¬ stateV l (f1, f2, f3, f4) now = 0 then [(1, stateV l (f1, f2, f3, f4) now, (0, 0, 0))] else [] := hS.symm
  have hF2 : barsV l (f1, f2, f3, f4) now h c p r = S ++ h.flatMap brH ++ P.flatMap (brU p) ++ P.flatMap (brA r) ++ c.flatMap (brC F) := by
   rw [← hP, ← hS, hF]; rfl
  refine fun _ => ⟨fun hs _ => ?_, fun hs _ => ?_⟩
  all_goals (
   refine evk_loop ⟨{ i : Nat // i ≤ h.length }, 1000, fun q => [(4, .one (.sl yCT c false)), (5, .one (.sl yPM p false)), (6, .one (.sl yRU r false)), (8, .one (.loc 70 0)), (15, .one (.loc 72 0)), (16, .one (.fn 32 [.loc 72 0])), (38, .one (.sl yHH h false)), (39, .one (.int .i64 h.length)), (40, .one (.int .i64 q.1))], fun q => [(70, .cells 26 [.str f1, .int .i64 f2, .str f3, .int .i64 f4]), (72, .cells 39 [.row 73]), (73, .row 47 yBR (S ++ (h.take q.1).flatMap brH))], fun q => h.length - q.1⟩ ⟨0, by omega⟩ ?_ ?_
   · simp only [go_sem]
     try simp only [List.take_zero, List.flatMap_nil, List.append_nil]
     try (first | rw [hS0, if_pos hs] | rw [hS0, if_neg (fun q => q hs)])
     try first | rfl | (and_intros <;> first | trivial | rfl | omega)
   · rintro ⟨i0, (hi0 : i0 ≤ h.length)⟩; have hb0 := fl1 (g := brH) (by intro x; first | exact brH_len x | exact brU_len p x | exact brA_len r x | exact brC_len F x) (h.take i0); have hc0 : (h.take i0).length ≤ h.length := by rw [List.length_take]; omega
     (simp -implicitDefEqProofs only [go_sem, bP, con11, con32, con33, con34, con35, con37, con36, con38, hT, hG, hk, hK, Tryz.results11]); (try simp (disch := decide +kernel) only [drawn, true_and, and_true])
     obtain ⟨o0, ho0⟩ : ∃ o, h.getD i0 hh0 = o := ⟨_, rfl⟩; have eo0 : h.getD (i0 : Int).toNat (0, 0, 0, false, [], [], []) = o0 := ho0; have hps0 : i0 < h.length → (h.take (i0 + 1)).flatMap brH = (h.take i0).flatMap brH ++ brH o0 := fun h => by rw [flat_take _ hh0 h, ho0]
     rw [eo0]
     try simp only [eta3]
     (repeat' with_reducible first | refine And.intro ?_ ?_ | intro _) <;> try first | with_reducible (first | assumption | omega | contradiction) | decide
     all_goals first
      | (have hq : o0.2.2.2.1 = true := by assumption
         have eb : brH o0 = _ := if_pos hq; refine fin_lp ⟨i0 + 1, by omega⟩ ?_ (by dsimp only; omega); simp only [go_sem]; rw [hps0 (by omega), eb, ← List.append_assoc]
         try first | rfl | (and_intros <;> first | trivial | rfl | omega)
         done)
      | (have hq : o0.2.2.2.1 = false := by assumption
         have eb : brH o0 = _ := if_neg (by rw [hq]; simp); refine fin_lp ⟨i0 + 1, by omega⟩ ?_ (by dsimp only; omega); simp only [go_sem]; rw [hps0 (by omega), eb, List.append_nil]
         try first | rfl | (and_intros <;> first | trivial | rfl | omega)
         done)
      | (simp only [List.length_append]; omega)
      | (have ei : h.take i0 = h := List.take_of_length_le (by omega)
         rw [ei]; simp only [hFp, hP]; refine evk_loop ⟨{ i : Nat // i ≤ P.length }, 1000, fun q => [(4, .one (.sl yCT c false)), (5, .one (.sl yPM p false)), (6, .one (.sl yRU r false)), (8, .one (.loc 70 0)), (15, .one (.loc 72 0)), (16, .one (.fn 32 [.loc 72 0])), (20, .one (.sl yPL P false)), (56, .one (.sl yPL P false)), (57, .one (.int .i64 P.length)), (58, .one (.int .i64 q.1))], fun q => [(70, .cells 26 [.str f1, .int .i64 f2, .str f3, .int .i64 f4]), (72, .cells 39 [.row 73]), (73, .row 47 yBR (S ++ h.flatMap brH ++ (P.take q.1).flatMap (brU p)))], fun q => P.length - q.1⟩ ⟨0, by omega⟩ ?_ ?_
         · simp only [go_sem]
           try simp only [List.take_zero, List.flatMap_nil, List.append_nil]
           try first | rfl | (and_intros <;> first | trivial | rfl | omega)
         · rintro ⟨i1, (hi1 : i1 ≤ P.length)⟩; have hb1 := fl1 (g := (brU p)) (by intro x; first | exact brH_len x | exact brU_len p x | exact brA_len r x | exact brC_len F x) (P.take i1); have hc1 : (P.take i1).length ≤ P.length := by rw [List.length_take]; omega
           (simp -implicitDefEqProofs only [go_sem, bP, con11, con32, con33, con34, con35, con37, con36, con38, hT, hG, hk, hK, Tryz.results11]); (try simp (disch := decide +kernel) only [drawn, true_and, and_true])
           obtain ⟨o1, ho1⟩ : ∃ o, P.getD i1 pl0 = o := ⟨_, rfl⟩; have eo1 : P.getD (i1 : Int).toNat (0, 0, 0) = o1 := ho1; have hps1 : i1 < P.length → (P.take (i1 + 1)).flatMap (brU p) = (P.take i1).flatMap (brU p) ++ (brU p) o1 := fun h => by rw [flat_take _ pl0 h, ho1]
           rw [eo1]
           try simp only [eta3]
           (repeat' with_reducible first | refine And.intro ?_ ?_ | intro _) <;> try first | with_reducible (first | assumption | omega | contradiction) | decide
           all_goals first
            | (have hq : uncV p o1 = true := by assumption
               have eb : (brU p) o1 = _ := if_pos hq; refine fin_lp ⟨i1 + 1, by omega⟩ ?_ (by dsimp only; omega); simp only [go_sem]; rw [hps1 (by omega), eb, ← List.append_assoc]
               try first | rfl | (and_intros <;> first | trivial | rfl | omega)
               done)
            | (have hq : uncV p o1 = false := by assumption
               have eb : (brU p) o1 = _ := if_neg (by rw [hq]; simp); refine fin_lp ⟨i1 + 1, by omega⟩ ?_ (by dsimp only; omega); simp only [go_sem]; rw [hps1 (by omega), eb, List.append_nil]
               try first | rfl | (and_intros <;> first | trivial | rfl | omega)
               done)
            | (simp only [List.length_append]; omega)
            | (have ei : P.take i1 = P := List.take_of_length_le (by omega)
               rw [ei]; refine evk_loop ⟨{ i : Nat // i ≤ P.length }, 1000, fun q => [(4, .one (.sl yCT c false)), (5, .one (.sl yPM p false)), (6, .one (.sl yRU r false)), (8, .one (.loc 70 0)), (15, .one (.loc 72 0)), (16, .one (.fn 32 [.loc 72 0])), (69, .one (.sl yPL P false)), (70, .one (.int .i64 P.length)), (71, .one (.int .i64 q.1))], fun q => [(70, .cells 26 [.str f1, .int .i64 f2, .str f3, .int .i64 f4]), (72, .cells 39 [.row 73]), (73, .row 47 yBR (S ++ h.flatMap brH ++ P.flatMap (brU p) ++ (P.take q.1).flatMap (brA r)))], fun q => P.length - q.1⟩ ⟨0, by omega⟩ ?_ ?_
               · simp only [go_sem]
                 try simp only [List.take_zero, List.flatMap_nil, List.append_nil]
                 try first | rfl | (and_intros <;> first | trivial | rfl | omega)
               · rintro ⟨i2, (hi2 : i2 ≤ P.length)⟩; have hb2 := fl1 (g := (brA r)) (by intro x; first | exact brH_len x | exact brU_len p x | exact brA_len r x | exact brC_len F x) (P.take i2); have hc2 : (P.take i2).length ≤ P.length := by rw [List.length_take]; omega
                 (simp -implicitDefEqProofs only [go_sem, bP, con11, con32, con33, con34, con35, con37, con36, con38, hT, hG, hk, hK, Tryz.results11]); (try simp (disch := decide +kernel) only [drawn, true_and, and_true])
                 obtain ⟨o2, ho2⟩ : ∃ o, P.getD i2 pl0 = o := ⟨_, rfl⟩; have eo2 : P.getD (i2 : Int).toNat (0, 0, 0) = o2 := ho2; have hps2 : i2 < P.length → (P.take (i2 + 1)).flatMap (brA r) = (P.take i2).flatMap (brA r) ++ (brA r) o2 := fun h => by rw [flat_take _ pl0 h, ho2]
                 rw [eo2]
                 try simp only [eta3]
                 (repeat' with_reducible first | refine And.intro ?_ ?_ | intro _) <;> try first | with_reducible (first | assumption | omega | contradiction) | decide
                 all_goals first
                  | (have hq : mayV r o2 = false := by assumption
                     have eb : (brA r) o2 = _ := if_pos hq; refine fin_lp ⟨i2 + 1, by omega⟩ ?_ (by dsimp only; omega); simp only [go_sem]; rw [hps2 (by omega), eb, ← List.append_assoc]
                     try first | rfl | (and_intros <;> first | trivial | rfl | omega)
                     done)
                  | (have hq : mayV r o2 = true := by assumption
                     have eb : (brA r) o2 = _ := if_neg (by rw [hq]; simp); refine fin_lp ⟨i2 + 1, by omega⟩ ?_ (by dsimp only; omega); simp only [go_sem]; rw [hps2 (by omega), eb, List.append_nil]
                     try first | rfl | (and_intros <;> first | trivial | rfl | omega)
                     done)
                  | (simp only [List.length_append]; omega)
                  | (have ei : P.take i2 = P := List.take_of_length_le (by omega)
                     rw [ei]; refine evk_loop ⟨{ i : Nat // i ≤ c.length }, 1000, fun q => [(4, .one (.sl yCT c false)), (5, .one (.sl yPM p false)), (6, .one (.sl yRU r false)), (8, .one (.loc 70 0)), (15, .one (.loc 72 0)), (16, .one (.fn 32 [.loc 72 0])), (86, .one (.sl yCT c false)), (87, .one (.int .i64 c.length)), (88, .one (.int .i64 q.1))], fun q => [(70, .cells 26 [.str f1, .int .i64 f2, .str f3, .int .i64 f4]), (72, .cells 39 [.row 73]), (73, .row 47 yBR (S ++ h.flatMap brH ++ P.flatMap (brU p) ++ P.flatMap (brA r) ++ (c.take q.1).flatMap (brC F)))], fun q => c.length - q.1⟩ ⟨0, by omega⟩ ?_ ?_
                     · simp only [go_sem]
                       try simp only [List.take_zero, List.flatMap_nil, List.append_nil]
                       try first | rfl | (and_intros <;> first | trivial | rfl | omega)
                     · rintro ⟨i3, (hi3 : i3 ≤ c.length)⟩; have hb3 := fl1 (g := (brC F)) (by intro x; first | exact brH_len x | exact brU_len p x | exact brA_len r x | exact brC_len F x) (c.take i3); have hc3 : (c.take i3).length ≤ c.length := by rw [List.length_take]; omega
                       (simp -implicitDefEqProofs only [go_sem, bP, con11, con32, con33, con34, con35, con37, con36, con38, hT, hG, hk, hK, Tryz.results11]); (try simp (disch := decide +kernel) only [drawn, true_and, and_true])
                       obtain ⟨o3, ho3⟩ : ∃ o, c.getD i3 ct0 = o := ⟨_, rfl⟩; have eo3 : c.getD (i3 : Int).toNat (0, (ByteArray.empty, 0, ByteArray.empty, 0), 0, 0, 0, 0, 0, []) = o3 := ho3; have hps3 : i3 < c.length → (c.take (i3 + 1)).flatMap (brC F) = (c.take i3).flatMap (brC F) ++ (brC F) o3 := fun h => by rw [flat_take _ ct0 h, ho3]
                       rw [eo3]
                       try simp only [eta3]
                       (repeat' with_reducible first | refine And.intro ?_ ?_ | intro _) <;> try first | with_reducible (first | assumption | omega | contradiction) | decide
                       all_goals first
                        | (have hq : (o3.2.1.1 = f1 ∧ o3.2.1.2.1 = f2 ∧ o3.2.1.2.2.1 = f3 ∧ o3.2.1.2.2.2 = f4) ∧ overV o3 = true := by first | assumption | exact ⟨by assumption, by assumption⟩ | exact ⟨⟨by assumption, by assumption, by assumption, by assumption⟩, by assumption⟩ | (rename_i hx; exact ⟨⟨hx.1, hx.2.1, hx.2.2.1, hx.2.2.2.1⟩, hx.2.2.2.2⟩)
                           have eb : (brC F) o3 = _ := if_pos ⟨(by rw [hF]; exact (fltE o3.2.1 (f1, f2, f3, f4)).mp hq.1), hq.2⟩; refine fin_lp ⟨i3 + 1, by omega⟩ ?_ (by dsimp only; omega); simp only [go_sem]; rw [hps3 (by omega), eb, ← List.append_assoc]
                           try first | rfl | (and_intros <;> first | trivial | rfl | omega)
                           done)
                        | (have hq : ¬ (o3.flt = F ∧ overV o3 = true) := by
                            rw [hF, ← fltE]
                            first | (rename_i hx; rcases hx with hx | hx; exact fun h => (by rcases hx with q | q | q | q <;> simp_all); exact fun h => by simp_all) | (rename_i hx; exact fun h => by simp_all) | simp_all
                           have eb : (brC F) o3 = _ := if_neg hq; refine fin_lp ⟨i3 + 1, by omega⟩ ?_ (by dsimp only; omega); simp only [go_sem]; rw [hps3 (by omega), eb, List.append_nil]
                           try first | rfl | (and_intros <;> first | trivial | rfl | omega)
                           done)
                        | (simp only [List.length_append]; omega)
                        | (have ei : c.take i3 = c := List.take_of_length_le (by omega)
                           rw [ei, hF2]))))))
attribute [local go_sem] List.set_cons_succ List.set_cons_zero List.getD_cons_succ List.getD_cons_zero List.set_nil
def con7 : RCon := { ps := [.p 65 ySR, .d false yI], rs := [.o 75 yRU], pre := fun (x : Src × Int × Unit) => 0 ≤ x.1.2 ∧ 0 ≤ x.2.1 ∧ x.2.1 ≤ 1000, rel := fun (x : Src × Int × Unit) (y : List Rlg × Unit) (z : Src × Int × Unit) => 0 ≤ z.1.2 ∧ (y.1.length : Int) ≤ x.2.1 }
theorem c7 : RCtrOk Tryz.prog 7 con7.rctr :=
 rcon_sound (G := ⟨[(19, con19.ctr), (21, con21.ctr)], [], [], [], []⟩) tab_ok (EnvOk.cons c19 has19 (EnvOk.cons c21 has21 EnvOk.nil)) rfl Tryz.func7 rfl con7 83894899 (by kernel_rfl) (by decide) (by decide) rfl (by decide) rfl (by
  rintro ⟨⟨(s : List Int), (a : Int)⟩, (n : Int), _⟩ hpre hwf X hT hG hk hK; obtain ⟨h1, h2, h3⟩ : 0 ≤ a ∧ 0 ≤ n ∧ n ≤ 1000 := hpre
  (simp -implicitDefEqProofs only [go_sem, bP, con7, con19, con21, hT, hG, hk, hK, Tryz.results7] at hwf ⊢)
  refine evk_loop ⟨{ q : Src × List Rlg × Nat // 0 ≤ q.1.2 ∧ q.2.1.length ≤ q.2.2 ∧ (q.2.2 : Int) ≤ n }, 1000, fun q => [(0, .one (.loc 0 0)), (1, .one (.int .i64 n)), (5, .one (.row 64)), (6, .one (.int .i64 q.1.2.2))],
   fun q => [(0, .cells 65 [.sl yI q.1.1.1 false, .int .i64 q.1.1.2]), (64, .row 75 yRU q.1.2.1)], fun q => n.toNat - q.1.2.2⟩ ⟨((s, a), [], 0), h1, Nat.le_refl _, h2⟩ ?_ ?_
  · simp only [go_sem]
    try first | rfl | (and_intros <;> first | trivial | rfl | omega)
  · rintro ⟨⟨⟨s, a⟩, l, i⟩, (h1 : 0 ≤ a), (hl : l.length ≤ i), (hi : (i : Int) ≤ n)⟩
    (simp -implicitDefEqProofs only [go_sem, bP, con7, con19, con21, hT, hG, hk, hK, Tryz.results7])
    have p1 : 0 ≤ (Src.step (s, a)).snd := step_pos h1; have p2 : 0 ≤ (Src.step (s, a)).step.snd := step_pos p1; have r1 := goMod_bd (Src.raw (s, a)) 4 (by omega); have r2 := goMod_bd (Src.step (s, a)).raw 8 (by omega); have r3 := goMod_bd (Src.step (s, a)).raw 5 (by omega)
    (repeat' with_reducible first | refine And.intro ?_ ?_ | intro _) <;> try first | with_reducible (first | assumption | omega | contradiction) | decide
    all_goals first
     | (have hv : goMod (Src.raw (s, a)) 4 = 1 := by assumption
        refine fin_lp ⟨((Src.step (s, a)).step, l ++ [(platesV i, false, 0, 1 + goMod (Src.step (s, a)).raw 8)], i + 1), p2, (by rw [List.length_append, List.length_singleton]; show l.length + 1 ≤ i + 1; omega), (by show ((i + 1 : Nat) : Int) ≤ n; omega)⟩ ?_ (by dsimp only; omega); simp only [go_sem]
        try first | rfl | (and_intros <;> first | trivial | rfl | omega)
        done)
     | (refine fin_lp ⟨((Src.step (s, a)).step, l ++ [(platesV i, true, 1 + goMod (Src.step (s, a)).raw 5, 0)], i + 1), p2, (by rw [List.length_append, List.length_singleton]; show l.length + 1 ≤ i + 1; omega), (by show ((i + 1 : Nat) : Int) ≤ n; omega)⟩ ?_ (by dsimp only; omega)
        simp only [go_sem]
        try first | rfl | (and_intros <;> first | trivial | rfl | omega)
        done)
     | (refine fin_lp ⟨(Src.step (s, a), l, i + 1), p1, (by show l.length ≤ i + 1; omega), (by show ((i + 1 : Nat) : Int) ≤ n; omega)⟩ ?_ (by dsimp only; omega)
        simp only [go_sem]
        try first | rfl | (and_intros <;> first | trivial | rfl | omega)
        done)
     | exact ⟨(l, ()), ((s, a), n, ()), ⟨h1, (by show (l.length : Int) ≤ n; omega)⟩, rfl, rfl, rfl⟩)
def dayD (i : Nat) : Dpt := (fltsV i, ⟨#[76, 72, 82]⟩, 10, 40, 50, 0, 0)
def dayL (i : Nat) : List Dpt := (List.range i).map dayD
theorem dayL_succ (i : Nat) : dayL (i + 1) = dayL i ++ [dayD i] := by unfold dayL; rw [List.range_succ, List.map_append]; rfl
theorem dayL_len (i : Nat) : (dayL i).length = i := by unfold dayL; simp
def dayV : List Dpt := dayL 3
def con12 : Con := { ps := [], rs := [.o 108 yDP], pre := fun _ => True, out := fun _ => (dayV, ()), nw := id }
theorem c12 : CtrOk Tryz.prog 12 con12.ctr :=
 con_sound (G := ⟨[(5, con5.ctr)], [], [], [], []⟩) tab_ok (EnvOk.cons c5 has5 EnvOk.nil) rfl Tryz.func12 rfl con12 23 (by kernel_rfl) (by decide) (by decide) rfl (by decide) rfl (by
  rintro ⟨⟩ hpre hwf X hT hG hk hK
  (simp -implicitDefEqProofs only [go_sem, bP, con12, con5, hT, hG, hk, hK, Tryz.results12] at hwf ⊢)
  refine evk_loop ⟨{ i : Nat // i ≤ 3 }, 1000, fun q => [(1, .one (.row 64)), (2, .one (.int .i64 q.1))], fun q => [(64, .row 108 yDP (dayL q.1))], fun q => 3 - q.1⟩ ⟨0, by omega⟩ ?_ ?_
  · simp only [go_sem]
    try first | rfl | (and_intros <;> first | trivial | rfl | omega)
  · rintro ⟨i, (hi : i ≤ 3)⟩
    (simp -implicitDefEqProofs only [go_sem, bP, con12, con5, hT, hG, hk, hK, Tryz.results12])
    (repeat' with_reducible first | refine And.intro ?_ ?_ | intro _) <;> try first | with_reducible (first | assumption | omega | contradiction) | decide
    all_goals first
     | (refine fin_lp ⟨i + 1, by omega⟩ ?_ (by dsimp only; omega)
        simp only [go_sem]; rw [dayL_succ]
        try first | rfl | (and_intros <;> first | trivial | rfl | omega)
        done)
     | (rw [show i = 3 by omega]; rfl)
     | (simp only [dayL_len]; omega))
def heldC (i : Nat) : Cnt := ((i : Int) + 1, fltsV 0, 31, 9000, 50, (i : Int) + 1, 0, [])
def heldV (n : Nat) : List Cnt := (List.range n).map heldC
theorem heldV_succ (i : Nat) : heldV (i + 1) = heldV i ++ [heldC i] := by unfold heldV; rw [List.range_succ, List.map_append]; rfl
theorem heldV_len (i : Nat) : (heldV i).length = i := by unfold heldV; simp
def con9 : Con := { ps := [.d false yI], rs := [.o 85 yCT], pre := fun (x : Int × Unit) => 0 ≤ x.1 ∧ x.1 ≤ 1000, out := fun (x : Int × Unit) => (heldV x.1.toNat, ()), nw := id }
theorem c9 : CtrOk Tryz.prog 9 con9.ctr :=
 con_sound (G := ⟨[(5, con5.ctr)], [], [], [], []⟩) tab_ok (EnvOk.cons c5 has5 EnvOk.nil) rfl Tryz.func9 rfl con9 157 (by kernel_rfl) (by decide) (by decide) rfl (by decide) rfl (by
  rintro ⟨(n : Int), _⟩ hpre hwf X hT hG hk hK; obtain ⟨h1, h2⟩ : 0 ≤ n ∧ n ≤ 1000 := hpre
  (simp -implicitDefEqProofs only [go_sem, bP, con9, con5, hT, hG, hk, hK, Tryz.results9] at hwf ⊢)
  refine evk_loop ⟨{ i : Nat // (i : Int) ≤ n }, 1000, fun q => [(0, .one (.int .i64 n)), (3, .one (.row 64)), (4, .one (.int .i64 (q.1 + 1)))], fun q => [(64, .row 85 yCT (heldV q.1))], fun q => n.toNat - q.1⟩ ⟨0, h1⟩ ?_ ?_
  · simp only [go_sem]
    try first | rfl | (and_intros <;> first | trivial | rfl | omega)
  · rintro ⟨i, (hi : (i : Int) ≤ n)⟩
    (simp -implicitDefEqProofs only [go_sem, bP, con9, con5, hT, hG, hk, hK, Tryz.results9])
    (repeat' with_reducible first | refine And.intro ?_ ?_ | intro _) <;> try first | with_reducible (first | assumption | omega | contradiction) | decide
    all_goals first
     | (refine fin_lp ⟨i + 1, (by show ((i + 1 : Nat) : Int) ≤ n; omega)⟩ ?_ (by dsimp only; omega)
        simp only [go_sem]; rw [heldV_succ]
        try first | rfl | (and_intros <;> first | trivial | rfl | omega)
        done)
     | (rw [show n.toNat = i by omega]; done)
     | (rw [show n.toNat = i by omega]; rfl)
     | (simp only [heldV_len]; omega))
def con53 : Con := { ps := [.d false (.sl yBR)], rs := [.d false .bool], pre := fun _ => True, out := fun (x : List Bar × Unit) => (decide (x.1.length = 0), ()), nw := id }
theorem c53 : CtrOk Tryz.prog 53 con53.ctr :=
 con_sound (G := ⟨[], [], [], [], []⟩) tab_ok EnvOk.nil rfl Tryz.func53 rfl con53 5 (by kernel_rfl) (by decide) (by decide) rfl (by decide) rfl (by
  rintro ⟨(l : List Bar), _⟩ hpre hwf X hT hG hk hK
  (simp -implicitDefEqProofs only [go_sem, bP, con53, hT, hG, hk, hK, Tryz.results53] at hwf ⊢)
  (repeat' with_reducible first | refine And.intro ?_ ?_ | intro _) <;> try first | with_reducible (first | assumption | omega | contradiction) | decide
  all_goals first | done | rfl | (rw [decide_eq_decide]; omega) | fail)
def con17 : Con := { ps := [], rs := [.d false .bool], pre := fun _ => True, out := fun _ => (true, ()), nw := id }
theorem c17 : CtrOk Tryz.prog 17 con17.ctr :=
 con_sound (G := ⟨[(9, con9.ctr), (12, con12.ctr), (11, con11.ctr), (53, con53.ctr), (21, con21.ctr), (5, con5.ctr)], [], [], [], []⟩) tab_ok (EnvOk.cons c9 has9 (EnvOk.cons c12 has12 (EnvOk.cons c11 has11 (EnvOk.cons c53 has53 (EnvOk.cons c21 has21 (EnvOk.cons c5 has5 EnvOk.nil)))))) rfl Tryz.func17 rfl con17 15 (by kernel_rfl) (by decide) (by decide) rfl (by decide) rfl (by
  rintro ⟨⟩ hpre hwf X hT hG hk hK
  (simp -implicitDefEqProofs only [go_sem, bP, con17, con9, con12, con11, con53, con21, con5, hT, hG, hk, hK, Tryz.results17] at hwf ⊢); (try simp (disch := decide +kernel) only [drawn, true_and, and_true])
  have e1 : heldV (Int.toNat 1) = [heldC 0] := rfl; simp only [e1, List.getD_cons_zero, List.set_cons_zero]; have hb : barsV dayV (fltsV 0) 40 [(1, 1, 0, false, [], [], []), (2, 1, 0, true, [], [], [])] [((heldC 0).1, (heldC 0).2.1, (heldC 0).2.2.1, (heldC 0).2.2.2.1, (heldC 0).2.2.2.2.1, (heldC 0).2.2.2.2.2.1, (heldC 0).2.2.2.2.2.2.1, [(platesV 1, 5, 0)])] [] [] = [(2, 2, 0, 0, 0), (4, 1, platesV 1)] := by decide +kernel
  simp only [hb, List.getD_cons_zero, List.getD_cons_succ, List.length_cons, List.length_nil]
  (repeat' with_reducible first | refine And.intro ?_ ?_ | intro _) <;> try first | with_reducible (first | assumption | omega | contradiction) | decide
  all_goals first
   | rfl
   | (refine ⟨by simp, fun o ho => ?_, by simp, fun y hy => by cases hy⟩; rw [List.mem_singleton.1 ho]; decide)
   | decide)
end Go.Proofs.YtkjpbhkldioggaaGreat
