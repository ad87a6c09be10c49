/- A part. -/
import Derived.Test.YtomdgacmoeohnaaGreatSeKPToKA
set_option maxRecDepth 100000
set_option maxHeartbeats 4000000
namespace Go.Proofs.YtomdgacmoeohnaaGreat
open Go.Ev
theorem srtP_weak (w : List Plt) : (sortBy pltC w).Pairwise (fun a b => ¬ pltC b a < 0) :=
 (sortBy_sorted pltC_cmp w).imp fun {a b} h q => by
   have := (pltC_cmp.anti b a).1 q
   omega
theorem compP_set (w : List Plt) : compP (sortBy pltC w) = setP w := compP_eq (sortBy_perm pltC w) (srtP_weak w)
theorem setP_nodup : ∀ w : List Plt, (setP w).length = w.length → w.Nodup := fun w => by
 refine snoc_ind (P := fun w => (setP w).length = w.length → w.Nodup) (fun _ => .nil) (fun l o ih => ?_) w
 intro h
 rw [setP_snoc, List.length_append, List.length_singleton] at h
 have h1 := insC_len (c := pltC) o (setP l)
 have h2 := setP_len l
 have hn : o ∉ l := fun hm => by
  have h3 : insC pltC (setP l) o = setP l := strict_ext (fun x y => Cmp.as pltC_cmp x y) (insC_srt pltC_cmp _ (setP_spec l).1) (setP_spec l).1 fun x => by
   rw [insC_mem pltC_cmp]
   exact ⟨fun q => q.elim (fun q => by rw [q]; exact ((setP_spec l).2 o).2 hm) id, .inr⟩
  rw [h3] at h; omega
 refine List.nodup_append.2 ⟨ih (by omega), by simp, fun a ha b hb => ?_⟩
 have hb : b = o := by simpa using hb
 rw [hb]
 exact fun q => hn (q ▸ ha)
theorem nodup_srt {w : List Plt} (h : w.Nodup) : (sortBy pltC w).Pairwise (fun a b => pltC a b < 0) := by
 have hn : (sortBy pltC w).Nodup := (sortBy_perm pltC w).nodup_iff.2 h
 refine ((sortBy_sorted pltC_cmp w).and hn).imp fun {a b} h => ?_
 have : pltC a b ≠ 0 := fun q => h.2 ((pltC_cmp.eq _ _).1 q)
 have := h.1
 omega
def namV (c : List Cnt) (l : List Plm) (n : Int) (w : List Plt) : List Plt := w.filter (fun p => (candV c l p).any (fun m => decide (m = n)))
theorem namV_mem {c : List Cnt} {l : List Plm} {n : Int} {w : List Plt} {p : Plt} : p ∈ namV c l n w ↔ p ∈ w ∧ n ∈ candV c l p := by
 unfold namV
 rw [List.mem_filter, List.any_eq_true]
 exact ⟨fun ⟨h, x, hx, e⟩ => ⟨h, of_decide_eq_true e ▸ hx⟩, fun ⟨h, hx⟩ => ⟨h, n, hx, decide_eq_true rfl⟩⟩
theorem tkN_uniq {o : List Tsk} (h : TkN o) {s t : Tsk} (hs : s ∈ o) (ht : t ∈ o) (e : s.1 = t.1) : s = t := by
 obtain ⟨i, hi, rfl⟩ := List.mem_iff_getElem.1 hs
 obtain ⟨j, hj, rfl⟩ := List.mem_iff_getElem.1 ht
 have : i = j := by
  unfold TkN at h
  exact (List.getElem_inj (h₀ := by simpa using hi) (h₁ := by simpa using hj) h).1 (by simpa using e)
 subst this; rfl
structure TkI (o : List Tsk) (F : Int → List Plt) : Prop where
 n : TkN o
 m : ∀ t ∈ o, t.2 = F t.1 ∧ F t.1 ≠ []
 e : ∀ n, F n ≠ [] → ∃ t ∈ o, t.1 = n
theorem addT_i {o : List Tsk} {p : Plt} {n : Int} {F : Int → List Plt} (h : TkI o F) : TkI (addT o p n) (fun m => if m = n then (if p ∈ F n then F n else F n ++ [p]) else F m) := by
 have hN := addT_n (p := p) (n := n) h.n
 by_cases hi : idxV (fun (t : Tsk) => decide (t.1 = n)) o < 0
 · have e : addT o p n = o ++ [(n, [p])] := by unfold addT; rw [if_pos hi]
   have hno : ∀ t ∈ o, ¬ t.1 = n := fun t ht => of_decide_eq_false (idxV_neg hi t ht)
   have hF : F n = [] := Classical.byContradiction fun q => by
    obtain ⟨t, ht, e⟩ := h.e n q
    exact hno t ht e
   rw [e] at hN ⊢
   refine ⟨hN, fun t ht => ?_, fun m hm => ?_⟩
   · rcases List.mem_append.1 ht with ht | ht
     · try dsimp only
       rw [if_neg (hno t ht)]; exact h.m t ht
     · have ht : t = (n, [p]) := by simpa using ht
       subst ht
       dsimp only
       rw [if_pos rfl, hF]
       simp
   · try dsimp only at hm
     by_cases q : m = n
     · exact ⟨(n, [p]), by simp, q.symm⟩
     · rw [if_neg q] at hm
       obtain ⟨t, ht, e⟩ := h.e m hm
       exact ⟨t, List.mem_append_left _ ht, e⟩
 · obtain ⟨hk, h2, _⟩ := idxV_spec (d := tk0) (p := fun (t : Tsk) => decide (t.1 = n)) (l := o) (by omega)
   have e : addT o p n = o.set (idxV (fun (t : Tsk) => decide (t.1 = n)) o).toNat ((o.getD (idxV (fun (t : Tsk) => decide (t.1 = n)) o).toNat tk0).1, if (o.getD (idxV (fun (t : Tsk) => decide (t.1 = n)) o).toNat tk0).2.any (fun y => decide (y = p)) = true then (o.getD (idxV (fun (t : Tsk) => decide (t.1 = n)) o).toNat tk0).2 else (o.getD (idxV (fun (t : Tsk) => decide (t.1 = n)) o).toNat tk0).2 ++ [p]) := by unfold addT; rw [if_neg hi]
   rw [e] at hN ⊢
   generalize (idxV (fun (t : Tsk) => decide (t.1 = n)) o).toNat = k at hk h2 hN ⊢
   have hm0 := getD_mem (d := tk0) hk
   obtain ⟨t0, ht0⟩ : ∃ t, o.getD k tk0 = t := ⟨_, rfl⟩
   rw [ht0] at h2 hN hm0 ⊢
   have h2 : t0.1 = n := of_decide_eq_true h2
   obtain ⟨g1, g2⟩ := h.m t0 hm0
   have hx : (if t0.2.any (fun y => decide (y = p)) = true then t0.2 else t0.2 ++ [p]) = if p ∈ F n then F n else F n ++ [p] := by
    rw [h2] at g1
    rw [← g1]
    by_cases q : p ∈ t0.2
    · rw [if_pos q, if_pos (List.any_eq_true.2 ⟨p, q, decide_eq_true rfl⟩)]
    · rw [if_neg q, if_neg]
      intro q2
      obtain ⟨y, hy, e⟩ := List.any_eq_true.1 q2
      exact q (of_decide_eq_true e ▸ hy)
   rw [hx] at hN ⊢
   have hin : (t0.1, if p ∈ F n then F n else F n ++ [p]) ∈ o.set k (t0.1, if p ∈ F n then F n else F n ++ [p]) := List.mem_iff_getElem.2 ⟨k, by rw [List.length_set]; exact hk, List.getElem_set_self _⟩
   refine ⟨hN, fun t ht => ?_, fun m hm => ?_⟩
   · by_cases q : t.1 = n
     · have := tkN_uniq hN ht hin (by rw [q, h2])
       rw [this]
       try dsimp only
       rw [if_pos h2]
       refine ⟨rfl, ?_⟩
       split
       · rw [h2] at g2; exact g2
       · simp
     · try dsimp only
       rw [if_neg q]
       rcases List.mem_or_eq_of_mem_set ht with ht | ht
       · exact h.m t ht
       · exact absurd (by rw [ht]; exact h2) q
   · try dsimp only at hm
     by_cases q : m = n
     · exact ⟨_, hin, by rw [q]; exact h2⟩
     · rw [if_neg q] at hm
       obtain ⟨t, ht, e⟩ := h.e m hm
       obtain ⟨j, hj, rfl⟩ := List.mem_iff_getElem.1 ht
       have hjk : k ≠ j := fun w => by
        subst w
        rw [getD_lt hk] at ht0
        rw [ht0, h2] at e
        exact q e.symm
       exact ⟨o[j], List.mem_iff_getElem.2 ⟨j, by rw [List.length_set]; exact hj, by rw [List.getElem_set_ne hjk]⟩, e⟩
theorem addL_i {p : Plt} : ∀ (ns : List Int) {o : List Tsk} {F : Int → List Plt}, TkI o F → TkI (addL o p ns) (fun m => if m ∈ ns then (if p ∈ F m then F m else F m ++ [p]) else F m)
 | [], o, F, h => by
   have e : (fun m => if m ∈ ([] : List Int) then (if p ∈ F m then F m else F m ++ [p]) else F m) = F := funext fun m => by simp
   rw [e]; exact h
 | n :: ns, o, F, h => by
   have h1 := addL_i (p := p) ns (addT_i (p := p) (n := n) h)
   have e : (fun m => if m ∈ n :: ns then (if p ∈ F m then F m else F m ++ [p]) else F m) = (fun m => if m ∈ ns then (if p ∈ (if m = n then (if p ∈ F n then F n else F n ++ [p]) else F m) then (if m = n then (if p ∈ F n then F n else F n ++ [p]) else F m) else (if m = n then (if p ∈ F n then F n else F n ++ [p]) else F m) ++ [p]) else (if m = n then (if p ∈ F n then F n else F n ++ [p]) else F m)) := funext fun m => by
    by_cases q : m = n
    · subst q
      rw [if_pos List.mem_cons_self]
      simp only [if_true]
      have hin : p ∈ (if p ∈ F m then F m else F m ++ [p]) := by
       split
       · assumption
       · simp
      rw [if_pos hin]
      by_cases q2 : m ∈ ns
      · rw [if_pos q2]
      · rw [if_neg q2]
    · simp only [List.mem_cons, q, false_or, if_false]
   rw [e]; exact h1
theorem tskL_i (c : List Cnt) (l : List Plm) : ∀ S : List Plt, S.Nodup → TkI (tskL c l S) (fun n => namV c l n S) := fun S => by
 refine snoc_ind (P := fun S => S.Nodup → TkI (tskL c l S) (fun n => namV c l n S)) (fun _ => ⟨.nil, fun t ht => (by cases ht), fun n hn => absurd rfl hn⟩) (fun S p ih => ?_) S
 intro hd
 obtain ⟨h1, _, h3⟩ := List.nodup_append.1 hd
 have hp : p ∉ S := fun q => h3 p q p (by simp) rfl
 have h := addL_i (p := p) (candV c l p) (ih h1)
 rw [tskL_snoc]
 have e : (fun n => namV c l n (S ++ [p])) = (fun m => if m ∈ candV c l p then (if p ∈ namV c l m S then namV c l m S else namV c l m S ++ [p]) else namV c l m S) := funext fun m => by
  have hn : ¬ p ∈ namV c l m S := fun q => hp (namV_mem.1 q).1
  rw [if_neg hn]
  show (S ++ [p]).filter _ = _
  rw [List.filter_append]
  by_cases q : m ∈ candV c l p
  · rw [if_pos q, List.filter_cons_of_pos (p := fun p => (candV c l p).any (fun x => decide (x = m))) (List.any_eq_true.2 ⟨m, q, decide_eq_true rfl⟩)]; rfl
  · rw [if_neg q, List.filter_cons_of_neg (p := fun p => (candV c l p).any (fun x => decide (x = m))), List.filter_nil, List.append_nil]
    · rfl
    · intro q2
      obtain ⟨y, hy, e⟩ := List.any_eq_true.1 q2
      exact q (of_decide_eq_true e ▸ hy)
 rw [e]; exact h
def refT (c : List Cnt) (l : List Plm) (w : List Plt) (cs : List Cnt) : List Tsk := (cs.filter (fun o => decide (0 < (namV c l o.num w).length))).map (fun o => (o.num, setP (namV c l o.num w)))
theorem refT_snoc (c : List Cnt) (l : List Plm) (w : List Plt) (cs : List Cnt) (o : Cnt) : refT c l w (cs ++ [o]) = refT c l w cs ++ if 0 < (namV c l o.num w).length then [(o.num, setP (namV c l o.num w))] else [] := by
 unfold refT
 rw [List.filter_append, List.map_append]
 by_cases q : 0 < (namV c l o.num w).length
 · rw [if_pos q, List.filter_cons_of_pos (p := fun o : Cnt => decide (0 < (namV c l o.num w).length)) (decide_eq_true q)]; rfl
 · rw [if_neg q, List.filter_cons_of_neg (p := fun o : Cnt => decide (0 < (namV c l o.num w).length)) (by simpa using q)]; rfl
theorem refT_eq {c : List Cnt} {l : List Plm} {w : List Plt} (hC : CtsOk c) (hw : w.Nodup) (hl : ∀ p ∈ w, lostV c l p = false) : refT c l w c = sortT (tskL c l (sortBy pltC w)) := by
 have hp := sortBy_perm pltC w
 have hs := nodup_srt hw
 have hn : (sortBy pltC w).Nodup := hp.nodup_iff.2 hw
 generalize sortBy pltC w = S at hp hs hn ⊢
 have I := tskL_i c l S hn
 have hF : ∀ n, namV c l n S = setP (namV c l n w) := fun n => setP_eq (hs.filter _) fun x => by
  rw [namV_mem, namV_mem, hp.mem_iff]
 have hE : ∀ n, 0 < (namV c l n w).length ↔ namV c l n S ≠ [] := fun n => by
  have := (hp.filter (fun p => (candV c l p).any (fun m => decide (m = n)))).length_eq
  have e : (namV c l n S).length = (namV c l n w).length := this
  rw [← e, List.length_pos_iff]
 have hnum : (refT c l w c).Pairwise (fun a b => a.1 < b.1) := by
  unfold refT
  rw [List.pairwise_map]
  exact hC.num.filter _
 have hmem : ∀ t, t ∈ refT c l w c ↔ ∃ o ∈ c, 0 < (namV c l o.num w).length ∧ (o.num, setP (namV c l o.num w)) = t := fun t => by
  unfold refT
  rw [List.mem_map]
  constructor
  · rintro ⟨o, ho, e⟩
    obtain ⟨h1, h2⟩ := List.mem_filter.1 ho
    exact ⟨o, h1, of_decide_eq_true h2, e⟩
  · rintro ⟨o, h1, h2, e⟩
    exact ⟨o, List.mem_filter.2 ⟨h1, decide_eq_true h2⟩, e⟩
 refine sortT_eq I.n ?_ (hnum.imp fun {a b} h => ?_)
 · have n1 : (refT c l w c).Nodup := hnum.imp fun {a b} h q => by rw [q] at h; omega
   have n2 : (tskL c l S).Nodup := by
    have := I.n
    unfold TkN List.Nodup at this
    rw [List.pairwise_map] at this
    exact this.imp fun {a b} h q => h (by rw [q])
   refine (List.perm_ext_iff_of_nodup n1 n2).2 fun t => ?_
   rw [hmem]
   constructor
   · rintro ⟨o, ho, h1, rfl⟩
     obtain ⟨t, ht, e⟩ := I.e o.num ((hE _).1 h1)
     have h2 := (I.m t ht).1
     have e2 : t = (o.num, setP (namV c l o.num w)) := Prod.ext e (by rw [h2, e]; exact hF _)
     rw [← e2]; exact ht
   · intro ht
     obtain ⟨h1, h2⟩ := I.m t ht
     obtain ⟨p, hpm⟩ := List.exists_mem_of_ne_nil _ h2
     obtain ⟨hp1, hp2⟩ := namV_mem.1 hpm
     have hlo := hl p (hp.mem_iff.1 hp1)
     unfold lostV at hlo
     have hni := (List.any_eq_false.1 hlo) t.1 hp2
     have hni : ¬ numIdx c t.1 < 0 := by simpa using hni
     obtain ⟨g1, g2, _⟩ := idxV_spec (d := ct0) (p := fun (o : Cnt) => decide (o.num = t.1)) (l := c) (by unfold numIdx at hni; omega)
     refine ⟨_, getD_mem (d := ct0) g1, ?_⟩
     rw [of_decide_eq_true g2]
     exact ⟨(hE _).2 h2, Prod.ext rfl (by rw [h1]; exact (hF _).symm)⟩
 · rw [cmpV_lt]; omega
def searchR (c : List Cnt) (l : List Plm) (w : List Plt) : List Tsk × Int :=
 if checkV c ≠ 0 then ([], checkV c) else if w.any (fun p => !okPl p) = true then ([], 1) else if (setP w).length ≠ w.length then ([], 5) else if w.any (lostV c l) = true then ([], 6) else (refT c l w c, 0)
theorem searchR_eq (c : List Cnt) (l : List Plm) (w : List Plt) : searchR c l w = searchV c l w := by
 unfold searchR searchV
 by_cases h1 : checkV c ≠ 0
 · rw [if_pos h1, if_pos h1]
 · rw [if_neg h1, if_neg h1]
   have hC := checkV_iff.1 (by omega : checkV c = 0)
   unfold wantE
   rw [compP_set]
   by_cases h2 : w.any (fun p => !okPl p) = true
   · rw [if_pos h2, if_pos h2, if_pos (by decide)]
   · rw [if_neg h2, if_neg h2]
     have hle := setP_len w
     by_cases h3 : (setP w).length ≠ w.length
     · rw [if_pos h3, if_pos (by omega : (setP w).length < w.length), if_pos (by decide)]
     · have hz : ¬ (0 : Int) ≠ 0 := by decide
       rw [if_neg h3, if_neg (by omega : ¬ (setP w).length < w.length), if_neg hz, (sortBy_perm pltC w).any_eq]
       by_cases h4 : w.any (lostV c l) = true
       · rw [if_pos h4, if_pos h4]
       · rw [if_neg h4, if_neg h4, refT_eq hC (setP_nodup w (by omega)) fun p hp => by
          have := List.any_eq_false.1 (by simpa using h4 : w.any (lostV c l) = false) p hp
          simpa using this]
def pfS (s : Cnt × List Plt) (p : Plt) : Cnt × List Plt := if holdsV s.1 p = true then ((removeV s.1 p).1, s.2 ++ [p]) else s
def pfW (o : Cnt) (ps : List Plt) : Cnt × List Plt := ps.foldl pfS (o, [])
theorem pfW_snoc (o : Cnt) (ps : List Plt) (p : Plt) : pfW o (ps ++ [p]) = pfS (pfW o ps) p := by unfold pfW; rw [List.foldl_append]; rfl
theorem pfW_len (o : Cnt) (ps : List Plt) : (pfW o ps).2.length ≤ ps.length := by
 refine snoc_ind (P := fun ps => (pfW o ps).2.length ≤ ps.length) (Nat.le_refl _) (fun ps p ih => ?_) ps
 rw [pfW_snoc, List.length_append, List.length_singleton]
 unfold pfS
 split
 · show ((pfW o ps).2 ++ [p]).length ≤ _
   rw [List.length_append, List.length_singleton]; omega
 · omega
theorem hasB_iff {l : List Pce} {p : Plt} : hasP l p = true ↔ ∃ x ∈ l, x.1 = p := by
 unfold hasP
 rw [List.any_eq_true]
 exact ⟨fun ⟨x, h, e⟩ => ⟨x, h, of_decide_eq_true e⟩, fun ⟨x, h, e⟩ => ⟨x, h, decide_eq_true e⟩⟩
theorem pfW_spec {o : Cnt} (ho : ctErr o = 0) (ps : List Plt) : ps.Nodup → pfW o ps = (setPcs o (o.pcs.filter (fun x => !ps.any (fun y => decide (y = x.1)))), ps.filter (fun p => hasP o.pcs p)) := by
 refine snoc_ind (P := fun ps => ps.Nodup → pfW o ps = (setPcs o (o.pcs.filter (fun x => !ps.any (fun y => decide (y = x.1)))), ps.filter (fun p => hasP o.pcs p))) (fun _ => ?_) (fun ps p ih => ?_) ps
 · have : o.pcs.filter (fun x => !([] : List Plt).any (fun y => decide (y = x.1))) = o.pcs := List.filter_eq_self.2 fun x hx => rfl
   rw [this]
   rfl
 · intro hd
   obtain ⟨h1, _, h3⟩ := List.nodup_append.1 hd
   have hp : p ∉ ps := fun q => h3 p q p (by simp) rfl
   rw [pfW_snoc, ih h1]
   obtain ⟨c1, c2, c3⟩ := ctErr_iff.1 ho
   have hk : ctErr (setPcs o (o.pcs.filter (fun x => !ps.any (fun y => decide (y = x.1))))) = 0 := ctErr_iff.2 ⟨c1, Nat.le_trans (List.length_filter_le _ _) c2, fun x hx => c3.ok x (List.mem_filter.1 hx).1, c3.srt.filter _⟩
   have hh : hasP (o.pcs.filter (fun x => !ps.any (fun y => decide (y = x.1)))) p = hasP o.pcs p := by
    rw [Bool.eq_iff_iff, hasB_iff, hasB_iff]
    constructor
    · rintro ⟨x, hx, e⟩
      exact ⟨x, (List.mem_filter.1 hx).1, e⟩
    · rintro ⟨x, hx, e⟩
      refine ⟨x, List.mem_filter.2 ⟨hx, ?_⟩, e⟩
      rw [e]
      have : ps.any (fun y => decide (y = p)) = false := by
       rw [List.any_eq_false]
       intro y hy q
       exact hp (of_decide_eq_true q ▸ hy)
      rw [this]; rfl
   have hf : ∀ x : Pce, (!(ps ++ [p]).any (fun y => decide (y = x.1))) = ((!decide (x.1 = p)) && !ps.any (fun y => decide (y = x.1))) := fun x => by
    rw [List.any_append, List.any_cons, List.any_nil, Bool.or_false, Bool.not_or, Bool.and_comm]
    congr 2
    exact decide_eq_decide.2 eq_comm
   unfold pfS
   rw [holdsV_has]
   show (if hasP (o.pcs.filter (fun x => !ps.any (fun y => decide (y = x.1)))) p = true then _ else _) = _
   rw [hh, List.filter_append]
   by_cases q : hasP o.pcs p = true
   · have hr : removeV (setPcs o (o.pcs.filter (fun x => !ps.any (fun y => decide (y = x.1))))) p = (setPcs (setPcs o (o.pcs.filter (fun x => !ps.any (fun y => decide (y = x.1))))) (remP (o.pcs.filter (fun x => !ps.any (fun y => decide (y = x.1)))) p), 0) := by
      unfold removeV
      rw [if_neg (by simp [hk]), if_neg]
      · rfl
      · show ¬ hasP (o.pcs.filter (fun x => !ps.any (fun y => decide (y = x.1)))) p = false
        rw [hh, q]; simp
     rw [if_pos q, hr, List.filter_cons_of_pos q]
     refine Prod.ext ?_ rfl
     show setPcs o (remP (o.pcs.filter (fun x => !ps.any (fun y => decide (y = x.1)))) p) = _
     unfold remP
     rw [List.filter_filter]
     simp only [hf]
   · rw [if_neg q, List.filter_cons_of_neg q, List.filter_nil, List.append_nil]
     refine Prod.ext ?_ rfl
     dsimp only
     refine congrArg (setPcs o) (List.filter_congr fun x hx => ?_)
     rw [hf]
     have : ¬ x.1 = p := fun e => q (hasB_iff.2 ⟨x, hx, e⟩)
     rw [decide_eq_false this]; rfl
def perfR (c : List Cnt) (t : Tsk) : List Cnt × List Plt × Int :=
 if checkV c ≠ 0 then ([], [], checkV c) else if numIdx c t.1 < 0 then ([], [], 6)
 else (c.set (numIdx c t.1).toNat (pfW (c.getD (numIdx c t.1).toNat ct0) (setP t.2)).1, (pfW (c.getD (numIdx c t.1).toNat ct0) (setP t.2)).2, 0)
theorem perfR_eq (c : List Cnt) (t : Tsk) : perfR c t = perfV c t := by
 unfold perfR perfV
 by_cases h1 : checkV c ≠ 0
 · rw [if_pos h1, if_pos h1]
 · rw [if_neg h1, if_neg h1]
   have hC := checkV_iff.1 (by omega : checkV c = 0)
   by_cases h2 : numIdx c t.1 < 0
   · rw [if_pos h2, if_pos h2]
   · rw [if_neg h2, if_neg h2]
     obtain ⟨g1, _, _⟩ := idxV_spec (d := ct0) (p := fun (o : Cnt) => decide (o.num = t.1)) (l := c) (by unfold numIdx at h2; omega)
     have hm := getD_mem (d := ct0) g1
     have hok := ctErr_iff.2 (hC.ok _ hm)
     show (c.set (numIdx c t.1).toNat (pfW (c.getD (numIdx c t.1).toNat ct0) (setP t.2)).1, (pfW (c.getD (numIdx c t.1).toNat ct0) (setP t.2)).2, (0 : Int)) = _
     have hok : ctErr (c.getD (numIdx c t.1).toNat ct0) = 0 := hok
     generalize c.getD (numIdx c t.1).toNat ct0 = o at hok ⊢
     obtain ⟨s1, s2⟩ := setP_spec t.2
     have hd : (setP t.2).Nodup := s1.imp fun {a b} h q => by
      rw [q] at h
      have := (pltC_cmp.eq b b).2 rfl
      omega
     rw [pfW_spec hok _ hd]
     have hT : ∀ x : Pce, (setP t.2).any (fun y => decide (y = x.1)) = inT t x := fun x => by
      unfold inT
      rw [Bool.eq_iff_iff, List.any_eq_true, List.any_eq_true]
      exact ⟨fun ⟨y, h, e⟩ => ⟨y, (s2 y).1 h, e⟩, fun ⟨y, h, e⟩ => ⟨y, (s2 y).2 h, e⟩⟩
     simp only [hT]
     refine Prod.ext rfl (Prod.ext ?_ rfl)
     show (setP t.2).filter (fun p => hasP o.pcs p) = (o.pcs.filter (inT t)).map (fun y => y.1)
     have hs := (ctErr_iff.1 hok).2.2.srt
     refine strict_ext (fun x y => Cmp.as pltC_cmp x y) (s1.filter _) (List.pairwise_map.2 (hs.filter _)) fun x => ?_
     rw [List.mem_filter, List.mem_map, s2, hasB_iff]
     constructor
     · rintro ⟨h, y, hy, e⟩
       refine ⟨y, List.mem_filter.2 ⟨hy, List.any_eq_true.2 ⟨x, h, ?_⟩⟩, e⟩
       rw [e]; exact decide_eq_true rfl
     · rintro ⟨y, hy, e⟩
       obtain ⟨hy1, hy2⟩ := List.mem_filter.1 hy
       obtain ⟨z, hz, e2⟩ := List.any_eq_true.1 hy2
       refine ⟨?_, y, hy1, e⟩
       rw [← e, ← of_decide_eq_true e2]; exact hz
end Go.Proofs.YtomdgacmoeohnaaGreat

/- A part. -/
set_option maxRecDepth 100000
set_option maxHeartbeats 8000000
namespace Go.Proofs.YtomdgacmoeohnaaGreat
open Go.Ev
attribute [local go_sem] List.set_cons_succ List.set_cons_zero List.getD_cons_succ List.getD_cons_zero List.set_nil
def con49 : Con := { ps := [.d false (.sl (.int .i64)), .d false (.int .i64)], rs := [.d false .bool], pre := fun x => True, out := fun (x : List Int × Int × Unit) => (x.1.any (fun y => decide (y = x.2.1)), ()), nw := id }
theorem c49 : CtrOk Tryz.prog 49 con49.ctr :=
 con_sound (G := ⟨[], [], [], [], []⟩) tab_ok EnvOk.nil rfl Tryz.func49 rfl con49 131635 (by kernel_rfl) (by decide) (by decide) rfl (by decide) rfl (by
  rintro ⟨(l : List Int), (n : Int), _⟩ hpre hwf X hT hG hk hK
  (simp -implicitDefEqProofs only [go_sem, bP, con49, hT, hG, hk, hK, Tryz.results49] at hwf ⊢)
  refine evk_loop ⟨{ i : Nat // i ≤ l.length ∧ ∀ k, k < i → (fun y => decide (y = n)) (l.getD k 0) = false }, 1000, fun q => [(0, .one (.sl (.int .i64) l false)), (1, .one (.int .i64 n)), (5, .one (.int .i64 q.1))], fun q => [], fun q => l.length - q.1⟩ ⟨0, Nat.zero_le _, fun k hk => by omega⟩ ?_ ?_
  · simp only [go_sem]
    try first | rfl | (and_intros <;> first | trivial | rfl | omega)
  · rintro ⟨i, (hi : i ≤ l.length), hz⟩
    (simp -implicitDefEqProofs only [go_sem, bP, con49, hT, hG, hk, hK, Tryz.results49])
    obtain ⟨o, ho⟩ : ∃ o, l.getD i 0 = o := ⟨_, rfl⟩
    have eo : l.getD (i : Int).toNat 0 = o := ho
    try simp only [eo]
    (repeat' with_reducible first | refine And.intro ?_ ?_ | intro _) <;> try first | with_reducible (first | assumption | omega | contradiction) | decide
    all_goals first
     | omega
     | (have h : o = n := by assumption
        exact (any_at (i := i) (d := (0 : Int)) (p := fun y => decide (y = n)) (by omega) (by show decide (l.getD i 0 = n) = true; rw [ho]; exact decide_eq_true h)).symm)
     | (have h : ¬ o = n := by assumption
        refine fin_lp ⟨i + 1, by omega, lt_succ hz (by show decide (l.getD i 0 = n) = false; rw [ho]; exact decide_eq_false h)⟩ ?_ (by dsimp only; omega)
        simp only [go_sem]
        try first | rfl | (and_intros <;> first | trivial | rfl | omega)
        done)
     | exact (any_none (d := (0 : Int)) (p := fun y => decide (y = n)) fun k hk => hz k (by omega)).symm
     | fail)
def con47 : Con := { ps := [.d false (.sl yCT), .d false (.sl yPM), .d true yPL], rs := [.d false (.sl (.int .i64))], pre := fun _ => True, out := fun (x : List Cnt × List Plm × Plt × Unit) => (candV x.1 x.2.1 x.2.2.1, ()), nw := id }
theorem c47 : CtrOk Tryz.prog 47 con47.ctr :=
 con_sound (G := ⟨[(51, con51.ctr)], [], [], [], []⟩) tab_ok (EnvOk.cons c51 has51 EnvOk.nil) rfl Tryz.func47 rfl con47 34368136167 (by kernel_rfl) (by decide) (by decide) rfl (by decide) rfl (by
  rintro ⟨(c : List Cnt), (l : List Plm), ⟨(p1 : Int), (p2 : Int), (p3 : Int)⟩, _⟩ hpre hwf X hT hG hk hK
  (simp -implicitDefEqProofs only [go_sem, bP, con47, con51, hT, hG, hk, hK, Tryz.results47] at hwf ⊢); (try simp (disch := decide +kernel) only [drawn, true_and, and_true])
  clear hwf
  refine evk_loop ⟨{ i : Nat // i ≤ l.length ∧ ∀ k, k < i → (fun x : Plm => decide (x.1.1 = ((p1, p2, p3) : Plt))) (l.getD k pm0) = false }, 1000, fun q => [(0, .one (.sl yCT c false)), (1, .one (.sl yPM l false)), (5, .one (.loc 70 0)), (7, .one (.int .i64 q.1))], fun q => [(70, .cells 41 [.int .i64 p1, .int .i64 p2, .int .i64 p3])], fun q => l.length - q.1⟩ ⟨0, by omega, fun k hk => by omega⟩ ?_ ?_
  · simp only [go_sem]
    try first | rfl | (and_intros <;> first | trivial | rfl | omega)
  · rintro ⟨i, (hi : i ≤ l.length), hz⟩
    (simp -implicitDefEqProofs only [go_sem, bP, con47, con51, hT, hG, hk, hK, Tryz.results47]); (try simp (disch := decide +kernel) only [drawn, true_and, and_true])
    obtain ⟨o, ho⟩ : ∃ o, l.getD i pm0 = o := ⟨_, rfl⟩
    have eo : l.getD (i : Int).toNat (((0, 0, 0), 0, 0), 0, []) = o := ho
    try simp only [eo]
    (repeat' with_reducible first | refine And.intro ?_ ?_ | intro _) <;> try first | with_reducible (first | assumption | omega | contradiction) | decide
    all_goals first
     | omega
     | (have h : o.1.1.1 = p1 ∧ o.1.1.2.1 = p2 ∧ o.1.1.2.2 = p3 := by assumption
        have e := find_at (p := fun x : Plm => decide (x.1.1 = ((p1, p2, p3) : Plt))) (d := pm0) hz (by omega) (by show decide ((l.getD i pm0).1.1 = _) = true; rw [ho]; exact decide_eq_true ((pltE o.1.1 (p1, p2, p3)).mp h))
        unfold candV; rw [e]; show _ = (l.getD i pm0).2.2; rw [ho])
     | (have h : ¬ o.1.1.1 = p1 ∨ ¬ o.1.1.2.1 = p2 ∨ ¬ o.1.1.2.2 = p3 := by assumption
        refine fin_lp ⟨i + 1, by omega, lt_succ hz (by show decide ((l.getD i pm0).1.1 = _) = false; rw [ho]; exact decide_eq_false ((pltN o.1.1 (p1, p2, p3)).mp h))⟩ (by simp only [go_sem]; first | rfl | ((repeat' apply And.intro) <;> first | rfl | assumption | omega)) (by dsimp only; omega)
        done)
     | (have e := find_no (p := fun x : Plm => decide (x.1.1 = ((p1, p2, p3) : Plt))) (d := pm0) fun k hk => hz k (by omega)
        unfold candV; rw [e]; dsimp only
        first | (rw [if_pos (by assumption)]; done) | (rw [if_neg (by simp [*])]; done))
     | fail)
def con18 : Con := { ps := [.d false (.sl yCT), .d false (.sl yPL)], rs := [.d false (.sl yPL)], pre := fun (x : List Cnt × List Plt × Unit) => x.2.1.length ≤ 100000, out := fun (x : List Cnt × List Plt × Unit) => (remV x.1 x.2.1, ()), nw := id }
theorem c18 : CtrOk Tryz.prog 18 con18.ctr :=
 con_sound (G := ⟨[(51, con51.ctr)], [], [], [], []⟩) tab_ok (EnvOk.cons c51 has51 EnvOk.nil) rfl Tryz.func18 rfl con18 16781683 (by kernel_rfl) (by decide) (by decide) rfl (by decide) rfl (by
  rintro ⟨(c : List Cnt), (w : List Plt), _⟩ hpre hwf X hT hG hk hK
  have hw : w.length ≤ 100000 := hpre
  (simp -implicitDefEqProofs only [go_sem, bP, con18, con51, hT, hG, hk, hK, Tryz.results18] at hwf ⊢)
  clear hwf
  refine evk_loop ⟨{ i : Nat // i ≤ w.length }, 1000, fun q => [(0, .one (.sl yCT c false)), (1, .one (.sl yPL w false)), (5, .one (.row 66)), (6, .one (.int .i64 q.1))], fun q => [(66, .row 41 yPL (remV c (w.take q.1)))], fun q => w.length - q.1⟩ ⟨0, by omega⟩ ?_ ?_
  · simp only [go_sem]
    try first | rfl | (and_intros <;> first | trivial | rfl | omega)
  · rintro ⟨i, (hi : i ≤ w.length)⟩
    (simp -implicitDefEqProofs only [go_sem, bP, con18, con51, hT, hG, hk, hK, Tryz.results18])
    obtain ⟨o, ho⟩ : ∃ o, w.getD i pl0 = o := ⟨_, rfl⟩
    have eo : w.getD (i : Int).toNat (0, 0, 0) = o := ho
    have eO : (o.1, o.2.1, o.2.2) = o := rfl
    try simp only [eo, eO]
    have hst : i < w.length → remV c (w.take (i + 1)) = remV c (w.take i) ++ (if (findV c o).2 = true then [o] else []) := fun h => by
     unfold remV
     rw [List.take_succ_eq_append_getElem h, ← getD_lt (d := pl0) h, ho, List.filter_append]
     by_cases q : (findV c o).2 = true
     · rw [List.filter_cons_of_pos (by exact q), if_pos q]; rfl
     · rw [List.filter_cons_of_neg (by exact q), if_neg q]; rfl
    have hfl : (remV c (w.take i)).length ≤ i := Nat.le_trans (List.length_filter_le _ _) (by rw [List.length_take]; omega)
    have hend : i = w.length → remV c (w.take i) = remV c w := fun h => by rw [h, List.take_length]
    (repeat' with_reducible first | refine And.intro ?_ ?_ | intro _) <;> try first | with_reducible (first | assumption | omega | contradiction) | decide
    all_goals first
     | omega
     | (have h : (findV c o).2 = true := by assumption
        have hs := hst (by omega)
        rw [if_pos h] at hs
        refine fin_lp ⟨i + 1, by omega⟩ ?_ (by dsimp only; omega)
        simp only [go_sem]
        rw [hs]
        try first | rfl | (and_intros <;> first | trivial | rfl | omega)
        done)
     | (have h : (findV c o).2 = false := by assumption
        have hs := hst (by omega)
        rw [if_neg (by rw [h]; simp), List.append_nil] at hs
        refine fin_lp ⟨i + 1, by omega⟩ ?_ (by dsimp only; omega)
        simp only [go_sem]
        rw [hs]
        try first | rfl | (and_intros <;> first | trivial | rfl | omega)
        done)
     | exact hend (by omega)
     | exact (hend (by omega)).symm
     | fail)
def smallP (l : List Plm) : Bool := l.all (fun x => decide ((x.2.2.length : Int) ≤ 30)) && decide ((l.length : Int) ≤ 40)
def con5 : Con := { ps := [.d false (.sl yPM)], rs := [.d false .bool], pre := fun _ => True, out := fun (x : List Plm × Unit) => (smallP x.1, ()), nw := id }
theorem c5 : CtrOk Tryz.prog 5 con5.ctr :=
 con_sound (G := ⟨[], [], [], [], []⟩) tab_ok EnvOk.nil rfl Tryz.func5 rfl con5 33005 (by kernel_rfl) (by decide) (by decide) rfl (by decide) rfl (by
  rintro ⟨(l : List Plm), _⟩ hpre hwf X hT hG hk hK
  (simp -implicitDefEqProofs only [go_sem, bP, con5, hT, hG, hk, hK, Tryz.results5] at hwf ⊢)
  clear hwf
  refine fun _ => evk_loop ⟨{ i : Nat // i ≤ l.length ∧ ∀ k, k < i → ((l.getD k pm0).2.2.length : Int) ≤ 30 }, 1000, fun q => [(0, .one (.sl yPM l false)), (5, .one (.int .i64 l.length)), (6, .one (.int .i64 q.1))], fun q => [], fun q => l.length - q.1⟩ ⟨0, Nat.zero_le _, fun k hk => by omega⟩ ?_ ?_
  · simp only [go_sem]
    try first | rfl | (and_intros <;> first | trivial | rfl | omega)
  · rintro ⟨i, (hi : i ≤ l.length), hz⟩
    (simp -implicitDefEqProofs only [go_sem, bP, con5, hT, hG, hk, hK, Tryz.results5])
    obtain ⟨o, ho⟩ : ∃ o, l.getD i pm0 = o := ⟨_, rfl⟩
    have eo : l.getD (i : Int).toNat (((0, 0, 0), 0, 0), 0, []) = o := ho
    try simp only [eo]
    (repeat' with_reducible first | refine And.intro ?_ ?_ | intro _) <;> try first | with_reducible (first | assumption | omega | contradiction) | decide
    all_goals first
     | omega
     | (have h : (o.2.2.length : Int) > 30 := by assumption
        have hq : l.all (fun x => decide ((x.2.2.length : Int) ≤ 30)) = false := by
         rw [List.all_eq_false]
         refine ⟨l.getD i pm0, getD_mem (by omega), ?_⟩
         rw [ho]
         simp; omega
        unfold smallP; rw [hq]; rfl)
     | (have h : ¬ (o.2.2.length : Int) > 30 := by assumption
        refine fin_lp ⟨i + 1, by omega, lt_succ hz (by rw [ho]; omega)⟩ ?_ (by dsimp only; omega)
        simp only [go_sem]
        try first | rfl | (and_intros <;> first | trivial | rfl | omega)
        done)
     | (have hq : l.all (fun x => decide ((x.2.2.length : Int) ≤ 30)) = true := by
         rw [List.all_eq_true]
         intro x hx
         obtain ⟨k, hk, rfl⟩ := mem_getD (d := pm0) hx
         exact decide_eq_true (hz k (by omega))
        unfold smallP; rw [hq, Bool.true_and])
     | fail)
theorem smallP_of {l : List Plm} (h : smallP l = true) : (∀ x ∈ l, x.2.2.length ≤ 30) ∧ l.length ≤ 40 := by
 unfold smallP at h
 rw [Bool.and_eq_true, List.all_eq_true] at h
 refine ⟨fun x hx => ?_, ?_⟩
 · have := of_decide_eq_true (h.1 x hx); omega
 · have := of_decide_eq_true h.2; omega
def con11 : RCon := { ps := [.p 67 ySR, .d false (.int .i64)], rs := [.o 41 yPL], pre := fun (x : Src × Int × Unit) => 0 ≤ x.1.2 ∧ 1 ≤ x.2.1 ∧ x.2.1 ≤ 20, rel := fun (x : Src × Int × Unit) (y : List Plt × Unit) (z : Src × Int × Unit) => 0 ≤ z.1.2 ∧ (y.1.length : Int) ≤ 20 }
theorem c11 : RCtrOk Tryz.prog 11 con11.rctr :=
 rcon_sound (G := ⟨[(24, con24.ctr), (27, con27.ctr)], [], [], [], []⟩) tab_ok (EnvOk.cons c24 has24 (EnvOk.cons c27 has27 EnvOk.nil)) rfl Tryz.func11 rfl con11 17011 (by kernel_rfl) (by decide) (by decide) rfl (by decide) rfl (by
  rintro ⟨⟨(s : List Int), (a : Int)⟩, (n : Int), _⟩ hpre hwf X hT hG hk hK
  obtain ⟨h1, h2, h3⟩ : 0 ≤ a ∧ 1 ≤ n ∧ n ≤ 20 := hpre
  (simp -implicitDefEqProofs only [go_sem, bP, con11, con24, con27, hT, hG, hk, hK, Tryz.results11] at hwf ⊢)
  clear hwf
  refine evk_loop ⟨{ q : Src × List Plt × Nat // 0 ≤ q.1.2 ∧ q.2.1.length ≤ q.2.2 ∧ q.2.2 ≤ 20 ∧ (q.2.2 : Int) ≤ n }, 1000, fun q => [(0, .one (.loc 0 0)), (1, .one (.int .i64 n)), (5, .one (.row 66)), (6, .one (.int .i64 q.1.2.2))],
   fun q => [(0, .cells 67 [.sl (.int .i64) q.1.1.1 false, .int .i64 q.1.1.2]), (66, .row 41 yPL q.1.2.1)], fun q => 20 - q.1.2.2⟩ ⟨((s, a), [], 0), h1, Nat.le_refl _, Nat.zero_le _, by show ((0 : Nat) : Int) ≤ n; omega⟩ ?_ ?_
  · simp only [go_sem]
    try first | rfl | (and_intros <;> first | trivial | rfl | omega)
  · rintro ⟨⟨⟨s, a⟩, out, i⟩, (h1 : 0 ≤ a), (hl : out.length ≤ i), (hi : i ≤ 20), (hin : (i : Int) ≤ n)⟩
    (simp -implicitDefEqProofs only [go_sem, bP, con11, con24, con27, hT, hG, hk, hK, Tryz.results11])
    have p1 : 0 ≤ (Src.step (s, a)).snd := step_pos h1
    have m1 : 0 ≤ ((i : Int) * 5 + 3).tmod n := Int.tmod_nonneg _ (by omega)
    have m2 : ((i : Int) * 5 + 3).tmod n < n := Int.tmod_lt_of_pos _ (by omega)
    generalize Src.step (s, a) = S1 at p1 ⊢
    obtain ⟨s1, a1⟩ := S1
    (repeat' with_reducible first | refine And.intro ?_ ?_ | intro _) <;> try first | with_reducible (first | assumption | omega | contradiction) | decide
    all_goals first
     | omega
     | exact ⟨(out, ()), ((s, a), n, ()), ⟨h1, (by show (out.length : Int) ≤ 20; omega)⟩, rfl, rfl, rfl⟩
     | (refine fin_lp ⟨((s1, a1), out ++ [platesV (((i : Int) * 5 + 3).tmod n)], i + 1), p1, by show (out ++ [_]).length ≤ i + 1; rw [List.length_append, List.length_singleton]; omega, by show i + 1 ≤ 20; omega, by show ((i + 1 : Nat) : Int) ≤ n; omega⟩ ?_ (by dsimp only; omega)
        simp only [go_sem]
        try first | rfl | (and_intros <;> first | trivial | rfl | omega)
        done)
     | (refine fin_lp ⟨((s1, a1), out, i + 1), p1, by show out.length ≤ i + 1; omega, by show i + 1 ≤ 20; omega, by show ((i + 1 : Nat) : Int) ≤ n; omega⟩ ?_ (by dsimp only; omega)
        simp only [go_sem]
        try first | rfl | (and_intros <;> first | trivial | rfl | omega)
        done)
     | fail)
def con15 : Con := { ps := [.d false (.sl yTK), .d false (.sl yTK)], rs := [.d false .bool], pre := fun _ => True, out := fun (x : List Tsk × List Tsk × Unit) => (decide (x.1 = x.2.1), ()), nw := id }
theorem c15 : CtrOk Tryz.prog 15 con15.ctr :=
 con_sound (G := ⟨[], [], [], [], []⟩) tab_ok EnvOk.nil rfl Tryz.func15 rfl con15 1180593881313318045811 (by kernel_rfl) (by decide) (by decide) rfl (by decide) rfl (by
  rintro ⟨(l : List Tsk), (m : List Tsk), _⟩ hpre hwf X hT hG hk hK
  (simp -implicitDefEqProofs only [go_sem, bP, con15, hT, hG, hk, hK, Tryz.results15] at hwf ⊢); (try simp (disch := decide +kernel) only [drawn, true_and, and_true])
  clear hwf
  refine fun _ _ => ⟨fun h => ?_, fun hll => ?_⟩
  · exact (decide_eq_false fun e => by subst e; simp at h).symm
  refine evk_loop ⟨{ i : Nat // i ≤ l.length ∧ l.take i = m.take i }, 1000, fun q => [(0, .one (.sl yTK l false)), (1, .one (.sl yTK m false)), (5, .one (.int .i64 q.1))], fun q => [], fun q => l.length - q.1⟩ ⟨0, Nat.zero_le _, by simp⟩ ?_ ?_
  · simp only [go_sem]
    try first | rfl | (and_intros <;> first | trivial | rfl | omega)
  · rintro ⟨i, (hi : i ≤ l.length), (hz : l.take i = m.take i)⟩
    (simp -implicitDefEqProofs only [go_sem, bP, con15, hT, hG, hk, hK, Tryz.results15]); (try simp (disch := decide +kernel) only [drawn, true_and, and_true])
    obtain ⟨o, ho⟩ : ∃ o, l.getD i tk0 = o := ⟨_, rfl⟩
    obtain ⟨u, hu⟩ : ∃ u, m.getD i tk0 = u := ⟨_, rfl⟩
    have eo : l.getD (i : Int).toNat (0, []) = o := ho
    have eu : m.getD (i : Int).toNat (0, []) = u := hu
    try simp only [eo, eu]
    have hno : i < l.length → ¬ o = u → decide (l = m) = false := fun h h2 => decide_eq_false fun e => h2 (by rw [← ho, ← hu, e])
    have hnx : i < l.length → o = u → l.take (i + 1) = m.take (i + 1) := fun h h2 => by
     rw [List.take_succ_eq_append_getElem h, List.take_succ_eq_append_getElem (by omega), hz, ← getD_lt (d := tk0), ← getD_lt (d := tk0), ho, hu, h2]
    have hend : ¬ i < l.length → decide (l = m) = true := fun h => decide_eq_true (by
     rw [List.take_of_length_le (by omega), List.take_of_length_le (by omega)] at hz
     exact hz)
    (repeat' with_reducible first | refine And.intro ?_ ?_ | intro _) <;> try first | with_reducible (first | assumption | omega | contradiction) | decide
    all_goals try omega
    all_goals try (rw [hend (by omega)]; done)
    all_goals try (rw [hno (by omega) (fun e => by subst e; simp_all)]; done)
    all_goals try (exact (hend (by omega)).symm)
    all_goals first
     | (have h0 : o.1 = u.1 ∧ (o.2.length : Int) = u.2.length := by first | assumption | (and_intros <;> first | assumption | omega)
        have hl2 : o.2.length = u.2.length := by have := h0.2; omega
        refine evk_loop ⟨{ j : Nat // j ≤ o.2.length ∧ o.2.take j = u.2.take j }, 2000, fun q => [(0, .one (.sl yTK l false)), (1, .one (.sl yTK m false)), (5, .one (.int .i64 i)), (6, .one (.int .i64 q.1))], fun q => [], fun q => o.2.length - q.1⟩ ⟨0, Nat.zero_le _, by simp⟩ ?_ ?_
        · simp only [go_sem]
          try first | rfl | (and_intros <;> first | trivial | rfl | omega)
        · rintro ⟨j, (hj : j ≤ o.2.length), (hzj : o.2.take j = u.2.take j)⟩
          (simp -implicitDefEqProofs only [go_sem, bP, con15, hT, hG, hk, hK, Tryz.results15]); (try simp (disch := decide +kernel) only [drawn, true_and, and_true])
          try simp only [eo, eu]
          obtain ⟨x, hx⟩ : ∃ x, o.2.getD j pl0 = x := ⟨_, rfl⟩
          obtain ⟨y, hy⟩ : ∃ y, u.2.getD j pl0 = y := ⟨_, rfl⟩
          have ex : o.2.getD (j : Int).toNat (0, 0, 0) = x := hx
          have ey : u.2.getD (j : Int).toNat (0, 0, 0) = y := hy
          try simp only [ex, ey, plE, plN]
          (repeat' with_reducible first | refine And.intro ?_ ?_ | intro _) <;> try first | with_reducible (first | assumption | omega | contradiction) | decide
          all_goals first
           | omega
           | (have hne : ¬ x = y := by assumption
              rw [hno (by omega) (fun e => hne (by rw [← hx, ← hy, e]))])
           | (have hne : x = y := by first | assumption | (apply Decidable.byContradiction; assumption)
              refine fin_lp ⟨j + 1, by omega, by
               show o.2.take (j + 1) = u.2.take (j + 1)
               rw [List.take_succ_eq_append_getElem (by omega), List.take_succ_eq_append_getElem (by omega), hzj, ← getD_lt (d := pl0), ← getD_lt (d := pl0), hx, hy, hne]⟩ ?_ (by dsimp only; omega)
              simp only [go_sem]
              try first | rfl | (and_intros <;> first | trivial | rfl | omega)
              done)
           | (have e2 : o.2 = u.2 := by
               rw [List.take_of_length_le (by omega), List.take_of_length_le (by omega)] at hzj
               exact hzj
              refine fin_lp ⟨i + 1, by omega, hnx (by omega) (Prod.ext h0.1 e2)⟩ ?_ (by dsimp only; omega)
              simp only [go_sem]
              try first | rfl | (and_intros <;> first | trivial | rfl | omega)
              done)
           | fail)
     | fail)
def con14 : Con := { ps := [.d false (.sl yCT), .d false (.sl yPM), .d false (.sl yPL)], rs := [.d false (.sl yTK), .d false (.int .i64)], pre := fun (x : List Cnt × List Plm × List Plt × Unit) => x.2.2.1.length ≤ 1000, out := fun (x : List Cnt × List Plm × List Plt × Unit) => ((searchV x.1 x.2.1 x.2.2.1).1, (searchV x.1 x.2.1 x.2.2.1).2, ()), nw := id }
theorem c14 : CtrOk Tryz.prog 14 con14.ctr :=
 con_sound (G := ⟨[(44, con44.ctr), (45, con45.ctr), (46, con46.ctr), (47, con47.ctr), (48, con48.ctr), (49, con49.ctr)], [], [(104, 1)], [], []⟩) tab_ok (EnvOk.cons c44 has44 (EnvOk.cons c45 has45 (EnvOk.cons c46 has46 (EnvOk.cons c47 has47 (EnvOk.cons c48 has48 (EnvOk.cons c49 has49 EnvOk.nil)))))) rfl Tryz.func14 rfl con14 158611072331966213244031465415 (by kernel_rfl) (by decide) (by decide) rfl (by decide) rfl (by
  rintro ⟨(c : List Cnt), (l : List Plm), (w : List Plt), _⟩ hpre hwf X hT hG hk hK
  have hw : w.length ≤ 1000 := hpre
  have eR := searchR_eq c l w
  (simp -implicitDefEqProofs only [go_sem, bP, con14, con44, con45, con46, con47, con48, con49, hT, hG, hk, hK, Tryz.results14] at hwf ⊢); (try simp (disch := decide +kernel) only [drawn, true_and, and_true])
  clear hwf
  refine fun _ => ⟨fun h => ?_, fun h => ?_⟩
  · have e : searchV c l w = ([], checkV c) := by rw [← eR]; unfold searchR; rw [if_pos h]
    rw [e]; exact ⟨rfl, rfl⟩
  have hC := checkV_iff.1 (by omega : checkV c = 0)
  have hcl := hC.len
  have e1 : w.any (fun p => !okPl p) = true → searchV c l w = ([], 1) := fun q => by rw [← eR]; unfold searchR; rw [if_neg (by omega), if_pos q]
  have e2 : ¬ w.any (fun p => !okPl p) = true → (setP w).length ≠ w.length → searchV c l w = ([], 5) := fun q q2 => by rw [← eR]; unfold searchR; rw [if_neg (by omega), if_neg q, if_pos q2]
  have e3 : ¬ w.any (fun p => !okPl p) = true → ¬ (setP w).length ≠ w.length → w.any (lostV c l) = true → searchV c l w = ([], 6) := fun q q2 q3 => by rw [← eR]; unfold searchR; rw [if_neg (by omega), if_neg q, if_neg q2, if_pos q3]
  have e4 : ¬ w.any (fun p => !okPl p) = true → ¬ (setP w).length ≠ w.length → ¬ w.any (lostV c l) = true → searchV c l w = (refT c l w c, 0) := fun q q2 q3 => by rw [← eR]; unfold searchR; rw [if_neg (by omega), if_neg q, if_neg q2, if_neg q3]
  refine evk_loop ⟨{ i : Nat // i ≤ w.length ∧ ∀ k, k < i → okPl (w.getD k pl0) = true }, 1000, fun q => [(0, .one (.sl yCT c false)), (1, .one (.sl yPM l false)), (2, .one (.sl yPL w false)), (9, .one (.int .i64 q.1))], fun q => [], fun q => w.length - q.1⟩ ⟨0, Nat.zero_le _, fun k hk => by omega⟩ ?_ ?_
  · simp only [go_sem]
    try first | rfl | (and_intros <;> first | trivial | rfl | omega)
  · rintro ⟨i, (hi : i ≤ w.length), hz⟩
    (simp -implicitDefEqProofs only [go_sem, bP, con14, con44, con45, con46, con47, con48, con49, hT, hG, hk, hK, Tryz.results14]); (try simp (disch := decide +kernel) only [drawn, true_and, and_true])
    obtain ⟨o, ho⟩ : ∃ o, w.getD i pl0 = o := ⟨_, rfl⟩
    have eo : w.getD (i : Int).toNat (0, 0, 0) = o := ho
    try simp only [eo]
    refine fun _ => ⟨fun hlt => ⟨⟨by omega, hlt⟩, fun _ _ => ⟨fun hb => ?_, fun hok => ⟨by omega, ?_⟩⟩⟩, fun hge => ?_⟩
    · have h2 : w.any (fun p => !okPl p) = true := List.any_eq_true.2 ⟨o, by rw [← ho]; exact getD_mem (by omega), by rw [hb]; rfl⟩
      rw [e1 h2]; exact ⟨rfl, rfl⟩
    · refine fin_lp ⟨i + 1, by omega, lt_succ hz (by rw [ho]; exact hok)⟩ ?_ (by dsimp only; omega)
      simp only [go_sem]
      try first | rfl | (and_intros <;> first | trivial | rfl | omega)
    have hall : ¬ w.any (fun p => !okPl p) = true := fun q => by
     obtain ⟨x, hx, hq⟩ := List.any_eq_true.1 q
     obtain ⟨k, hk, rfl⟩ := mem_getD (d := pl0) hx
     rw [hz k (by omega)] at hq
     cases hq
    refine ⟨by omega, fun _ _ _ => ⟨fun hne => ?_, fun heq => ?_⟩⟩
    · rw [e2 hall (by omega)]; exact ⟨rfl, rfl⟩
    have hsl : ¬ (setP w).length ≠ w.length := by omega
    refine evk_loop ⟨{ i : Nat // i ≤ w.length ∧ ∀ k, k < i → lostV c l (w.getD k pl0) = false }, 2000, fun q => [(0, .one (.sl yCT c false)), (1, .one (.sl yPM l false)), (2, .one (.sl yPL w false)), (10, .one (.int .i64 q.1))], fun q => [], fun q => w.length - q.1⟩ ⟨0, Nat.zero_le _, fun k hk => by omega⟩ ?_ ?_
    · simp only [go_sem]
      try first | rfl | (and_intros <;> first | trivial | rfl | omega)
    rintro ⟨i, (hi : i ≤ w.length), hz2⟩
    (simp -implicitDefEqProofs only [go_sem, bP, con14, con44, con45, con46, con47, con48, con49, hT, hG, hk, hK, Tryz.results14]); (try simp (disch := decide +kernel) only [drawn, true_and, and_true])
    obtain ⟨o, ho⟩ : ∃ o, w.getD i pl0 = o := ⟨_, rfl⟩
    have eo : w.getD (i : Int).toNat (0, 0, 0) = o := ho
    have eO : (o.1, o.2.1, o.2.2) = o := rfl
    try simp only [eo, eO]
    refine fun _ => ⟨fun hlt => ⟨⟨by omega, hlt⟩, fun _ _ _ => ?_⟩, fun hge => ?_⟩
    · have hlo : lostV c l o = (candV c l o).any (fun n => decide (numIdx c n < 0)) := rfl
      have hlost : lostV c l o = true → searchV c l w = ([], 6) := fun q => e3 hall hsl (List.any_eq_true.2 ⟨o, by rw [← ho]; exact getD_mem (by omega), q⟩)
      generalize candV c l o = ns at hlo ⊢
      intro _
      refine evk_loop ⟨{ j : Nat // j ≤ ns.length ∧ ∀ k, k < j → ¬ numIdx c (ns.getD k 0) < 0 }, 3000, fun q => [(0, .one (.sl yCT c false)), (1, .one (.sl yPM l false)), (2, .one (.sl yPL w false)), (10, .one (.int .i64 i)), (52, .one (.sl (.int .i64) ns false)), (53, .one (.int .i64 ns.length)), (54, .one (.int .i64 q.1))], fun q => [], fun q => ns.length - q.1⟩ ⟨0, Nat.zero_le _, fun k hk => by omega⟩ ?_ ?_
      · simp only [go_sem]
        try first | rfl | (and_intros <;> first | trivial | rfl | omega)
      rintro ⟨j, (hj : j ≤ ns.length), hzj⟩
      (simp -implicitDefEqProofs only [go_sem, bP, con14, con44, con45, con46, con47, con48, con49, hT, hG, hk, hK, Tryz.results14]); (try simp (disch := decide +kernel) only [drawn, true_and, and_true])
      obtain ⟨n, hn⟩ : ∃ n, ns.getD j 0 = n := ⟨_, rfl⟩
      have en : ns.getD (j : Int).toNat 0 = n := hn
      try simp only [en]
      (repeat' with_reducible first | refine And.intro ?_ ?_ | intro _) <;> try first | with_reducible (first | assumption | omega | contradiction) | decide
      all_goals first
       | omega
       | (have hneg : numIdx c n < 0 := by assumption
          have e := hlost (by rw [hlo]; exact List.any_eq_true.2 ⟨n, by rw [← hn]; exact getD_mem (by omega), decide_eq_true hneg⟩)
          first | (rw [e]; done) | (rw [e]; exact ⟨rfl, rfl⟩))
       | (have hpos : ¬ numIdx c n < 0 := by assumption
          refine fin_lp ⟨j + 1, by omega, lt_succ hzj (by rw [hn]; exact hpos)⟩ ?_ (by dsimp only; omega)
          simp only [go_sem]
          try first | rfl | (and_intros <;> first | trivial | rfl | omega)
          done)
       | (have hlf : lostV c l o = false := by
           rw [hlo, List.any_eq_false]
           intro x hx
           obtain ⟨k, hk, rfl⟩ := List.mem_iff_getElem.1 hx
           have := hzj k (by omega)
           rw [getD_lt hk] at this
           simpa using this
          refine fin_lp ⟨i + 1, by omega, lt_succ hz2 (by rw [ho]; exact hlf)⟩ ?_ (by dsimp only; omega)
          simp only [go_sem]
          try first | rfl | (and_intros <;> first | trivial | rfl | omega)
          done)
       | fail
    have hnl : ¬ w.any (lostV c l) = true := fun q => by
     obtain ⟨x, hx, hq⟩ := List.any_eq_true.1 q
     obtain ⟨k, hk, rfl⟩ := mem_getD (d := pl0) hx
     rw [hz2 k (by omega)] at hq
     cases hq
    have hR := e4 hall hsl hnl
    refine evk_loop ⟨{ i : Nat // i ≤ c.length }, 4000, fun q => [(0, .one (.sl yCT c false)), (1, .one (.sl yPM l false)), (2, .one (.sl yPL w false)), (13, .one (.row 66)), (14, .one (.int .i64 q.1))], fun q => [(66, .row 27 yTK (refT c l w (c.take q.1)))], fun q => c.length - q.1⟩ ⟨0, Nat.zero_le _⟩ ?_ ?_
    · simp only [go_sem]
      try first | rfl | (and_intros <;> first | trivial | rfl | omega)
    rintro ⟨i, (hi : i ≤ c.length)⟩
    (simp -implicitDefEqProofs only [go_sem, bP, con14, con44, con45, con46, con47, con48, con49, hT, hG, hk, hK, Tryz.results14]); (try simp (disch := decide +kernel) only [drawn, true_and, and_true])
    obtain ⟨o, ho⟩ : ∃ o, c.getD i ct0 = o := ⟨_, rfl⟩
    have eo : c.getD (i : Int).toNat (0, (ByteArray.empty, 0, ByteArray.empty, 0), 0, 0, 0, 0, 0, []) = o := ho
    try simp only [eo]
    have hst : i < c.length → refT c l w (c.take (i + 1)) = refT c l w (c.take i) ++ if 0 < (namV c l o.num w).length then [(o.num, setP (namV c l o.num w))] else [] := fun h => by
     rw [List.take_succ_eq_append_getElem h, ← getD_lt (d := ct0) h, ho, refT_snoc]
    have hrl : (refT c l w (c.take i)).length ≤ 24 := by
     unfold refT
     rw [List.length_map]
     refine Nat.le_trans (List.length_filter_le _ _) ?_
     rw [List.length_take]; omega
    have hend : i = c.length → refT c l w (c.take i) = refT c l w c := fun h => by rw [h, List.take_length]
    generalize refT c l w (c.take i) = O at hst hrl hend ⊢
    refine fun _ => ⟨fun hlt => ?_, fun hge => ?_⟩
    · refine evk_loop ⟨{ k : Nat // k ≤ w.length }, 5000, fun q => [(0, .one (.sl yCT c false)), (1, .one (.sl yPM l false)), (2, .one (.sl yPL w false)), (13, .one (.row 66)), (14, .one (.int .i64 i)), (15, .one (.row 68)), (16, .one (.int .i64 q.1))], fun q => [(66, .row 27 yTK O), (68, .row 41 yPL (namV c l o.num (w.take q.1)))], fun q => w.length - q.1⟩ ⟨0, Nat.zero_le _⟩ ?_ ?_
      · simp only [go_sem]
        try first | rfl | (and_intros <;> first | trivial | rfl | omega)
      rintro ⟨k, (hkw : k ≤ w.length)⟩
      (simp -implicitDefEqProofs only [go_sem, bP, con14, con44, con45, con46, con47, con48, con49, hT, hG, hk, hK, Tryz.results14]); (try simp (disch := decide +kernel) only [drawn, true_and, and_true])
      try simp only [eo]
      obtain ⟨p, hp⟩ : ∃ p, w.getD k pl0 = p := ⟨_, rfl⟩
      have ep : w.getD (k : Int).toNat (0, 0, 0) = p := hp
      have eP : (p.1, p.2.1, p.2.2) = p := rfl
      try simp only [ep, eP]
      have hns : k < w.length → namV c l o.num (w.take (k + 1)) = namV c l o.num (w.take k) ++ if (candV c l p).any (fun y => decide (y = o.num)) = true then [p] else [] := fun h => by
       unfold namV
       rw [List.take_succ_eq_append_getElem h, ← getD_lt (d := pl0) h, hp, List.filter_append]
       by_cases q : (candV c l p).any (fun y => decide (y = o.num)) = true
       · rw [if_pos q, List.filter_cons_of_pos (by exact q)]; rfl
       · rw [if_neg q, List.filter_cons_of_neg (by exact q)]; rfl
      have hnl2 : (namV c l o.num (w.take k)).length ≤ 1000 := by
       refine Nat.le_trans (List.length_filter_le _ _) ?_
       rw [List.length_take]; omega
      have hke : k = w.length → namV c l o.num (w.take k) = namV c l o.num w := fun h => by rw [h, List.take_length]
      generalize namV c l o.num (w.take k) = Q at hns hnl2 hke ⊢
      (repeat' with_reducible first | refine And.intro ?_ ?_ | intro _) <;> try first | with_reducible (first | assumption | omega | contradiction) | decide
      all_goals first
       | omega
       | (have hs : (candV c l p).any (fun y => decide (y = o.num)) = true := by assumption
          have h1 := hns (by omega)
          rw [if_pos hs] at h1
          refine fin_lp ⟨k + 1, by omega⟩ ?_ (by dsimp only; omega)
          simp only [go_sem]
          rw [h1]
          try first | rfl | (and_intros <;> first | trivial | rfl | omega)
          done)
       | (have hs : (candV c l p).any (fun y => decide (y = o.num)) = false := by assumption
          have h1 := hns (by omega)
          rw [if_neg (by rw [hs]; simp), List.append_nil] at h1
          refine fin_lp ⟨k + 1, by omega⟩ ?_ (by dsimp only; omega)
          simp only [go_sem]
          rw [h1]
          try first | rfl | (and_intros <;> first | trivial | rfl | omega)
          done)
       | (have h0 : (Q.length : Int) > 0 := by assumption
          have hq := hke (by omega)
          have h1 := hst (by omega)
          rw [← hq, if_pos (by omega)] at h1
          refine fin_lp ⟨i + 1, by omega⟩ ?_ (by dsimp only; omega)
          simp only [go_sem]
          rw [h1]
          try first | rfl | (and_intros <;> first | trivial | rfl | omega)
          done)
       | (have h0 : ¬ (Q.length : Int) > 0 := by assumption
          have hq := hke (by omega)
          have h1 := hst (by omega)
          rw [← hq, if_neg (by omega), List.append_nil] at h1
          refine fin_lp ⟨i + 1, by omega⟩ ?_ (by dsimp only; omega)
          simp only [go_sem]
          rw [h1]
          try first | rfl | (and_intros <;> first | trivial | rfl | omega)
          done)
       | fail
    · rw [hR, hend (by omega)]
      first | exact ⟨rfl, rfl⟩ | fail)
def con21 : Con := { ps := [.d false (.sl yCT), .d true yTK], rs := [.d false (.sl yCT), .d false (.sl yPL), .d false (.int .i64)], pre := fun (x : List Cnt × Tsk × Unit) => x.2.1.2.length ≤ 1000, out := fun (x : List Cnt × Tsk × Unit) => ((perfV x.1 x.2.1).1, (perfV x.1 x.2.1).2.1, (perfV x.1 x.2.1).2.2, ()), nw := id }
theorem c21 : CtrOk Tryz.prog 21 con21.ctr :=
 con_sound (G := ⟨[(44, con44.ctr), (48, con48.ctr), (55, con55.ctr), (46, con46.ctr), (56, con56.ctr), (57, con57.ctr)], [], [], [], []⟩) tab_ok (EnvOk.cons c44 has44 (EnvOk.cons c48 has48 (EnvOk.cons c55 has55 (EnvOk.cons c46 has46 (EnvOk.cons c56 has56 (EnvOk.cons c57 has57 EnvOk.nil)))))) rfl Tryz.func21 rfl con21 553790806011 (by kernel_rfl) (by decide) (by decide) rfl (by decide) rfl (by
  rintro ⟨(c : List Cnt), ⟨(n : Int), (pl : List Plt)⟩, _⟩ hpre hwf X hT hG hk hK
  have hpl : pl.length ≤ 1000 := hpre
  (simp -implicitDefEqProofs only [go_sem, bP, con21, con44, con48, con55, con46, con56, con57, hT, hG, hk, hK, Tryz.results21] at hwf ⊢); (try simp (disch := decide +kernel) only [drawn, true_and, and_true])
  clear hwf
  refine fun _ => ⟨fun h => ?_, fun h _ => ⟨fun hn => ?_, fun hn => ?_⟩⟩
  · have e : perfV c (n, pl) = ([], [], checkV c) := by rw [← perfR_eq]; unfold perfR; rw [if_pos h]
    rw [e]; exact ⟨rfl, rfl, rfl⟩
  · have e : perfV c (n, pl) = ([], [], 6) := by rw [← perfR_eq]; unfold perfR; rw [if_neg (by omega), if_pos hn]
    rw [e]; exact ⟨rfl, rfl, rfl⟩
  have hC := checkV_iff.1 (by omega : checkV c = 0)
  have hcl := hC.len
  have hq : perfV c (n, pl) = (c.set (numIdx c n).toNat (pfW (c.getD (numIdx c n).toNat ct0) (setP pl)).1, (pfW (c.getD (numIdx c n).toNat ct0) (setP pl)).2, 0) := by rw [← perfR_eq]; unfold perfR; rw [if_neg (by omega), if_neg hn]
  have hlt := idxV_lt (fun (o : Cnt) => decide (o.num = n)) c
  obtain ⟨g, hg⟩ : ∃ g : Nat, numIdx c n = g := ⟨(numIdx c n).toNat, by omega⟩
  have hgl : g < c.length := by unfold numIdx at hg; omega
  have eg : ((g : Int)).toNat = g := by omega
  obtain ⟨C, hCd⟩ : ∃ C, c.getD g ct0 = C := ⟨_, rfl⟩
  rw [hg, eg, hCd] at hq
  simp only [hg]
  have hsl := setP_len pl
  generalize setP pl = S at hsl hq ⊢
  refine ⟨⟨by omega, fun o ho => by have := (hC.ok o ho).2.1; omega⟩, fun _ => ⟨by omega, fun _ _ => ?_⟩⟩
  refine evk_loop ⟨{ j : Nat // j ≤ S.length }, 1000, fun q => [(8, .one (.int .i64 g)), (9, .one (.row 66)), (10, .one (.row 68)), (28, .one (.sl yPL S false)), (29, .one (.int .i64 S.length)), (30, .one (.int .i64 q.1))], fun q => [(66, .row 61 yCT (c.set g (pfW C (S.take q.1)).1)), (68, .row 41 yPL (pfW C (S.take q.1)).2)], fun q => S.length - q.1⟩ ⟨0, Nat.zero_le _⟩ ?_ ?_
  · simp only [go_sem]
    have e0 : c.set g C = c := by rw [← hCd, getD_lt hgl]; exact List.set_getElem_self hgl
    exact ⟨rfl, e0.symm, rfl⟩
  rintro ⟨j, (hj : j ≤ S.length)⟩
  (simp -implicitDefEqProofs only [go_sem, bP, con21, con44, con48, con55, con46, con56, con57, hT, hG, hk, hK, Tryz.results21]); (try simp (disch := decide +kernel) only [drawn, true_and, and_true])
  obtain ⟨p, hp⟩ : ∃ p, S.getD j pl0 = p := ⟨_, rfl⟩
  have ep : S.getD (j : Int).toNat (0, 0, 0) = p := hp
  have eP : (p.1, p.2.1, p.2.2) = p := rfl
  have hst : j < S.length → pfW C (S.take (j + 1)) = pfS (pfW C (S.take j)) p := fun h => by
   rw [List.take_succ_eq_append_getElem h, ← getD_lt (d := pl0) h, hp, pfW_snoc]
  have hFl : (pfW C (S.take j)).2.length ≤ 1000 := Nat.le_trans (pfW_len _ _) (by rw [List.length_take]; omega)
  have hend : j = S.length → perfV c (n, pl) = (c.set g (pfW C (S.take j)).1, (pfW C (S.take j)).2, 0) := fun h => by rw [h, List.take_length]; exact hq
  clear hq
  obtain ⟨⟨D, F⟩, hW⟩ : ∃ W, pfW C (S.take j) = W := ⟨_, rfl⟩
  rw [hW] at hFl hend
  rw [hW] at hst
  have hFl : F.length ≤ 1000 := hFl
  have hlen : (c.set g D).length = c.length := List.length_set
  have eD : (c.set g D).getD g (0, (ByteArray.empty, 0, ByteArray.empty, 0), 0, 0, 0, 0, 0, []) = D := by
   rw [getD_lt (by rw [hlen]; exact hgl), List.getElem_set_self]
  have eDD : (D.1, (D.2.1.1, D.2.1.2.1, D.2.1.2.2.1, D.2.1.2.2.2), D.2.2.1, D.2.2.2.1, D.2.2.2.2.1, D.2.2.2.2.2.1, D.2.2.2.2.2.2.1, D.2.2.2.2.2.2.2) = D := rfl
  try simp only [ep, eP, hW, eD, hlen, eDD, eg, List.set_set]
  (repeat' with_reducible first | refine And.intro ?_ ?_ | intro _) <;> try first | with_reducible (first | assumption | omega | contradiction) | decide
  all_goals first
   | omega
   | (have hh : holdsV D p = true := by assumption
      have h1 := hst (by omega)
      unfold pfS at h1
      rw [if_pos hh] at h1
      refine fin_lp ⟨j + 1, by omega⟩ ?_ (by dsimp only; omega)
      simp only [go_sem]
      rw [h1]
      try first | rfl | (and_intros <;> first | trivial | rfl | omega)
      done)
   | (have hh : holdsV D p = false := by assumption
      have h1 := hst (by omega)
      unfold pfS at h1
      rw [if_neg (by rw [hh]; simp)] at h1
      refine fin_lp ⟨j + 1, by omega⟩ ?_ (by dsimp only; omega)
      simp only [go_sem]
      rw [h1]
      try first | rfl | (and_intros <;> first | trivial | rfl | omega)
      done)
   | (rw [hend (by omega)]; done)
   | (rw [hend (by omega)]; exact ⟨rfl, rfl, rfl⟩)
   | fail)
end Go.Proofs.YtomdgacmoeohnaaGreat
