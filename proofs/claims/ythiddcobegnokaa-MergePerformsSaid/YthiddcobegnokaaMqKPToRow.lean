/- Operations performed one after the other (plain). -/
import Derived.Test.YthiddcobegnokaaMqKBToKH
import Derived.Test.YthiddcobegnokaaEvTab
import Derived.OpenShut
import Derived.JoinedCond
import Derived.Below
import Derived.ChangeSame
import Derived.ChangeArms
import Derived.WideKeyArgs
set_option linter.unusedSimpArgs false
set_option linter.unusedVariables false
set_option maxRecDepth 100000
set_option maxHeartbeats 4000000
namespace Go.Proofs.Ythiddcobegnokaa
open Go.Ev

theorem ctAt {l : List Cnt} {k i : Nat} {o : Cnt} (hk : k < l.length) : (l.set k o).getD i ct0 = if i = k then o else l.getD i ct0 := by
 rw [List.getD_eq_getElem?_getD, List.getElem?_set, List.getD_eq_getElem?_getD]
 by_cases h : i = k
 · subst h; rw [if_pos rfl, if_pos rfl, if_pos hk]; rfl
 · rw [if_neg (fun e => h e.symm), if_neg h]
/-- Containers that hold certain pieces. -/
structure PInv (c : List Cnt) (n : Nat) (S : Nat → Pce → Prop) (w : List Cnt) : Prop where
 len : w.length = c.length
 same : ∀ k, k < c.length → w.getD k ct0 = setPcs (c.getD k ct0) (w.getD k ct0).pcs
 ok : ∀ k, k < c.length → ctErr (w.getD k ct0) = 0
 sz : ∀ k, k < c.length → (w.getD k ct0).pcs.length ≤ n
 mem : ∀ k, k < c.length → ∀ x, x ∈ (w.getD k ct0).pcs ↔ S k x
theorem pltC_as (x y : Pce) : pltC x.1 y.1 < 0 → ¬ pltC y.1 x.1 < 0 := Cmp.as pltC_cmp x.1 y.1
theorem okOp_pc {o : Opn} (h : okOp o = true) : okPc o.2.2.2.2.2 = true := by
 unfold okOp at h
 simp only [Bool.and_eq_true] at h
 exact h.2
theorem PInv.uniq {c : List Cnt} {n m : Nat} {S : Nat → Pce → Prop} {a b : List Cnt} (ha : PInv c n S a) (hb : PInv c m S b) : a = b := by
 refine List.ext_getElem (by rw [ha.len, hb.len]) fun k h1 h2 => ?_
 have hk : k < c.length := by rw [← ha.len]; exact h1
 have e : ∀ {l : List Cnt} (h : k < l.length), l[k] = l.getD k ct0 := fun h => by simp [h]
 rw [e h1, e h2, ha.same k hk, hb.same k hk]
 congr 1
 exact strict_ext (R := fun a b : Pce => pltC a.1 b.1 < 0) pltC_as (ctErr_iff.1 (ha.ok k hk)).2.2.srt (ctErr_iff.1 (hb.ok k hk)).2.2.srt fun x => (ha.mem k hk x).trans (hb.mem k hk x).symm
theorem PInv.upd {c : List Cnt} {n n' : Nat} {S S' : Nat → Pce → Prop} {w : List Cnt} (h : PInv c n S w) {k : Nat} (hk : k < c.length) {l : List Pce} (hok : ctErr (setPcs (w.getD k ct0) l) = 0) (hsz : l.length ≤ n') (hn : n ≤ n') (hS : ∀ j, j < c.length → j ≠ k → ∀ x, S' j x ↔ S j x) (hm : ∀ x, x ∈ l ↔ S' k x) : PInv c n' S' (w.set k (setPcs (w.getD k ct0) l)) := by
 have hw : k < w.length := by rw [h.len]; exact hk
 refine ⟨by rw [List.length_set]; exact h.len, fun j hj => ?_, fun j hj => ?_, fun j hj => ?_, fun j hj x => ?_⟩ <;> rw [ctAt hw] <;> by_cases e : j = k
 · subst e; rw [if_pos rfl, h.same j hj]; rfl
 · rw [if_neg e]; exact h.same j hj
 · rw [if_pos e]; exact hok
 · rw [if_neg e]; exact h.ok j hj
 · rw [if_pos e]; exact hsz
 · rw [if_neg e]; exact Nat.le_trans (h.sz j hj) hn
 · subst e; rw [if_pos rfl]; exact hm x
 · rw [if_neg e]; exact (h.mem j hj x).trans (hS j hj e x).symm
theorem PInv.imp {c : List Cnt} {n n' : Nat} {S S' : Nat → Pce → Prop} {w : List Cnt} (h : PInv c n S w) (hn : n ≤ n') (hS : ∀ j, j < c.length → ∀ x, S' j x ↔ S j x) : PInv c n' S' w :=
 ⟨h.len, h.same, h.ok, fun k hk => Nat.le_trans (h.sz k hk) hn, fun k hk x => (h.mem k hk x).trans (hS k hk x).symm⟩
theorem hasP_iff {l : List Pce} {p : Plt} : hasP l p = true ↔ ∃ x ∈ l, x.1 = p := by
 unfold hasP
 rw [List.any_eq_true]
 exact ⟨fun ⟨x, h, e⟩ => ⟨x, h, of_decide_eq_true e⟩, fun ⟨x, h, e⟩ => ⟨x, h, decide_eq_true e⟩⟩
theorem remP_mem {l : List Pce} {p : Plt} {x : Pce} : x ∈ remP l p ↔ x ∈ l ∧ x.1 ≠ p := by
 unfold remP
 rw [List.mem_filter]
 by_cases h : x.1 = p <;> simp [h]
theorem insP_mem {l : List Pce} {x y : Pce} : y ∈ insP l x ↔ y = x ∨ y ∈ l := by
 unfold insP
 conv => rhs; rw [← List.take_append_drop (posP l x.1) l]
 rw [List.mem_append, List.mem_append, List.mem_cons]
 constructor
 · rintro (h | h | h)
   · exact .inr (.inl h)
   · exact .inl h
   · exact .inr (.inr h)
 · rintro (h | h | h)
   · exact .inr (.inl h)
   · exact .inl h
   · exact .inr (.inr h)
theorem insP_len (l : List Pce) (x : Pce) : (insP l x).length = l.length + 1 := by
 unfold insP
 have := posP_le l x.1
 rw [List.length_append, List.length_take, List.length_cons, List.length_drop]; omega
theorem insP_srt {l : List Pce} {x : Pce} (hs : PcSrt l) (h : hasP l x.1 = false) : PcSrt (insP l x) := by
 have hle := posP_le l x.1
 have hap := (pw_getD pc0).1 hs
 have hlt : ∀ k, posP l x.1 ≤ k → k < l.length → pltC x.1 (l.getD k pc0).1 < 0 := fun k h1 h2 => by
  have hd := posP_drop l x.1 (by omega)
  have hne : ¬ (l.getD (posP l x.1) pc0).1 = x.1 := fun e => by
   rw [hasP_pos hs, decide_eq_true (by omega : posP l x.1 < l.length), decide_eq_true e] at h; cases h
  have h3 : pltC x.1 (l.getD (posP l x.1) pc0).1 < 0 := by
   have h0 : ¬ pltC (l.getD (posP l x.1) pc0).1 x.1 = 0 := fun e => hne ((pltC_cmp.eq _ _).1 e)
   exact (pltC_cmp.anti _ _).2 (by omega)
  by_cases e : posP l x.1 = k
  · rw [← e]; exact h3
  · exact pltC_cmp.trans _ _ _ h3 (hap (posP l x.1) k (by omega) h2)
 unfold insP PcSrt
 refine List.pairwise_append.2 ⟨hs.sublist (List.take_sublist _ _), List.pairwise_cons.2 ⟨fun y hy => ?_, hs.sublist (List.drop_sublist _ _)⟩, fun a ha b hb => ?_⟩
 · obtain ⟨k, hk, rfl⟩ := getD_pc hy
   rw [List.length_drop] at hk
   rw [List.getD_eq_getElem?_getD, List.getElem?_drop, ← List.getD_eq_getElem?_getD]
   exact hlt _ (by omega) (by omega)
 · obtain ⟨k, hk, rfl⟩ := getD_pc ha
   rw [List.length_take] at hk
   rw [List.getD_eq_getElem?_getD, List.getElem?_take_of_lt (by omega), ← List.getD_eq_getElem?_getD]
   rcases List.mem_cons.1 hb with rfl | hb
   · exact posP_take l b.1 k (by omega)
   · obtain ⟨j, hj, rfl⟩ := getD_pc hb
     rw [List.length_drop] at hj
     rw [List.getD_eq_getElem?_getD (l := List.drop _ _), List.getElem?_drop, ← List.getD_eq_getElem?_getD]
     exact hap k _ (by omega) (by omega)
theorem rem_ok {c : Cnt} (h : ctErr c = 0) (p : Plt) : ctErr (setPcs c (remP c.pcs p)) = 0 := by
 obtain ⟨h1, h2, h3⟩ := ctErr_iff.1 h
 exact ctErr_iff.2 ⟨h1, Nat.le_trans (List.length_filter_le _ _) h2, fun x hx => h3.ok x (List.mem_filter.1 hx).1, h3.srt.filter _⟩
theorem ins_ok {c : Cnt} (h : ctErr c = 0) {x : Pce} (hx : okPc x = true) (hh : hasP c.pcs x.1 = false) (hl : c.pcs.length < 60) : ctErr (setPcs c (insP c.pcs x)) = 0 := by
 obtain ⟨h1, h2, h3⟩ := ctErr_iff.1 h
 refine ctErr_iff.2 ⟨h1, (by show (insP c.pcs x).length ≤ 60; rw [insP_len]; omega), fun y hy => ?_, insP_srt h3.srt hh⟩
 rcases insP_mem.1 hy with rfl | hy
 · exact hx
 · exact h3.ok y hy
theorem forceV_ok {c : Cnt} (h : ctErr c = 0) {x : Pce} (hx : okPc x = true) (hh : hasP c.pcs x.1 = false) (hl : c.pcs.length < 60) : forceV c x = (setPcs c (insP c.pcs x), 0) := by
 unfold forceV
 rw [if_neg (by simp [h]), if_neg (by simp [hx]), if_neg (by simp [hh]), if_neg (by omega)]
theorem removeV_ok {c : Cnt} (h : ctErr c = 0) {p : Plt} (hh : hasP c.pcs p = true) : removeV c p = (setPcs c (remP c.pcs p), 0) := by
 unfold removeV
 rw [if_neg (by simp [h]), if_neg (by simp [hh])]
/-- A piece is taken out of one container. -/
theorem PInv.rem {c : List Cnt} {n : Nat} {S : Nat → Pce → Prop} {w : List Cnt} (h : PInv c n S w) {k : Nat} (hk : k < c.length) {p : Plt} (hh : hasP (w.getD k ct0).pcs p = true) {S' : Nat → Pce → Prop} (hS : ∀ j, j < c.length → j ≠ k → ∀ x, S' j x ↔ S j x) (hm : ∀ x, S' k x ↔ S k x ∧ x.1 ≠ p) :
 (removeV (w.getD k ct0) p).2 = 0 ∧ PInv c n S' (w.set k (removeV (w.getD k ct0) p).1) := by
 rw [removeV_ok (h.ok k hk) hh]
 refine ⟨rfl, h.upd hk (rem_ok (h.ok k hk) p) (Nat.le_trans (List.length_filter_le _ _) (h.sz k hk)) (Nat.le_refl _) hS fun x => ?_⟩
 rw [remP_mem, h.mem k hk, hm]
/-- A piece is put into one container. -/
theorem PInv.ins {c : List Cnt} {n : Nat} {S : Nat → Pce → Prop} {w : List Cnt} (h : PInv c n S w) (hn : n < 60) {k : Nat} (hk : k < c.length) {x : Pce} (hx : okPc x = true) (hh : ∀ y, S k y → y.1 ≠ x.1) {S' : Nat → Pce → Prop} (hS : ∀ j, j < c.length → j ≠ k → ∀ x, S' j x ↔ S j x) (hm : ∀ y, S' k y ↔ y = x ∨ S k y) :
 (forceV (w.getD k ct0) x).2 = 0 ∧ PInv c (n + 1) S' (w.set k (forceV (w.getD k ct0) x).1) := by
 have hb : hasP (w.getD k ct0).pcs x.1 = false := by
  cases e : hasP (w.getD k ct0).pcs x.1
  · rfl
  · obtain ⟨y, hy, e⟩ := hasP_iff.1 e
    exact absurd e (hh y ((h.mem k hk y).1 hy))
 have hl := h.sz k hk
 rw [forceV_ok (h.ok k hk) hx hb (by omega)]
 refine ⟨rfl, h.upd hk (ins_ok (h.ok k hk) hx hb (by omega)) (by rw [insP_len]; omega) (by omega) hS fun y => ?_⟩
 rw [insP_mem, h.mem k hk, hm]
/-- Where the last operation about a piece's plate leaves it. -/
def LastL (m : List Opn) (k : Nat) (x : Pce) : Prop := ∃ o, (aboutP m x.1).getLast? = some o ∧ o.kind = 1 ∧ o.box = (k : Int) + 1 ∧ o.2.2.2.2.2 = x
theorem lastL_nil (k : Nat) (x : Pce) : ¬ LastL [] k x := fun ⟨o, h, _⟩ => by cases h
theorem lastL_eq {m : List Opn} {o : Opn} {k : Nat} {x : Pce} (e : o.plate = x.1) : LastL (m ++ [o]) k x ↔ o.kind = 1 ∧ o.box = (k : Int) + 1 ∧ o.2.2.2.2.2 = x := by
 unfold LastL aboutP
 rw [List.filter_append, List.filter_cons_of_pos (by simp [e]), List.filter_nil, List.getLast?_concat]
 exact ⟨fun ⟨z, h, q⟩ => by cases h; exact q, fun q => ⟨o, rfl, q⟩⟩
theorem lastL_ne {m : List Opn} {o : Opn} {k : Nat} {x : Pce} (e : ¬ o.plate = x.1) : LastL (m ++ [o]) k x ↔ LastL m k x := by
 unfold LastL aboutP
 rw [List.filter_append, List.filter_cons_of_neg (by simp [e]), List.filter_nil, List.append_nil]
theorem lastL_places {l : List Opn} (hv : valV l = 0) (k : Nat) (x : Pce) : LastL l k x ↔ ∃ z ∈ placesV l, z.2.1 = (k : Int) + 1 ∧ z.1 = x := by
 have hlast : ∀ p, aboutP l p ≠ [] → (aboutP l p).getLast? = some ((aboutP l p).getD ((aboutP l p).length - 1) o0) := fun p hp => by
  have hl : 0 < (aboutP l p).length := List.length_pos_iff.2 hp
  rw [List.getLast?_eq_getElem?, List.getD_eq_getElem?_getD, List.getElem?_eq_getElem (by omega)]; rfl
 unfold placesV
 rw [if_neg (by simp [hv])]
 constructor
 · rintro ⟨o, h1, h2, h3, h4⟩
   have hne : aboutP l x.1 ≠ [] := fun e => by rw [e] at h1; cases h1
   have hm : x.1 ∈ sortBy pltC (abK l) := (sortBy_perm _ _).mem_iff.2 ((abK_mem x.1 l).2 (by
    obtain ⟨o, ho⟩ := List.exists_mem_of_ne_nil _ hne
    exact ⟨o, (List.mem_filter.1 ho).1, of_decide_eq_true (List.mem_filter.1 ho).2⟩))
   refine ⟨_, List.mem_map.2 ⟨x.1, hm, rfl⟩, ?_, ?_⟩
   all_goals
    rw [hlast _ hne] at h1
    have h1 := Option.some.inj h1
    unfold placeV
    dsimp only
    rw [h1]
   · rw [if_pos h2]; exact h3
   · exact h4
 · rintro ⟨z, hz, h2, rfl⟩
   obtain ⟨p, hp, rfl⟩ := List.mem_map.1 hz
   have hne := about_ne hp
   have hl : 0 < (aboutP l p).length := List.length_pos_iff.2 hne
   have hm : (aboutP l p).getD ((aboutP l p).length - 1) o0 ∈ aboutP l p := getD_mem (by omega)
   have hp1 : (placeV (aboutP l p)).1.1 = p := of_decide_eq_true (List.mem_filter.1 hm).2
   refine ⟨_, by rw [hp1]; exact hlast p hne, ?_⟩
   unfold placeV at h2
   dsimp only at h2
   split at h2
   · rename_i q
     exact ⟨q, h2, rfl⟩
   · omega
/-- Numbered one after the other. -/
def NumC (c : List Cnt) : Prop := ∀ k, k < c.length → (c.getD k ct0).num = (k : Int) + 1
theorem numIdx_at : ∀ {c : List Cnt}, NumC c → ∀ {b : Int}, 1 ≤ b → b ≤ c.length → numIdx c b = b - 1 := by
 intro c hc b h1 h2
 unfold numIdx idxV
 have : c.findIdx? (fun c => decide (c.num = b)) = some (b - 1).toNat := by
  rw [List.findIdx?_eq_some_iff_getElem]
  have e : ∀ {k : Nat} (h : k < c.length), c[k] = c.getD k ct0 := fun h => by simp [h]
  refine ⟨by omega, ?_, fun j hj => ?_⟩
  · rw [e, hc _ (by omega)]; exact decide_eq_true (by omega)
  · rw [e (by omega), hc _ (by omega)]; simp; omega
 rw [this]
 show (((b - 1).toNat : Nat) : Int) = _
 omega
theorem forceAll_ok {c : List Cnt} (hc : NumC c) : ∀ (P : List Plc) (n : Nat) (S : Nat → Pce → Prop) (w : List Cnt), PInv c n S w → n + P.length ≤ 60 → (∀ z ∈ P, 0 ≤ z.2.1 ∧ z.2.1 ≤ c.length ∧ okPc z.1 = true) → P.Pairwise (fun y z => y.1.1 ≠ z.1.1) → (∀ z ∈ P, ∀ k, k < c.length → ∀ y, S k y → y.1 ≠ z.1.1) →
 (forceAll P w).2 = 0 ∧ PInv c (n + P.length) (fun k x => S k x ∨ ∃ z ∈ P, z.2.1 = (k : Int) + 1 ∧ z.1 = x) (forceAll P w).1
 | [], n, S, w, h, _, _, _, _ => ⟨rfl, h.imp (by simp) fun j hj x => by simp⟩
 | z :: P, n, S, w, h, hn, hP, hd, hS => by
   have hz := hP z (List.mem_cons_self ..)
   have hP' := fun y hy => hP y (List.mem_cons_of_mem z hy)
   rw [List.length_cons] at hn
   obtain ⟨hd1, hd2⟩ := List.pairwise_cons.1 hd
   by_cases h0 : z.2.1 = 0
   · obtain ⟨a, b⟩ := forceAll_ok hc P n S w h (by omega) hP' hd2 fun y hy => hS y (List.mem_cons_of_mem z hy)
     have e : forceAll (z :: P) w = forceAll P w := by rw [forceAll, if_pos h0]
     rw [e]
     refine ⟨a, b.imp (by rw [List.length_cons]; omega) fun j hj x => or_congr Iff.rfl ?_⟩
     constructor
     · rintro ⟨y, hy, q⟩
       rcases List.mem_cons.1 hy with rfl | hy
       · omega
       · exact ⟨y, hy, q⟩
     · rintro ⟨y, hy, q⟩; exact ⟨y, List.mem_cons_of_mem _ hy, q⟩
   · have hk : (z.2.1 - 1).toNat < c.length := by omega
     have hnw : NumC w := fun k hk => by
      rw [h.len] at hk
      rw [h.same k hk]; exact hc k hk
     have hi : (numIdx w z.2.1).toNat = (z.2.1 - 1).toNat := by rw [numIdx_at hnw (by omega) (by rw [h.len]; omega)]
     obtain ⟨a, b⟩ := h.ins (by omega) hk (x := z.1) hz.2.2 (hS z (List.mem_cons_self ..) _ hk) (S' := fun k y => S k y ∨ z.2.1 = (k : Int) + 1 ∧ z.1 = y)
      (fun j hj e x => by constructor
                          · rintro (q | q)
                            · exact q
                            · omega
                          · exact .inl)
      (fun y => by constructor
                   · rintro (q | q)
                     · exact .inr q
                     · exact .inl q.2.symm
                   · rintro (rfl | q)
                     · exact .inr ⟨by omega, rfl⟩
                     · exact .inl q)
     obtain ⟨a2, b2⟩ := forceAll_ok hc P (n + 1) _ _ b (by omega) hP' hd2 fun y hy k hk u hu => by
      rcases hu with hu | hu
      · exact hS y (List.mem_cons_of_mem z hy) k hk u hu
      · rw [← hu.2]; exact hd1 y hy
     have e : forceAll (z :: P) w = forceAll P (w.set (z.2.1 - 1).toNat (forceV (w.getD (z.2.1 - 1).toNat ct0) z.1).1) := by
      rw [forceAll, if_neg h0, hi, if_neg (fun q => q a)]
     rw [e]
     refine ⟨a2, b2.imp (by rw [List.length_cons]; omega) fun j hj x => ?_⟩
     constructor
     · rintro (q | ⟨y, hy, q⟩)
       · exact .inl (.inl q)
       · rcases List.mem_cons.1 hy with rfl | hy
         · exact .inl (.inr q)
         · exact .inr ⟨y, hy, q⟩
     · rintro ((q | q) | ⟨y, hy, q⟩)
       · exact .inl q
       · exact .inr ⟨z, List.mem_cons_self .., q⟩
       · exact .inr ⟨y, List.mem_cons_of_mem _ hy, q⟩
/-- Five containers without pieces. -/
structure FiveC (c : List Cnt) : Prop where
 len : c.length ≤ 5
 at_ : ∀ k, k < c.length → (c.getD k ct0).num = (k : Int) + 1 ∧ (c.getD k ct0).pcs = [] ∧ propC (c.getD k ct0) = true ∧ ((c.getD k ct0).pos = 0 ∨ (c.getD k ct0).pos = (k : Int) + 1)
theorem FiveC.num {c : List Cnt} (h : FiveC c) : NumC c := fun k hk => (h.at_ k hk).1
theorem FiveC.ok {c : List Cnt} (h : FiveC c) : CtsOk c := by
 have hl := h.len
 refine ⟨by omega, fun c hc => ?_, (pw_getD ct0).2 fun a b hab hb => ?_, (pw_getD ct0).2 fun a b hab hb => ?_, (pw_getD ct0).2 fun a b hab hb => ?_⟩
 · obtain ⟨i, hi, rfl⟩ := getD_ct hc
   obtain ⟨_, h2, h3, _⟩ := h.at_ i hi
   rw [h2]
   exact ⟨h3, (by show (0 : Nat) ≤ 60; omega), fun x hx => (by cases hx), .nil⟩
 · rw [(h.at_ a (by omega)).1, (h.at_ b hb).1]; omega
 · intro h1 h2
   rcases (h.at_ a (by omega)).2.2.2 with q | q <;> rcases (h.at_ b hb).2.2.2 with r | r <;> omega
 · rw [(h.at_ a (by omega)).2.1]; intro x hx; cases hx
def padC (n : Nat) : Cnt := ((n : Int) + 1, fltsV 0, 31, 90, 3, 0, 0, [])
theorem FiveC.push {c : List Cnt} (h : FiveC c) (hl : c.length < 5) : FiveC (c ++ [padC c.length]) := by
 refine ⟨by simp; omega, fun k hk => ?_⟩
 rw [List.length_append, List.length_singleton] at hk
 by_cases e : k < c.length
 · rw [List.getD_eq_getElem?_getD, List.getElem?_append_left e, ← List.getD_eq_getElem?_getD]; exact h.at_ k e
 · have e : k = c.length := by omega
   subst e
   rw [List.getD_eq_getElem?_getD, List.getElem?_append_right (Nat.le_refl _), Nat.sub_self]
   refine ⟨rfl, rfl, ?_, .inl rfl⟩
   show propC (padC c.length) = true
   unfold propC inV padC
   simp only [Cnt.num, Cnt.flt, Cnt.cats, Cnt.lim, Cnt.most, Cnt.pos, Cnt.arm, fltsV_ok, Bool.and_eq_true, decide_eq_true_eq, and_true]
   omega
theorem FiveC.of {c : List Cnt} (h : EmpR 5 c) : FiveC c := by
 have hl := h.len
 refine ⟨by omega, fun k hk => ?_⟩
 have hp := (h.ok (by omega)).ok _ (getD_mem (d := ct0) hk)
 obtain ⟨j, _, e⟩ := h.at_ k hk
 rw [e] at hp ⊢
 exact ⟨rfl, rfl, hp.1, .inr rfl⟩
theorem FiveC.start {c : List Cnt} (h : FiveC c) : PInv c 0 (LastL []) c := by
 refine ⟨rfl, fun k hk => ?_, fun k hk => ctErr_iff.2 (h.ok.ok _ (getD_mem hk)), fun k hk => ?_, fun k hk x => ?_⟩
 · rfl
 · rw [(h.at_ k hk).2.1]; exact Nat.le_refl _
 · rw [(h.at_ k hk).2.1]
   exact ⟨fun q => (by cases q), fun q => absurd q (lastL_nil k x)⟩
theorem applyV_five {c : List Cnt} {l : List Opn} (h : FiveC c) (h5 : c.length = 5) (hl : OpsR 5 l) : (applyV c l).2 = 0 ∧ PInv c 60 (LastL l) (applyV c l).1 := by
 have hlen := hl.len
 have hv : valV l = 0 := hl.okl.val (by omega)
 have hnum : numsIn c l = true := List.all_eq_true.2 fun o ho => by
  have hb := hl.bx o ho
  have := numIdx_at h.num (b := o.box) hb.1 (by rw [h5]; exact hb.2)
  have hb1 : 1 ≤ o.box := hb.1
  exact decide_eq_true (by omega)
 have hclr : c.map (clrC ((placesV l).map (fun x => x.1.1))) = c := by
  conv => rhs; rw [← List.map_id c]
  refine List.map_congr_left fun o ho => ?_
  obtain ⟨k, hk, rfl⟩ := getD_ct ho
  have := (h.at_ k hk).2.1
  unfold clrC
  rw [this]
  show setPcs _ [] = _
  rw [← this]; rfl
 have e : applyV c l = forceAll (placesV l) c := by
  unfold applyV
  rw [if_neg (by simp [checkV_iff.2 h.ok]), if_neg (by simp [hv]), if_neg (by simp [hnum]), hclr]
 have hkey : ∀ p, p ∈ sortBy pltC (abK l) → (placeV (aboutP l p)).1.1 = p ∧ ∃ o ∈ l, (placeV (aboutP l p)).1 = o.2.2.2.2.2 := fun p hp => by
  have hne := about_ne hp
  have hl : 0 < (aboutP l p).length := List.length_pos_iff.2 hne
  have hm : (aboutP l p).getD ((aboutP l p).length - 1) o0 ∈ aboutP l p := getD_mem (by omega)
  exact ⟨of_decide_eq_true (List.mem_filter.1 hm).2, _, (List.mem_filter.1 hm).1, rfl⟩
 have hpl : (placesV l).length ≤ 30 := by
  unfold placesV
  rw [if_neg (by simp [hv]), List.length_map]
  exact Nat.le_trans (sortBy_len l) hlen
 obtain ⟨a, b⟩ := forceAll_ok h.num (placesV l) 0 (LastL []) c h.start (by omega) (fun z hz => by
  have h1 : okPc z.1 = true := by
   unfold placesV at hz
   rw [if_neg (by simp [hv])] at hz
   obtain ⟨p, hp, rfl⟩ := List.mem_map.1 hz
   obtain ⟨_, o, ho, e⟩ := hkey p hp
   rw [e]; exact okOp_pc (hl.okl.ok o ho)
  rcases placesV_box hz with q | ⟨o, ho, q⟩
  · exact ⟨by omega, by omega, h1⟩
  · have hb := hl.bx o ho
    have hb1 : 1 ≤ o.box := hb.1
    have hb2 : o.box ≤ 5 := hb.2
    exact ⟨by omega, by omega, h1⟩) (by
  unfold placesV
  rw [if_neg (by simp [hv])]
  have hsub : ∀ L : List Plt, (∀ p ∈ L, p ∈ sortBy pltC (abK l)) → L.Nodup → (L.map (fun p => placeV (aboutP l p))).Pairwise (fun y z => y.1.1 ≠ z.1.1) := fun L hL hn => by
   rw [List.pairwise_map]
   exact List.Pairwise.imp_of_mem (fun {p q} hp hq e => by rw [(hkey p (hL p hp)).1, (hkey q (hL q hq)).1]; exact e) hn
  exact hsub _ (fun p hp => hp) ((sortBy_perm pltC (abK l)).nodup_iff.2 (abK_nodup l)))
  fun z hz k hk y hy => absurd hy (lastL_nil k y)
 rw [e]
 refine ⟨a, b.imp (by omega) fun j hj x => ?_⟩
 rw [lastL_places hv]
 exact ⟨.inr, fun q => q.resolve_left (lastL_nil j x)⟩
end Go.Proofs.Ythiddcobegnokaa

/- The contract of MergePerforms. -/
set_option linter.unusedSimpArgs false
set_option linter.unusedVariables false
set_option maxRecDepth 100000
set_option maxHeartbeats 8000000
namespace Go.Proofs.Ythiddcobegnokaa
open Go.Ev

def con9 : Con := { ps := [.d false (.sl (.int .i64))], rs := [.d false .bool], pre := fun _ => True, out := fun x => (true, ()), nw := id }
theorem c9 : CtrOk Try.prog 9 con9.ctr :=
 con_sound (G := ⟨[(10, con10.ctr), (32, con32.ctr), (33, con33.ctr), (34, con34.ctr), (35, con35.ctr), (36, con36.ctr), (37, con37.ctr), (38, con38.ctr), (17, con17.ctr)], [(31, con31.rctr), (11, con11.rctr)], [], []⟩) tab_ok (EnvOk.cons c10 has10 (EnvOk.cons c32 has32 (EnvOk.cons c33 has33 (EnvOk.cons c34 has34 (EnvOk.cons c35 has35 (EnvOk.cons c36 has36 (EnvOk.cons c37 has37 (EnvOk.cons c38 has38 (EnvOk.cons c17 has17 (EnvOk.rcons c31 has31 (EnvOk.rcons c11 has11 EnvOk.nil))))))))))) rfl Try.func9 rfl con9 20283652379985555908650193714685 (by kernel_rfl) (by decide) (by decide) rfl (by decide) rfl (by
  rintro ⟨(src : List Int), _⟩ hpre hwf X hT hG hk hK
  (simp -implicitDefEqProofs only [go_sem, Bool.not_eq_true', Bool.not_eq_false', Bool.or_eq_true, Bool.or_eq_false_iff, Bool.and_eq_true, Bool.and_eq_false_iff, decide_eq_true_eq, decide_eq_false_iff_not, Classical.not_not, not_or, maxLen, con9, con10, con32, con33, con34, con35, con36, con37, con38, con17, con31, con11, hT, hG, hk, hK, Try.results9] at hwf ⊢); (try simp (disch := decide +kernel) only [drawn, true_and, and_true])
  clear hwf
  refine fun _ => ⟨by decide, ?_⟩
  rintro ⟨⟨(emp : List Cnt), _⟩, ⟨⟨(s1 : List Int), (a1 : Int)⟩, _⟩⟩ hy1
  obtain ⟨⟨h1, hemp⟩, -⟩ := hy1
  have h1 : 0 ≤ a1 := h1
  refine ⟨⟨h1, by decide, by decide, by decide, by decide⟩, ?_⟩
  rintro ⟨⟨(ops : List Opn), _⟩, ⟨⟨(s2 : List Int), (a2 : Int)⟩, _⟩⟩ hy2
  obtain ⟨⟨-, hops⟩, -⟩ := hy2
  have hops : OpsR 5 ops := hops
  dsimp only
  refine evk_loop ⟨{ c : List Cnt // FiveC c }, 1000, fun q => [(4, .one (.row 64)), (5, .one (.sl yOP ops false))], fun q => [(64, .row 64 yCT q.1)], fun q => 5 - q.1.length⟩ ⟨emp, FiveC.of hemp⟩ ?_ ?_
  · simp only [go_sem]
    try (first | rfl | exact ⟨rfl, rfl⟩ | (and_intros <;> first | trivial | rfl | omega))
  · rintro ⟨c, (hc : FiveC c)⟩
    (simp -implicitDefEqProofs only [go_sem, Bool.not_eq_true', Bool.not_eq_false', Bool.or_eq_true, Bool.or_eq_false_iff, Bool.and_eq_true, Bool.and_eq_false_iff, decide_eq_true_eq, decide_eq_false_iff_not, Classical.not_not, not_or, maxLen, con9, con10, con32, con33, con34, con35, con36, con37, con38, con17, con31, con11, hT, hG, hk, hK, Try.results9]); (try simp (disch := decide +kernel) only [drawn, true_and, and_true])
    have hlc := hc.len
    refine fun _ => ⟨fun hlt _ => ⟨by omega, fun _ => ⟨by omega, ?_⟩⟩, fun hlt => ?_⟩
    · refine fin_lp ⟨c ++ [padC c.length], hc.push (by omega)⟩ ?_ (by dsimp only; rw [List.length_append, List.length_singleton]; omega)
      simp only [go_sem]
      try (first | rfl | exact ⟨rfl, rfl⟩ | (and_intros <;> first | trivial | rfl | omega))
    · have h5 : c.length = 5 := by omega
      obtain ⟨ha, hb⟩ := applyV_five hc h5 hops
      have hz : ∀ o ∈ c, o.pcs.length ≤ 100000 := fun o ho => by obtain ⟨k, hk, rfl⟩ := getD_ct ho; rw [(hc.at_ k hk).2.1]; exact Nat.zero_le _
      generalize hG2 : applyV c ops = G at ha hb ⊢
      obtain ⟨g, ge⟩ := G
      have ha : ge = 0 := ha
      have hb : PInv c 60 (LastL ops) g := hb
      have hgl := hb.len
      subst ha
      dsimp only
      refine fun _ _ _ => ⟨fun q => q.elim (fun q => q rfl) (fun q => q (by omega)), fun _ => ⟨⟨by omega, hz⟩, fun _ _ => ?_⟩⟩
      refine evk_loop ⟨{ q : List Cnt × Nat // q.2 ≤ ops.length ∧ PInv c q.2 (LastL (ops.take q.2)) q.1 }, 1000, fun q => [(6, .one (.sl yCT g false)), (8, .one (.row 64)), (50, .one (.sl yOP ops false)), (51, .one (.int .i64 ops.length)), (52, .one (.int .i64 q.1.2))], fun q => [(64, .row 64 yCT q.1.1)], fun q => ops.length - q.1.2⟩ ⟨(c, 0), Nat.zero_le _, hc.start⟩ ?_ ?_
      · simp only [go_sem]
        try (first | rfl | exact ⟨rfl, rfl⟩ | (and_intros <;> first | trivial | rfl | omega))
      · rintro ⟨⟨w, i⟩, (hi : i ≤ ops.length), (hw : PInv c i (LastL (ops.take i)) w)⟩
        (simp -implicitDefEqProofs only [go_sem, Bool.not_eq_true', Bool.not_eq_false', Bool.or_eq_true, Bool.or_eq_false_iff, Bool.and_eq_true, Bool.and_eq_false_iff, decide_eq_true_eq, decide_eq_false_iff_not, Classical.not_not, not_or, maxLen, con9, con10, con32, con33, con34, con35, con36, con37, con38, con17, con31, con11, hT, hG, hk, hK, Try.results9]); (try simp (disch := decide +kernel) only [drawn, true_and, and_true])
        obtain ⟨o, ho⟩ : ∃ o, ops.getD (i : Int).toNat (0, 0, 0, 0, 0, (0, 0, 0), 0, 0) = o := ⟨_, rfl⟩
        try simp only [ho]
        have hwl := hw.len
        refine ⟨fun hlt => ⟨⟨by omega, by omega⟩, fun _ _ _ => ?_⟩, fun hge => ?_⟩
        · have hoi : ops.getD i o0 = o := ho
          have hom : o ∈ ops := by rw [← hoi]; exact getD_mem (by omega)
          have hbx := hops.bx o hom
          have hpc := okOp_pc (hops.okl.ok o hom)
          have hkd := okOp_kind (hops.okl.ok o hom)
          have hi30 := hops.len
          have htk : ops.take (i + 1) = ops.take i ++ [o] := by rw [List.take_succ_eq_append_getElem (by omega), ← getD_at (by omega), hoi]
          clear ho hoi
          obtain ⟨d1, (d2 : Int), (d3 : Int), (d4 : Int), (d5 : Int), ⟨(p1 : Int), (p2 : Int), (p3 : Int)⟩, (e1 : Int), (e2 : Int)⟩ := o
          refine evk_loop ⟨{ q : List Cnt × Nat // q.2 ≤ 5 ∧ PInv c i (fun k x => LastL (ops.take i) k x ∧ (k < q.2 → x.1 ≠ (p1, p2, p3))) q.1 }, 1000, fun q => [(6, .one (.sl yCT g false)), (8, .one (.row 64)), (10, .one (.loc 70 0)), (50, .one (.sl yOP ops false)), (51, .one (.int .i64 ops.length)), (52, .one (.int .i64 i)), (57, .one (.int .i64 5)), (58, .one (.int .i64 q.1.2))], fun q => [(70, .cells 37 [.int .i64 d1, .int .i64 d2, .int .i64 d3, .int .i64 d4, .int .i64 d5, .int .i64 p1, .int .i64 p2, .int .i64 p3, .int .i64 e1, .int .i64 e2]), (64, .row 64 yCT q.1.1)], fun q => 5 - q.1.2⟩ ⟨(w, 0), Nat.zero_le _, hw.imp (Nat.le_refl _) fun j hj x => by simp⟩ ?_ ?_
          · rw [show w.length = 5 by omega]
            simp only [go_sem]
            try (first | rfl | exact ⟨rfl, rfl⟩ | (and_intros <;> first | trivial | rfl | omega))
          · rintro ⟨⟨w2, j⟩, (hj : j ≤ 5), (hw2 : PInv c i (fun k x => LastL (ops.take i) k x ∧ (k < j → x.1 ≠ (p1, p2, p3))) w2)⟩
            (simp -implicitDefEqProofs only [go_sem, Bool.not_eq_true', Bool.not_eq_false', Bool.or_eq_true, Bool.or_eq_false_iff, Bool.and_eq_true, Bool.and_eq_false_iff, decide_eq_true_eq, decide_eq_false_iff_not, Classical.not_not, not_or, maxLen, con9, con10, con32, con33, con34, con35, con36, con37, con38, con17, con31, con11, hT, hG, hk, hK, Try.results9]); (try simp (disch := decide +kernel) only [drawn, true_and, and_true])
            have hwl2 := hw2.len
            obtain ⟨u, hu⟩ : ∃ u, w2.getD (j : Int).toNat (0, (ByteArray.empty, 0, ByteArray.empty, 0), 0, 0, 0, 0, 0, []) = u := ⟨_, rfl⟩
            have hu2 : w2.getD j ct0 = u := hu
            obtain ⟨v, hv⟩ : ∃ v, w2.getD (d5 - 1).toNat (0, (ByteArray.empty, 0, ByteArray.empty, 0), 0, 0, 0, 0, 0, []) = v := ⟨_, rfl⟩
            have hv2 : w2.getD (d5 - 1).toNat ct0 = v := hv
            try simp only [hu, hv]
            have key1 : j < 5 → holdsV u (p1, p2, p3) = false → PInv c i (fun k x => LastL (ops.take i) k x ∧ (k < j + 1 → x.1 ≠ (p1, p2, p3))) w2 := fun hj5 hf => by
             refine hw2.imp (Nat.le_refl _) fun k hk x => ⟨fun q => ⟨q.1, fun h => q.2 (by omega)⟩, fun q => ⟨q.1, fun h => ?_⟩⟩
             by_cases e : k = j
             · subst e
               intro e2
               rw [holdsV_has, ← hu2] at hf
               have := hasP_iff.2 ⟨x, (hw2.mem k hk x).2 ⟨q.1, fun h => (by omega)⟩, e2⟩
               rw [hf] at this; cases this
             · exact q.2 (by omega)
            have key2 : j < 5 → holdsV u (p1, p2, p3) = true → (removeV u (p1, p2, p3)).2 = 0 ∧ PInv c i (fun k x => LastL (ops.take i) k x ∧ (k < j + 1 → x.1 ≠ (p1, p2, p3))) (w2.set j (removeV u (p1, p2, p3)).1) := fun hj5 ht => by
             rw [holdsV_has] at ht
             rw [← hu2] at ht ⊢
             refine hw2.rem (by omega) ht (fun k hk e x => ⟨fun q => ⟨q.1, fun h => q.2 (by omega)⟩, fun q => ⟨q.1, fun h => q.2 (by omega)⟩⟩) fun x => ⟨fun q => ⟨⟨q.1, fun h => (by omega)⟩, q.2 (by omega)⟩, fun q => ⟨q.1.1, fun _ => q.2⟩⟩
            have hop : Opn.plate (d1, d2, d3, d4, d5, (p1, p2, p3), e1, e2) = (p1, p2, p3) := rfl
            have key3 : ¬ j < 5 → d4 = 2 → PInv c (i + 1) (LastL (ops.take (i + 1))) w2 := fun hj5 hd => by
             refine hw2.imp (by omega) fun k hk x => ?_
             rw [htk]
             by_cases e : (p1, p2, p3) = x.1
             · rw [lastL_eq (by rw [hop]; exact e)]
               exact ⟨fun q => absurd (show d4 = 1 from q.1) (by omega), fun q => absurd e.symm (q.2 (by omega))⟩
             · rw [lastL_ne (by rw [hop]; exact e)]
               exact ⟨fun q => ⟨q, fun _ h => e h.symm⟩, fun q => q.1⟩
            have hb1 : 1 ≤ d5 := hbx.1
            have hb2 : d5 ≤ 5 := hbx.2
            have key4 : ¬ j < 5 → ¬ d4 = 2 → (forceV v ((p1, p2, p3), e1, e2)).2 = 0 ∧ PInv c (i + 1) (LastL (ops.take (i + 1))) (w2.set (d5 - 1).toNat (forceV v ((p1, p2, p3), e1, e2)).1) := fun hj5 hd => by
             have hd1 : d4 = 1 := hkd.resolve_right hd
             rw [← hv2]
             refine hw2.ins (by omega) (by omega) hpc (fun y hy => hy.2 (by omega)) (fun k hk e x => ?_) fun y => ?_
             · rw [htk]
               by_cases e : (p1, p2, p3) = x.1
               · rw [lastL_eq (by rw [hop]; exact e)]
                 exact ⟨fun q => absurd (show d5 = (k : Int) + 1 from q.2.1) (by omega), fun q => absurd e.symm (q.2 (by omega))⟩
               · rw [lastL_ne (by rw [hop]; exact e)]
                 exact ⟨fun q => ⟨q, fun _ h => e h.symm⟩, fun q => q.1⟩
             · rw [htk]
               by_cases e : (p1, p2, p3) = y.1
               · rw [lastL_eq (by rw [hop]; exact e)]
                 exact ⟨fun q => .inl (Eq.symm q.2.2), fun q => q.elim (fun q => ⟨hd1, (by show d5 = _; omega), q.symm⟩) fun q => absurd e.symm (q.2 (by omega))⟩
               · rw [lastL_ne (by rw [hop]; exact e)]
                 exact ⟨fun q => .inr ⟨q, fun _ h => e h.symm⟩, fun q => q.elim (fun q => absurd (by rw [q]) e) fun q => q.1⟩
            generalize removeV u (p1, p2, p3) = R at key2 ⊢
            generalize forceV v ((p1, p2, p3), e1, e2) = F at key4 ⊢
            obtain ⟨r, re⟩ := R
            obtain ⟨f, fe⟩ := F
            have key2 : j < 5 → holdsV u (p1, p2, p3) = true → re = 0 ∧ PInv c i (fun k x => LastL (ops.take i) k x ∧ (k < j + 1 → x.1 ≠ (p1, p2, p3))) (w2.set j r) := key2
            have key4 : ¬ j < 5 → ¬ d4 = 2 → fe = 0 ∧ PInv c (i + 1) (LastL (ops.take (i + 1))) (w2.set (d5 - 1).toNat f) := key4
            clear hpc hkd htk hom hbx
            refine ⟨fun hjl => ⟨⟨by omega, by omega⟩, fun _ => ⟨⟨by omega, by omega⟩, fun _ => ⟨fun hf => ⟨by omega, ?_⟩, fun ht => ?_⟩⟩⟩, fun hge => ?_⟩
            · refine fin_lp ⟨(w2, j + 1), (by show j + 1 ≤ 5; omega), key1 (by omega) hf⟩ ?_ (by dsimp only; omega)
              simp only [go_sem]
              try (first | rfl | exact ⟨rfl, rfl⟩ | (and_intros <;> first | trivial | rfl | omega))
            · obtain ⟨hre, k2⟩ := key2 (by omega) ht
              subst hre
              dsimp only
              have eJ : (j : Int).toNat = j := by omega
              try simp only [eJ]
              clear key1 key2 key3 key4 ht
              (repeat' (with_reducible (first | refine And.intro ?_ ?_ | intro _))) <;> (try (first | with_reducible (first | done | assumption | omega | contradiction) | decide))
              all_goals first
               | omega
               | (refine fin_lp ⟨(w2.set j r, j + 1), (by show j + 1 ≤ 5; omega), k2⟩ ?_ (by dsimp only; omega)
                  simp only [go_sem]
                  try (first | rfl | exact ⟨rfl, rfl⟩ | (and_intros <;> first | trivial | rfl | omega))
                  done)
               | fail
            · have k3 := key3 (by omega)
              have k4 := key4 (by omega)
              clear key1 key2 key3 key4
              refine ⟨fun hd => ⟨by omega, ?_⟩, fun hd => ?_⟩
              · refine fin_lp ⟨(w2, i + 1), (by show i + 1 ≤ ops.length; omega), k3 hd⟩ ?_ (by dsimp only; omega)
                simp only [go_sem]
                try (first | rfl | exact ⟨rfl, rfl⟩ | (and_intros <;> first | trivial | rfl | omega))
              · obtain ⟨hfe, k5⟩ := k4 hd
                subst hfe
                dsimp only
                (repeat' (with_reducible (first | refine And.intro ?_ ?_ | intro _))) <;> (try (first | with_reducible (first | done | assumption | omega | contradiction) | decide))
                all_goals first
                 | omega
                 | (refine fin_lp ⟨(w2.set (d5 - 1).toNat f, i + 1), (by show i + 1 ≤ ops.length; omega), k5⟩ ?_ (by dsimp only; omega)
                    simp only [go_sem]
                    try (first | rfl | exact ⟨rfl, rfl⟩ | (and_intros <;> first | trivial | rfl | omega))
                    done)
                 | fail
        · have e : i = ops.length := by omega
          subst e
          rw [List.take_length] at hw
          exact hb.uniq hw)
end Go.Proofs.Ythiddcobegnokaa

/- The rows: what the arguments read as; a law's contract gives its row. -/
set_option linter.unusedSimpArgs false
set_option linter.unusedVariables false
namespace Go.Ev
open Go.RowKit Go.WideShapes Go.ChangeShapes

/-- A type of the program is a type of plain data. -/
def tyB (P : Program) : Nat → TypeId → Ty → Bool
 | 0, _, _ => false
 | d + 1, t, u => decide (P.cellsOf t = u.n) && decide (0 < u.n) && (match P.underlying t with
   | some (.struct fs) => tyFs (tyB P d) fs.toList 0 u
   | some (.int k) => (match u with | .int k' => decide (k = k') | _ => false)
   | some .bool => (match u with | .bool => true | _ => false)
   | some .string => (match u with | .str => true | _ => false)
   | some (.slice e) => (match u with | .sl v => tyB P d e v | _ => false)
   | _ => false)
where tyFs (f : TypeId → Ty → Bool) : List Field → Nat → Ty → Bool
 | [], _, _ => false
 | [x], off, u => decide (x.offset = off) && f x.type u
 | x :: y :: xs, off, .pair a b => decide (x.offset = off) && f x.type a && tyFs f (y :: xs) (off + a.n) b
 | _, _, _ => false

/-- The size of data. -/
def sz : (t : Ty) → t.den → Nat
 | .int _, _ => 1
 | .bool, _ => 1
 | .str, s => s.size + 1
 | .unit, _ => 0
 | .sl t, xs => (xs.map (sz t)).sum + 1
 | .pair a b, p => sz a p.1 + sz b p.2

structure Bulk {H : Type} (B : DataW H → Nat) (BA : List (DataW H) → Nat) : Prop where
 lit : ∀ l, 1 ≤ B (.lit l)
 str : ∀ b, b.length + 1 ≤ B (.lit (.string b))
 nil : 1 ≤ B .nil
 sl : ∀ a b, BA a + 1 ≤ B (.slice a b)
 agg : ∀ a, BA a ≤ B (.agg a)
 cons : ∀ d r, BA (d :: r) = B d + BA r

section
variable {H : Type} {enc : TypeId × Value → H} {P : Program} {w : World} {B : DataW H → Nat} {BA : List (DataW H) → Nat}

theorem mapM_at {α β : Type} {f : α → Option β} : ∀ {l : List α} {r : List β}, l.mapM f = some r → r.length = l.length ∧ ∀ (i : Nat) (x : α) (y : β), l[i]? = some x → r[i]? = some y → f x = some y
 | [], r, h => by simp at h; subst h; exact ⟨rfl, fun i x y h => by simp at h⟩
 | a :: l, r, h => by
   rw [List.mapM_cons] at h
   cases hf : f a with
   | none => rw [hf] at h; cases h
   | some b =>
     rw [hf] at h
     cases hl : l.mapM f with
     | none => simp only [hl] at h; cases h
     | some bs =>
       simp only [hl] at h
       cases h
       obtain ⟨h1, h2⟩ := mapM_at hl
       refine ⟨by simp [h1], fun i x y hx hy => ?_⟩
       cases i with
       | zero => simp at hx hy; subst hx; subst hy; exact hf
       | succ i => simp at hx hy; exact h2 i x y hx hy

theorem cells?_spec {a : Addr} {n : Nat} {cs : List Value} (h : w.cells? 0 a n = some cs) : cs.length = n ∧ ∀ j u, cs[j]? = some u → w.cell? (a.add j) = some u := by
 unfold World.cells? at h
 rw [if_pos (Nat.zero_le _)] at h
 obtain ⟨h1, h2⟩ := mapM_at h
 refine ⟨by simpa using h1, fun j u hu => ?_⟩
 have hj : j < cs.length := (List.getElem?_eq_some_iff.1 hu).1
 have hjn : j < n := by simp at h1; omega
 exact h2 j j u (by simp [hjn]) hu

theorem sum_le {B : DataW H → Nat} {BA : List (DataW H) → Nat} (hB : Bulk B BA) {t : Ty} : ∀ (ys : List t.den) (ds : List (DataW H)), ys.length = ds.length → (∀ (i : Nat) (y : t.den) (d : DataW H), ys[i]? = some y → ds[i]? = some d → sz t y ≤ B d) → (ys.map (sz t)).sum ≤ BA ds
 | [], ds, _, _ => by simp
 | y :: ys, [], h, _ => by simp at h
 | y :: ys, d :: ds, h, hs => by
   have h0 := hs 0 y d rfl rfl
   have := sum_le hB ys ds (by simpa using h) (fun i y d hy hd => hs (i + 1) y d (by simpa using hy) (by simpa using hd))
   simp only [List.map_cons, List.sum_cons, hB.cons]
   omega

theorem roAll_mk {α : Type} {r : α → List Value → Prop} : ∀ (ys : List α) (cs : List (List Value)), ys.length = cs.length → (∀ (i : Nat) (y : α) (c : List Value), ys[i]? = some y → cs[i]? = some c → r y c) → roAll r ys cs.flatten
 | [], [], _, _ => rfl
 | [], _ :: _, h, _ => by simp at h
 | _ :: _, [], h, _ => by simp at h
 | y :: ys, c :: cs, h, hr => ⟨c, cs.flatten, by simp, hr 0 y c rfl rfl, roAll_mk ys cs (by simpa using h) (fun i z d hz hd => hr (i + 1) z d (by simpa using hz) (by simpa using hd))⟩

theorem pickQ {α : Type} {Q : Nat → α → Prop} : ∀ (n : Nat), (∀ i, i < n → ∃ y, Q i y) → ∃ ys : List α, ys.length = n ∧ ∀ (i : Nat) (y : α), ys[i]? = some y → Q i y
 | 0, _ => ⟨[], rfl, fun i y h => by simp at h⟩
 | n + 1, h => by
   obtain ⟨ys, h1, h2⟩ := pickQ n (fun i hi => h i (by omega))
   obtain ⟨y, hy⟩ := h n (by omega)
   refine ⟨ys ++ [y], by simp [h1], fun i z hz => ?_⟩
   by_cases e : i < n
   · rw [List.getElem?_append_left (by omega)] at hz; exact h2 i z hz
   · have hlt := (List.getElem?_eq_some_iff.1 hz).1
     have : i = n := by simp at hlt; omega
     subst this
     rw [List.getElem?_append_right (by omega), h1] at hz
     simp at hz; subst hz; exact hy

theorem pick_rows {α : Type} (f : Nat → Option α) : ∀ (n : Nat), (∀ i, i < n → ∃ y, f i = some y) → ∃ ys : List α, ys.length = n ∧ ∀ i, i < n → f i = ys[i]?
 | 0, _ => ⟨[], rfl, fun i hi => by omega⟩
 | n + 1, h => by
   obtain ⟨ys, h1, h2⟩ := pick_rows f n (fun i hi => h i (by omega))
   obtain ⟨y, hy⟩ := h n (by omega)
   refine ⟨ys ++ [y], by simp [h1], fun i hi => ?_⟩
   by_cases e : i = n
   · subst e; rw [hy, List.getElem?_append_right (by omega), h1]; simp
   · rw [h2 i (by omega), List.getElem?_append_left (by omega)]

theorem flatten_at {n : Nat} : ∀ (cs : List (List Value)), (∀ c ∈ cs, c.length = n) → ∀ (j : Nat) (u : Value), cs.flatten[j]? = some u → ∃ i q c, cs[i]? = some c ∧ c[q]? = some u ∧ j = i * n + q
 | [], _, j, u, h => by simp at h
 | c :: cs, hl, j, u, h => by
   rw [List.flatten_cons] at h
   by_cases hj : j < c.length
   · rw [List.getElem?_append_left hj] at h
     exact ⟨0, j, c, rfl, h, by omega⟩
   · rw [List.getElem?_append_right (by omega)] at h
     obtain ⟨i, q, d, h1, h2, h3⟩ := flatten_at cs (fun d hd => hl d (by simp [hd])) _ u h
     have := hl c (by simp)
     exact ⟨i + 1, q, d, by simpa using h1, h2, by rw [Nat.add_mul]; omega⟩

theorem add_add (a : Addr) (i j : Nat) (h : a.spot = none) : (a.add i).add j = a.add (i + j) := by
 obtain ⟨b, o, s⟩ := a
 simp only at h
 subst h
 simp [add_none, Nat.add_assoc]

/-- DATA THAT CAN BE READ. -/
theorem trod_ro (hB : Bulk B BA) : ∀ (fuel d : Nat) (t : TypeId) (u : Ty) (cs : List Value) (x : DataW H × List MemPlace), tyB P d t u = true → DataW.trod enc P w 0 (fun _ => true) true fuel t cs = some x → ∃ y : u.den, ro w (fun _ => False) u y cs ∧ sz u y ≤ B x.1
 | 0, d, t, u, cs, x, _, h => by simp [DataW.trod] at h
 | fuel + 1, 0, t, u, cs, x, ht, h => by cases ht
 | fuel + 1, d + 1, t, u, cs, x, ht, h => by
   simp only [tyB, Bool.and_eq_true, decide_eq_true_eq] at ht
   obtain ⟨⟨hn, hpos⟩, ht⟩ := ht
   cases hu : P.underlying t with
   | none => rw [hu] at ht; cases ht
   | some de =>
     rw [hu] at ht
     cases de <;> simp only at ht <;> try (cases ht; done)
     case bool =>
      cases u <;> simp only at ht <;> try (cases ht; done)
      obtain ⟨b, rfl, rfl⟩ := DataW.trod_bool hu h
      exact ⟨b, rfl, hB.lit _⟩
     case string =>
      cases u <;> simp only at ht <;> try (cases ht; done)
      obtain ⟨s, rfl, rfl, hs⟩ := DataW.trod_string hu h
      exact ⟨s, ⟨rfl, hs⟩, by have := hB.str s.data.toList; simpa [sz] using this⟩
     case int k =>
      cases u <;> simp only at ht <;> try (cases ht; done)
      simp only [decide_eq_true_eq] at ht
      subst ht
      obtain ⟨n, rfl, rfl, hs⟩ := DataW.trod_int hu h
      refine ⟨n, ⟨rfl, ?_⟩, hB.lit _⟩
      simpa [Lit.wf, InR] using hs
     case slice e =>
      cases u <;> simp only at ht <;> try (cases ht; done)
      rename_i v
      have hcell : P.cellsOf e = v.n ∧ 0 < v.n := by
       cases d with
       | zero => cases ht
       | succ d => simp only [tyB, Bool.and_eq_true, decide_eq_true_eq] at ht; exact ht.1
      rcases DataW.trod_slice hu h with ⟨rfl, rfl⟩ | ⟨a, len, cap, elems, rest, n, e1, rfl, rfl, _, hlc, hcm, hel, helem, hsp, _⟩
      · exact ⟨[], ⟨none, 0, 0, rfl, rfl, Nat.le_refl _, by simp [maxLen], .inl rfl⟩, by simpa [sz] using hB.nil⟩
      · cases e1
        obtain ⟨hrl, hrest⟩ := hsp rfl
        have hspot : 0 < cap → a.spot = none := by
         intro hc
         have key : ∀ i y, (w.cells? 0 (a.add (i * P.cellsOf e)) (P.cellsOf e)).bind (DataW.trod enc P w 0 (fun _ => true) true fuel e) = some y → i = 0 → a.spot = none := by
          rintro i y hy rfl
          rw [Nat.zero_mul] at hy
          cases hcs : w.cells? 0 (a.add 0) (P.cellsOf e) with
          | none => rw [hcs] at hy; cases hy
          | some c0 =>
            obtain ⟨g1, g2⟩ := cells?_spec hcs
            have hp : 0 < c0.length := by omega
            have g3 := g2 0 c0[0] (by simp [hp])
            simp only [Addr.add, if_true] at g3
            unfold World.cell? at g3
            split at g3
            · split at g3
              · cases g3
              · rename_i hs; simpa using hs
            · cases g3
         by_cases hl : 0 < len
         · have := helem 0 hl
           rw [List.getElem?_eq_getElem (by omega)] at this
           exact key 0 _ this rfl
         · have := hrest 0 (by omega)
           rw [List.getElem?_eq_getElem (by omega)] at this
           exact key _ _ this (by omega)
        -- the elements
        have hex : ∀ i, i < len → ∃ c, w.cells? 0 (a.add (i * P.cellsOf e)) (P.cellsOf e) = some c := fun i hi => by
         have := helem i hi
         rw [List.getElem?_eq_getElem (by omega)] at this
         cases hc : w.cells? 0 (a.add (i * P.cellsOf e)) (P.cellsOf e) with
         | none => rw [hc] at this; cases this
         | some c => exact ⟨c, rfl⟩
        obtain ⟨css, hcl, hcs⟩ := pick_rows _ len hex
        have hrow : ∀ (i : Nat) (c : List Value), css[i]? = some c → ∃ y : v.den, ro w (fun _ => False) v y c ∧ ∃ q, elems[i]? = some q ∧ sz v y ≤ B q.1 := by
         intro i c hc
         have hi : i < len := by have := (List.getElem?_eq_some_iff.1 hc).1; omega
         have h1 := helem i hi
         rw [hcs i hi, hc] at h1
         simp only [Option.bind_some] at h1
         rw [List.getElem?_eq_getElem (by omega)] at h1
         obtain ⟨y, g1, g2⟩ := trod_ro hB fuel d e v c _ ht h1
         exact ⟨y, g1, _, List.getElem?_eq_getElem (by omega), g2⟩
        obtain ⟨ys, hyl, hyat⟩ := pickQ (Q := fun i (y : v.den) => ∀ c, css[i]? = some c → ro w (fun _ => False) v y c ∧ ∃ q, elems[i]? = some q ∧ sz v y ≤ B q.1) len (fun i hi => by
         obtain ⟨y, g⟩ := hrow i css[i] (List.getElem?_eq_getElem (by omega))
         exact ⟨y, fun c hc => by
          have : css[i] = c := by rw [List.getElem?_eq_getElem (by omega)] at hc; exact Option.some.inj hc
          rw [← this]; exact g⟩)
        have hro : roAll (ro w (fun _ => False) v) ys css.flatten := roAll_mk ys css (by omega) (fun i y c hy hc => (hyat i y hy c hc).1)
        refine ⟨ys, ⟨some a, len, cap, rfl, hyl.symm, hlc, hcm, ?_⟩, ?_⟩
        · by_cases hc0 : cap = 0
          · exact .inl hc0
          · have hs := hspot (by omega)
            refine .inr ⟨a.block, a.off, css.flatten, by obtain ⟨b, o, s⟩ := a; simp only at hs; subst hs; rfl, hro, fun j q hq => ⟨fun h => h, ?_⟩⟩
            obtain ⟨i, r, c, g1, g2, g3⟩ := flatten_at (n := v.n) css (fun c hc => by
             obtain ⟨i, hi, rfl⟩ := List.mem_iff_getElem.1 hc
             have := hcs i (by omega)
             rw [List.getElem?_eq_getElem hi] at this
             rw [(cells?_spec this).1]; exact hcell.1) j q hq
            have hi : i < len := by have := (List.getElem?_eq_some_iff.1 g1).1; omega
            have := hcs i hi
            rw [g1] at this
            have := (cells?_spec this).2 r q g2
            rw [add_add _ _ _ hs] at this
            obtain ⟨b, o, s⟩ := a
            simp only at hs; subst hs
            rw [add_none] at this
            rw [g3, ← hcell.1]
            exact this
        · have := sum_le hB ys (elems.map (·.1)) (by simp; omega) (fun i y q hy hq => by
           have hi : i < len := by have := (List.getElem?_eq_some_iff.1 hy).1; omega
           obtain ⟨_, z, g1, g2⟩ := hyat i y hy css[i] (List.getElem?_eq_getElem (by omega))
           rw [List.getElem?_map, g1] at hq
           simp at hq; subst hq; exact g2)
          have h2 := hB.sl (elems.map (·.1)) (rest.map (·.1))
          simp only [sz]
          omega
     case struct fs =>
      obtain ⟨xs, n, e1, rfl, hcl, hxl, hf⟩ := DataW.trod_struct hu h
      cases e1
      -- field by field
      have key : ∀ (fl : List Field) (off : Nat) (u : Ty) (i : Nat), tyB.tyFs (tyB P d) fl off u = true → (∀ (j : Nat) (f : Field), fl[j]? = some f → fs[i + j]? = some f) → i + fl.length = fs.size → off + u.n ≤ cs.length →
       ∃ y : u.den, ro w (fun _ => False) u y ((cs.drop off).take u.n) ∧ sz u y ≤ BA ((xs.drop i).map (·.1)) := by
       intro fl
       induction fl with
       | nil => intro off u i h _ _ _; cases h
       | cons f fl ih =>
         intro off u i hfl hat hlen hoff
         have h0 := hat 0 f rfl
         have hf0 := hf i f (by simpa using h0)
         have hi : i < xs.length := by simp at hlen; omega
         have hdrop : xs.drop i = xs[i] :: xs.drop (i + 1) := List.drop_eq_getElem_cons hi
         have hlast : ∀ u, f.offset = off → tyB P d f.type u = true → ∃ y : u.den, ro w (fun _ => False) u y ((cs.drop off).take u.n) ∧ sz u y ≤ B xs[i].1 := by
          intro u e1 e2
          rw [List.getElem?_eq_getElem hi, e1] at hf0
          have hc : P.cellsOf f.type = u.n := by
           cases d with
           | zero => cases e2
           | succ d => simp only [tyB, Bool.and_eq_true, decide_eq_true_eq] at e2; exact e2.1.1
          rw [hc] at hf0
          exact trod_ro hB fuel d f.type u _ _ e2 hf0
         match fl, hfl with
         | [], hfl =>
           simp only [tyB.tyFs, Bool.and_eq_true, decide_eq_true_eq] at hfl
           obtain ⟨y, g1, g2⟩ := hlast u hfl.1 hfl.2
           refine ⟨y, g1, ?_⟩
           rw [hdrop, List.map_cons, hB.cons]; omega
         | f2 :: fl, hfl =>
           cases u <;> simp only [tyB.tyFs] at hfl <;> try (cases hfl; done)
           rename_i a b _
           simp only [Bool.and_eq_true, decide_eq_true_eq] at hfl
           obtain ⟨y, g1, g2⟩ := hlast a hfl.1.1 hfl.1.2
           simp only [Ty.n] at hoff
           obtain ⟨z, k1, k2⟩ := ih (off + a.n) b (i + 1) hfl.2 (fun j g hg => by have := hat (j + 1) g (by simpa using hg); rwa [show i + (j + 1) = i + 1 + j by omega] at this) (by simp at hlen ⊢; omega) (by omega)
           refine ⟨(y, z), ⟨_, _, ?_, g1, k1⟩, ?_⟩
           · simp only [Ty.n]
             rw [← List.drop_drop, ← List.take_add]
           · rw [hdrop, List.map_cons, hB.cons]
             simp only [sz]; omega
      obtain ⟨y, g1, g2⟩ := key fs.toList 0 u 0 ht (fun j f hj => by simpa using hj) (by simp) (by omega)
      refine ⟨y, ?_, ?_⟩
      · rw [List.drop_zero, List.take_of_length_le (by omega)] at g1; exact g1
      · rw [List.drop_zero] at g2
        exact Nat.le_trans g2 (hB.agg _)

end
end Go.Ev
