/- Part. -/
import Derived.Test.YtkjpbhkldioggaaGreatClK6ToKJ
import Derived.Test.YtkjpbhkldioggaaGreatEvTab
import Derived.OpenShut
import Derived.JoinedCond
import Derived.Below
import Derived.ChangeSame
import Derived.ChangeArms
import Derived.WideKeyArgs
set_option linter.all false
set_option maxRecDepth 100000
set_option maxHeartbeats 16000000
namespace Go.Proofs.YtkjpbhkldioggaaGreat
open Go.Ev
theorem cl_conc {f : Flt} {c : List Cnt} {p : List Plm} {x : Plt} : x ∈ concV f c p ↔ (∃ o ∈ c, o.flt = f ∧ ∃ y ∈ o.pcs, y.1 = x) ∨ ∃ y ∈ p, y.1.1 = x ∧ ∃ n ∈ y.2.2, ∃ o ∈ c, o.num = n ∧ o.flt = f := by
 unfold concV; rw [(setP_spec _).2, List.mem_append]; refine or_congr ?_ ?_
 · unfold rawA; rw [List.mem_flatMap]; refine exists_congr fun o => and_congr_right fun ho => ?_; unfold rawC; split
   · rename_i e; rw [List.mem_map]; exact ⟨fun h => ⟨e, h⟩, fun h => h.2⟩
   · rename_i e; exact ⟨fun h => (by cases h), fun h => absurd h.1 e⟩
 · rw [List.mem_flatMap]; refine exists_congr fun y => and_congr_right fun hy => ?_; unfold rawP; split
   · rename_i e; obtain ⟨n, hn, he⟩ := List.any_eq_true.1 e; have he := of_decide_eq_true he; rw [mem_ownL] at he; unfold oursV at he; obtain ⟨o, ho, hq⟩ := List.any_eq_true.1 he; rw [Bool.and_eq_true, decide_eq_true_eq, decide_eq_true_eq] at hq; rw [List.mem_singleton]; exact ⟨fun h => ⟨h.symm, n, hn, o, ho, hq⟩, fun h => h.1.symm⟩
   · rename_i e; refine ⟨fun h => (by cases h), ?_⟩; rintro ⟨_, n, hn, o, ho, h1, h2⟩; refine absurd (List.any_eq_true.2 ⟨n, hn, ?_⟩) e; rw [decide_eq_true_eq, mem_ownL]; unfold oursV; exact List.any_eq_true.2 ⟨o, ho, by rw [Bool.and_eq_true, decide_eq_true_eq, decide_eq_true_eq]; exact ⟨h1, h2⟩⟩
theorem mg_end {o : Opn} : ∀ {l : List Opn}, (∀ x ∈ l, bfV x o = true) → mg l [o] = l ++ [o]
 | [], _ => by rw [mg]; rfl
 | x :: l, h => by
   have hb := h x List.mem_cons_self; have hne : ¬ x = o := fun e => by
    subst e; unfold bfV at hb; simp only [decide_eq_true_eq] at hb; omega
   have hn : ¬ bfV o x = true := fun q => by
    unfold bfV at hb q; simp only [decide_eq_true_eq] at hb q; omega
   rw [mg, if_neg hne, if_neg hn, mg_end (l := l) fun y hy => h y (List.mem_cons_of_mem _ hy)]; rfl
structure AddOk (ops A : List Opn) (w : List Plt) : Prop where
 okl : OkL (ops ++ A)
 el : ∀ o ∈ A, o.1 = 1000 ∧ o.2.1 = 6 ∧ 1 ≤ o.2.2.1 ∧ o.2.2.1 ≤ (A.length : Int) ∧ o.kind = 2 ∧ o.plate ∈ w
def unlO (s n : Int) (q : Plt) : Opn := (1000, 6, s, 2, n, (q, 1, 0))
theorem AddOk.nil {k : Int} {ops : List Opn} {w : List Plt} (h : OpsR k ops) : AddOk ops [] w := ⟨by rw [List.append_nil]; exact h.okl, fun o ho => by cases ho⟩
theorem AddOk.step {k : Int} {ops A : List Opn} {w : List Plt} (hO : OpsR k ops) (h : AddOk ops A w) (hl : A.length ≤ 200) {n : Int} (hn : 1 ≤ n ∧ n ≤ 999) {q : Plt} (hq : okPl q = true) (hqw : q ∈ w) :
 mergeV (ops ++ A) [unlO ((A.length : Int) + 1) n q] = (ops ++ (A ++ [unlO ((A.length : Int) + 1) n q]), 0) ∧ AddOk ops (A ++ [unlO ((A.length : Int) + 1) n q]) w := by
 have hol := hO.len; have ho : okOp (unlO ((A.length : Int) + 1) n q) = true := by
  unfold okOp okPc unlO inV; dsimp only; simp only [hq, Bool.and_eq_true, Bool.or_eq_true, decide_eq_true_eq, true_and]
  and_intros <;> first | omega | exact .inr rfl | trivial | decide
 have hall : ∀ x ∈ ops ++ A, (x.1 < 1000 ∨ x.1 = 1000 ∧ x.2.1 = 6 ∧ x.2.2.1 ≤ (A.length : Int)) ∧ (x.2.1 = 6 → x.2.2.1 ≤ (A.length : Int)) := fun x hx => by
  rcases List.mem_append.1 hx with hx | hx
  · have h1 := hO.tm x hx; have h2 := hO.dv x hx; exact ⟨.inl (by omega), fun e => by omega⟩
  · obtain ⟨h1, h2, _, h4, _⟩ := h.el x hx; exact ⟨.inr ⟨h1, h2, h4⟩, fun _ => h4⟩
 have hbf : ∀ x ∈ ops ++ A, bfV x (unlO ((A.length : Int) + 1) n q) = true := fun x hx => by
  have := (hall x hx).1; unfold bfV unlO; simp only [decide_eq_true_eq]; omega
 have hm := mg_end hbf; have hok : OkL (ops ++ A ++ [unlO ((A.length : Int) + 1) n q]) := by
  refine ⟨fun x hx => ?_, List.pairwise_append.2 ⟨h.okl.pw, List.pairwise_singleton _ _, fun x hx y hy => ?_⟩⟩
  · rcases List.mem_append.1 hx with hx | hx
    · exact h.okl.ok x hx
    · rw [List.mem_singleton.1 hx]; exact ho
  · rw [List.mem_singleton.1 hy]; refine ⟨hbf x hx, fun e => ?_⟩; have := (hall x hx).2 e; show x.2.2.1 < (A.length : Int) + 1; omega
 have hL : (ops ++ A).length ≤ 230 := by rw [List.length_append]; omega
 have e1 : valV (ops ++ A) = 0 := h.okl.val (by omega); have e2 : valV [unlO ((A.length : Int) + 1) n q] = 0 := OkL.val ⟨fun x hx => by rw [List.mem_singleton.1 hx]; exact ho, List.pairwise_singleton _ _⟩ (by simp); have e3 : valV (ops ++ A ++ [unlO ((A.length : Int) + 1) n q]) = 0 := hok.val (by rw [List.length_append, List.length_singleton]; omega); have e4 : dupBm (ops ++ A) [unlO ((A.length : Int) + 1) n q] = false := by
  unfold dupBm; rw [decide_eq_false_iff_not]; rintro ⟨x, hx1, y, hy, h1, h2, _⟩; rw [List.mem_singleton.1 hy] at h1 h2; have h3 := (hall x hx1).2 h1; have h2 : x.2.2.1 = (A.length : Int) + 1 := h2; omega
 refine ⟨?_, ?_, fun o hoA => ?_⟩
 · unfold mergeV; rw [if_neg (by simp [e1]), if_neg (by simp [e2]), if_neg (by simp [e4]), hm, if_neg (by simp only [ne_eq, e3, not_true_eq_false, not_false_eq_true]), List.append_assoc]
 · rw [← List.append_assoc]; exact hok
 · rw [List.length_append, List.length_singleton]
   rcases List.mem_append.1 hoA with hoA | hoA
   · obtain ⟨h1, h2, h3, h4, h5⟩ := h.el o hoA; exact ⟨h1, h2, h3, by omega, h5⟩
   · rw [List.mem_singleton.1 hoA]; exact ⟨rfl, rfl, by show (1 : Int) ≤ (A.length : Int) + 1; omega, by show (A.length : Int) + 1 ≤ _; omega, rfl, hqw⟩
theorem about_app (a b : List Opn) (p : Plt) : aboutP (a ++ b) p = aboutP a p ++ aboutP b p := by unfold aboutP; rw [List.filter_append]
theorem after_place {k : Int} {ops A : List Opn} {w : List Plt} (hO : OpsR k ops) (h : AddOk ops A w) (hl : A.length ≤ 200) {z : Plm} (hz : z ∈ placesV (ops ++ A)) (hne : z.2.2 ≠ []) : z ∈ placesV ops ∧ ∀ o ∈ A, o.plate ≠ z.1.1 := by
 have hol := hO.len; have hv : valV ops = 0 := hO.okl.val (by omega); have hv2 : valV (ops ++ A) = 0 := h.okl.val (by rw [List.length_append]; omega); unfold placesV at hz ⊢; rw [if_neg (by simp [hv2])] at hz; rw [if_neg (by simp [hv])]; obtain ⟨p, hp, rfl⟩ := List.mem_map.1 hz; have hpm := (abK_mem p (ops ++ A)).1 ((sortBy_perm _ _).mem_iff.1 hp); have hz1 : (placeV (aboutP (ops ++ A) p)).1.1 = p := by
  have hn := about_ne hp; have hl : 0 < (aboutP (ops ++ A) p).length := List.length_pos_iff.2 hn; have hm : (aboutP (ops ++ A) p).getD ((aboutP (ops ++ A) p).length - 1) o0 ∈ aboutP (ops ++ A) p := getD_mem (by omega); exact of_decide_eq_true (List.mem_filter.1 hm).2
 rw [hz1]; rw [about_app] at hne ⊢; by_cases q : aboutP A p = []
 · rw [q, List.append_nil]; have hno : ∀ o ∈ A, o.plate ≠ p := fun o ho e => by
    have : o ∈ aboutP A p := List.mem_filter.2 ⟨ho, decide_eq_true e⟩; rw [q] at this; cases this
   refine ⟨List.mem_map.2 ⟨p, ?_, rfl⟩, hno⟩; obtain ⟨o, ho, e⟩ := hpm
   rcases List.mem_append.1 ho with ho | ho
   · exact (sortBy_perm _ _).mem_iff.2 ((abK_mem p ops).2 ⟨o, ho, e⟩)
   · exact absurd e (hno o ho)
 · exfalso; obtain ⟨ys, a, e⟩ : ∃ ys a, aboutP A p = ys ++ [a] := ⟨_, _, (List.dropLast_concat_getLast q).symm⟩; have ha : a ∈ A := (List.mem_filter.1 (by rw [e]; simp : a ∈ aboutP A p)).1; have hk := (h.el a ha).2.2.2.2.1; apply hne; show compV (sortI (trail (aboutP ops p ++ aboutP A p))) = []; rw [e, ← List.append_assoc, trail_snoc, if_neg (by omega)]; exact List.eq_nil_iff_forall_not_mem.2 fun x hx => by
    rw [(compV_spec []).2] at hx; cases hx
theorem weight_le (p : Pce → Bool) : ∀ l : List Pce, (∀ x ∈ l, 0 ≤ x.2.1) → weightV (l.filter p) ≤ weightV l
 | [], _ => Int.le_refl _
 | x :: l, h => by
   have ih := weight_le p l fun y hy => h y (List.mem_cons_of_mem _ hy); have hx := h x List.mem_cons_self; unfold weightV at ih ⊢; by_cases q : p x = true
   · rw [List.filter_cons_of_pos q, List.map_cons, List.map_cons, List.sum_cons, List.sum_cons]; omega
   · rw [List.filter_cons_of_neg q, List.map_cons, List.sum_cons]; omega
theorem over_thin {x : List Cnt} (hC : CtsOk x) {o : Cnt} (ho : o ∈ x) {TS : List Tsk} (h : overV (thinC TS o) = true) : overV o = true := by
 have hc := ctErr_iff.2 (hC.ok o ho); have hw := ct_weights hc; unfold overV at h ⊢; split at h
 · cases h
 · rw [if_neg (by simp [hc])]; have hpc : (thinC TS o).pcs = o.pcs.filter (fun y => !goneB TS o.num y) := rfl; rw [hpc] at h; rw [Bool.or_eq_true, Bool.or_eq_true] at h ⊢
   rcases h with (h | h) | h
   · left; left; obtain ⟨y, hy, e⟩ := List.any_eq_true.1 h; exact List.any_eq_true.2 ⟨y, (List.mem_filter.1 hy).1, e⟩
   · left; right; have h := of_decide_eq_true h; have h : weightV (o.pcs.filter (fun y => !goneB TS o.num y)) > o.lim := h; have := weight_le (fun y => !goneB TS o.num y) o.pcs fun y hy => by
      obtain ⟨i, hi, rfl⟩ := getD_pc hy; exact (hw.2 i hi).1
     exact decide_eq_true (by omega)
   · right; have h := of_decide_eq_true h; have h : ((o.pcs.filter (fun y => !goneB TS o.num y)).length : Int) > o.most := h; have := List.length_filter_le (fun y => !goneB TS o.num y) o.pcs; exact decide_eq_true (by omega)
def badL (b : List Bar) : List Plt := (b.filter (fun x => decide (x.1 = 4))).map (fun x => x.2.2)
theorem badL_mem {l : List Dpt} {f : Flt} {t : Int} {c : List Cnt} {p : List Plm} {r : List Rlg} : badL (barsV l f t [] c p r) = (concV f c p).filter (fun x => !mayV r x) := by
 have h1 : ∀ (g : Plt → List Bar) (L : List Plt), (∀ x, ∀ b ∈ g x, b.1 ≠ 4) → (L.flatMap g).filter (fun x => decide (x.1 = 4)) = [] := fun g L h => List.filter_eq_nil_iff.2 fun b hb => by
  obtain ⟨x, _, hx⟩ := List.mem_flatMap.1 hb; simpa using h x b hx
 have h2 : ∀ (g : Cnt → List Bar) (L : List Cnt), (∀ x, ∀ b ∈ g x, b.1 ≠ 4) → (L.flatMap g).filter (fun x => decide (x.1 = 4)) = [] := fun g L h => List.filter_eq_nil_iff.2 fun b hb => by
  obtain ⟨x, _, hx⟩ := List.mem_flatMap.1 hb; simpa using h x b hx
 have h3 : (brS (stateV l f t)).filter (fun x => decide (x.1 = 4)) = [] := by
  unfold brS; split <;> rfl
 have h4 : ∀ L : List Plt, ((L.flatMap (brA r)).filter (fun x => decide (x.1 = 4))).map (fun x => x.2.2) = L.filter (fun x => !mayV r x) := fun L => by
  induction L with
  | nil => rfl
  | cons a L ih =>
    rw [List.flatMap_cons, List.filter_append, List.map_append, ih]; unfold brA; cases hm : mayV r a
    · rw [List.filter_cons_of_pos (by rw [hm]; rfl)]; rfl
    · rw [List.filter_cons_of_neg (by rw [hm]; simp)]; rfl
 unfold badL barsV; rw [List.filter_append, List.filter_append, List.filter_append, List.filter_append, List.flatMap_nil, List.filter_nil, h3, h1 (brU p), h2 (brC f), List.nil_append, List.nil_append, List.nil_append, List.append_nil, h4]
 · intro x b hb; unfold brC at hb; split at hb
   · rw [List.mem_singleton.1 hb]; show (5 : Int) ≠ 4; decide
   · cases hb
 · intro x b hb; unfold brU at hb; split at hb
   · rw [List.mem_singleton.1 hb]; show (3 : Int) ≠ 4; decide
   · cases hb
structure ClrK (f : Flt) (x : List Cnt) (ops : List Opn) (r : List Rlg) (w : List Plt) (TS : List Tsk) : Prop where
 fk : FndK x w TS
 wm : ∀ q, q ∈ w ↔ q ∈ concV f x (placesV ops) ∧ mayV r q = false
 len : TS.length ≤ 4
 sz : ∀ t ∈ TS, t.2.length ≤ 30
 num : ∀ t ∈ TS, 1 ≤ t.1 ∧ t.1 ≤ 4
 ok : ∀ q ∈ w, okPl q = true
 cov : ∀ q ∈ w, ∃ t ∈ TS, q ∈ t.2
theorem ClrK.clear {f : Flt} {x : List Cnt} {ops A : List Opn} {r : List Rlg} {w : List Plt} {TS : List Tsk} {k : Int} (h : ClrK f x ops r w TS) (hO : OpsR k ops) (hA : AddOk ops A w) (hl : A.length ≤ 200) (hcov : ∀ t ∈ TS, ∀ q ∈ t.2, ∃ o ∈ A, o.plate = q) {l : List Dpt} {t : Int} {b : Bar}
 (hb : b ∈ barsV l f t [] (thinL TS x) (placesV (ops ++ A)) r) : b.1 ≠ 4 ∧ b ∈ barsV l f t [] x (placesV ops) r := by
 have hth : ∀ {o'}, o' ∈ thinL TS x → ∃ o ∈ x, o' = thinC TS o := fun ho => by
  obtain ⟨o, ho, e⟩ := List.mem_map.1 ho; exact ⟨o, ho, e.symm⟩
 have hq : ∀ q, q ∈ concV f (thinL TS x) (placesV (ops ++ A)) → q ∈ concV f x (placesV ops) ∧ mayV r q = true := fun q hq => by
  rcases cl_conc.1 hq with ⟨o', ho', hf, y, hy, e⟩ | ⟨z, hz, e, n, hn, o', ho', hno, hf⟩
  · obtain ⟨o, ho, rfl⟩ := hth ho'; have hyo : y ∈ o.pcs := (List.mem_filter.1 hy).1; have hc : q ∈ concV f x (placesV ops) := cl_conc.2 (.inl ⟨o, ho, hf, y, hyo, e⟩); refine ⟨hc, ?_⟩; have h1 := h.fk.hold ho hyo; rw [(holdsV_iff.2 ⟨y, hy, rfl⟩ : holdsV (thinC TS o) y.1 = true)] at h1; cases hm : mayV r q
    · have : y.1 ∈ w := by rw [e]; exact (h.wm q).2 ⟨hc, hm⟩
      rw [decide_eq_true this] at h1; cases h1
    · rfl
  · obtain ⟨o, ho, rfl⟩ := hth ho'; obtain ⟨g1, g2⟩ := after_place hO hA hl hz (fun e => by rw [e] at hn; cases hn); have hc : q ∈ concV f x (placesV ops) := cl_conc.2 (.inr ⟨z, g1, e, n, hn, o, ho, hno, hf⟩); refine ⟨hc, ?_⟩; cases hm : mayV r q
    · obtain ⟨t, ht, hqt⟩ := h.cov q ((h.wm q).2 ⟨hc, hm⟩); obtain ⟨a, ha, e2⟩ := hcov t ht q hqt; exact absurd (e2.trans e.symm) (g2 a ha)
    · rfl
 unfold barsV at hb ⊢; simp only [List.flatMap_nil, List.append_nil, List.mem_append, List.mem_flatMap] at hb ⊢
 rcases hb with ((hb | ⟨q, hqc, hb⟩) | ⟨q, hqc, hb⟩) | ⟨o', ho', hb⟩
 · refine ⟨?_, .inl (.inl (.inl hb))⟩; unfold brS at hb; split at hb
   · rw [List.mem_singleton.1 hb]; show (1 : Int) ≠ 4; decide
   · cases hb
 · unfold brU at hb; split at hb
   · rename_i hu; rw [List.mem_singleton.1 hb]; refine ⟨(by show (3 : Int) ≠ 4; decide), .inl (.inl (.inr ⟨q, (hq q hqc).1, ?_⟩))⟩; unfold brU; rw [if_pos]
     · simp
     · unfold uncV at hu ⊢; obtain ⟨z, hz, e⟩ := List.any_eq_true.1 hu; have e2 := e; unfold uncP at e2; rw [Bool.and_eq_true, decide_eq_true_eq, decide_eq_true_eq] at e2; have hne : z.2.2 ≠ [] := fun q => by rw [q] at e2; have := e2.2; simp at this
       exact List.any_eq_true.2 ⟨z, (after_place hO hA hl hz hne).1, e⟩
   · cases hb
 · unfold brA at hb; rw [(hq q hqc).2, if_neg (by simp)] at hb; cases hb
 · obtain ⟨o, ho, rfl⟩ := hth ho'; unfold brC at hb; split at hb
   · rename_i hu; rw [List.mem_singleton.1 hb]; refine ⟨(by show (5 : Int) ≠ 4; decide), .inr ⟨o, ho, ?_⟩⟩; unfold brC; rw [if_pos ⟨hu.1, over_thin h.fk.ok ho hu.2⟩]; exact List.mem_singleton.2 rfl
   · cases hb
theorem held_nc : NC 4 (heldV 4) ∧ ∀ o ∈ heldV 4, o.flt = fltsV 0 := by
 have hm : ∀ i, i < 4 → (heldV 4).getD i ct0 = heldC i := fun i hi => by
  rcases (by omega : i = 0 ∨ i = 1 ∨ i = 2 ∨ i = 3) with rfl | rfl | rfl | rfl <;> rfl
 refine ⟨⟨by rw [heldV_len]; exact Nat.le_refl _, fun k hk => ?_⟩, fun o ho => ?_⟩
 · rw [heldV_len] at hk; rw [hm k hk]; refine ⟨rfl, rfl, ?_, .inr rfl⟩; unfold propC inV heldC; simp only [Cnt.num, Cnt.flt, Cnt.cats, Cnt.lim, Cnt.most, Cnt.pos, Cnt.arm, fltsV_ok, Bool.and_eq_true, decide_eq_true_eq, and_true]; omega
 · obtain ⟨i, _, rfl⟩ := List.mem_map.1 ho; rfl
theorem clr_find {x : List Cnt} {ops : List Opn} {l : List Dpt} {t : Int} {r : List Rlg} (hO : OpsR 4 ops) (hP : PInv (heldV 4) 60 (LastL ops) x) :
 ∃ TS, searchV x (placesV ops) (badL (barsV l (fltsV 0) t [] x (placesV ops) r)) = (TS, 0) ∧ ClrK (fltsV 0) x ops r (badL (barsV l (fltsV 0) t [] x (placesV ops) r)) TS ∧ (badL (barsV l (fltsV 0) t [] x (placesV ops) r)).length ≤ 30 := by
 obtain ⟨hn, hf⟩ := held_nc; obtain ⟨hC, hN⟩ := pinv_ok hn (by decide) hP; have hxl : x.length = 4 := by rw [hP.len, heldV_len]
 rw [badL_mem]; obtain ⟨w, hw⟩ : ∃ w, (concV (fltsV 0) x (placesV ops)).filter (fun q => !mayV r q) = w := ⟨_, rfl⟩; rw [hw]; have hwm : ∀ q, q ∈ w ↔ q ∈ concV (fltsV 0) x (placesV ops) ∧ mayV r q = false := fun q => by
  rw [← hw, List.mem_filter]; cases mayV r q <;> simp
 have hws : w.Pairwise (fun a b => pltC a b < 0) := by
  rw [← hw]; exact (setP_spec _).1.filter _
 have hwn : w.Nodup := hws.imp fun {a b} h q => by
  rw [q] at h; have := (pltC_cmp.eq b b).2 rfl; omega
 have hflt : ∀ o ∈ x, o.flt = fltsV 0 := fun o ho => by
  obtain ⟨i, hi, rfl⟩ := getD_ct ho; have hg : i < (heldV 4).length := by rw [heldV_len]; omega
  rw [hP.same i hg]; have := hf _ (getD_mem (d := ct0) hg); exact this
 have hcand : ∀ q ∈ w, ∃ n, n ∈ candV x (placesV ops) q ∧ 1 ≤ n ∧ n ≤ 4 := fun q hq => by
  have hpl : ∀ z ∈ placesV ops, z.1.1 = q → ∀ n ∈ z.2.2, n ∈ candV x (placesV ops) q ∧ 1 ≤ n ∧ n ≤ 4 := fun z hz e n hn => by
   have h3 := db_plm hO hz; rw [← e, db_cand hz h3.1]; exact ⟨hn, h3.2.2.2 n hn⟩
  rcases cl_conc.1 ((hwm q).1 hq).1 with ⟨o, ho, _, y, hy, e⟩ | ⟨z, hz, e, n, hn, _⟩
  · obtain ⟨i, hi, rfl⟩ := getD_ct ho; have hv : valV ops = 0 := hO.okl.val (by have := hO.len; omega); obtain ⟨z, hz, h1, h2⟩ := (lastL_places hv i y).1 ((hP.mem i (by rw [heldV_len]; omega) y).1 hy); have hzin := place_in hO hz (by omega); exact ⟨z.2.1, hpl z hz (by rw [h2]; exact e) _ hzin⟩
  · exact ⟨n, hpl z hz e n hn⟩
 have hop : ∀ q ∈ w, ∃ o ∈ ops, o.plate = q := fun q hq => by
  have hz1 : ∀ z ∈ placesV ops, ∃ o ∈ ops, o.plate = z.1.1 := fun z hz => by
   have hv : valV ops = 0 := hO.okl.val (by have := hO.len; omega); unfold placesV at hz; rw [if_neg (by simp [hv])] at hz; obtain ⟨p, hp, rfl⟩ := List.mem_map.1 hz; have hn := about_ne hp; have hl : 0 < (aboutP ops p).length := List.length_pos_iff.2 hn; have hm : (aboutP ops p).getD ((aboutP ops p).length - 1) o0 ∈ aboutP ops p := getD_mem (by omega); exact ⟨_, (List.mem_filter.1 hm).1, rfl⟩
  rcases cl_conc.1 ((hwm q).1 hq).1 with ⟨o, ho, _, y, hy, e⟩ | ⟨z, hz, e, _⟩
  · obtain ⟨i, hi, rfl⟩ := getD_ct ho; have hv : valV ops = 0 := hO.okl.val (by have := hO.len; omega); obtain ⟨z, hz, h1, h2⟩ := (lastL_places hv i y).1 ((hP.mem i (by rw [heldV_len]; omega) y).1 hy); obtain ⟨a, ha, e2⟩ := hz1 z hz; exact ⟨a, ha, by rw [e2, h2]; exact e⟩
  · obtain ⟨a, ha, e2⟩ := hz1 z hz; exact ⟨a, ha, e2.trans e⟩
 have hwl : w.length ≤ 30 := by
  have hS := setP_spec (ops.map (fun o => o.plate)); have e : w = (setP (ops.map (fun o => o.plate))).filter (fun q => decide (q ∈ w)) := strict_ext (fun x y => Cmp.as pltC_cmp x y) hws (hS.1.filter _) fun q => by
   rw [List.mem_filter, hS.2, decide_eq_true_eq, List.mem_map]; exact ⟨fun h => ⟨hop q h, h⟩, fun h => h.2⟩
  rw [e]; refine Nat.le_trans (List.length_filter_le _ _) (Nat.le_trans (setP_len _) ?_); rw [List.length_map]; exact hO.len
 have hwv : ∀ q ∈ w, okPl q = true := fun q hq => by
  obtain ⟨o, ho, e⟩ := hop q hq; have := okOp_pc (hO.okl.ok o ho); unfold okPc at this; simp only [Bool.and_eq_true] at this; rw [← e]; exact this.1.1
 have hlo : ∀ p ∈ w, lostV x (placesV ops) p = false := fun p _ => pinv_lost hO hN hxl p; obtain ⟨h1, h2, h3⟩ := find_tasks hwn hlo; have hRT := refT_eq hC hwn hlo; refine ⟨sortT (tskL x (placesV ops) (sortBy pltC w)), ?_, ⟨⟨hC, hwn, h1, fun t ht => (h2 t ht).1, fun t ht p hp => (((h2 t ht).2 p).1 hp).1, fun o ho y hy hyw => ?_⟩, hwm, ?_, fun t ht => ?_, fun t ht => ?_, hwv, fun q hq => ?_⟩, hwl⟩
 · have hw0 := want_ok hwn hwv; unfold searchV; rw [if_neg (by simp [checkV_iff.2 hC]), if_neg (by simp [hw0]), (sortBy_perm pltC w).any_eq, if_neg]; intro q; obtain ⟨p, hp, e⟩ := List.any_eq_true.1 q; rw [hlo p hp] at e; cases e
 · have hc := pinv_cand (m := 4) hO hO.len hP hN ho hy; obtain ⟨t, ht, e⟩ := h3 _ _ hyw hc; exact ⟨t, ht, e, ((h2 t ht).2 y.1).2 ⟨hyw, by rw [e]; exact hc⟩⟩
 · rw [← hRT]; unfold refT; rw [List.length_map]; exact Nat.le_trans (List.length_filter_le _ _) (by omega)
 · rw [← hRT] at ht; unfold refT at ht; obtain ⟨o, _, rfl⟩ := List.mem_map.1 ht; exact Nat.le_trans (setP_len _) (Nat.le_trans (List.length_filter_le _ _) hwl)
 · rw [← hRT] at ht; unfold refT at ht; obtain ⟨o, ho, rfl⟩ := List.mem_map.1 ht; obtain ⟨i, hi, rfl⟩ := getD_ct (List.mem_filter.1 ho).1; rw [hN i hi]; omega
 · obtain ⟨n, hn, _⟩ := hcand q hq; obtain ⟨t, ht, e⟩ := h3 n q hq hn; exact ⟨t, ht, ((h2 t ht).2 q).2 ⟨hq, by rw [e]; exact hn⟩⟩
attribute [local go_sem] List.set_cons_succ List.set_cons_zero List.getD_cons_succ List.getD_cons_zero List.set_nil
theorem badL_app (a b : List Bar) : badL (a ++ b) = badL a ++ badL b := by unfold badL; rw [List.filter_append, List.map_append]
theorem badL_le (B : List Bar) (i : Nat) : (badL (B.take i)).length ≤ (badL B).length := by
 conv => rhs; rw [← List.take_append_drop i B]
 rw [badL_app, List.length_append]; omega
theorem bar_dec (a b : Bar) : (decide (a.1 = b.1) && (decide (a.2.1 = b.2.1) && (decide (a.2.2.1 = b.2.2.1) && (decide (a.2.2.2.1 = b.2.2.2.1) && decide (a.2.2.2.2 = b.2.2.2.2))))) = decide (a = b) := by
 rw [Bool.eq_iff_iff]; simp only [Bool.and_eq_true, decide_eq_true_eq]; obtain ⟨a1, a2, a3, a4, a5⟩ := a; obtain ⟨b1, b2, b3, b4, b5⟩ := b; simp only [Prod.mk.injEq]
theorem db_mayC {l : List Opn} {z : Plc} (h : z ∈ placesV l) : z.2.2.length ≤ l.length := by
 unfold placesV at h; split at h
 · cases h
 · obtain ⟨p, _, rfl⟩ := List.mem_map.1 h; refine Nat.le_trans ?_ (about_len l p); generalize aboutP l p = m; have key : ∀ m : List Opn, (trail m).length ≤ m.length := fun m => by
    unfold trail; rw [List.length_map]; refine Nat.le_trans (List.takeWhile_sublist _).length_le ?_; rw [List.length_reverse]; exact Nat.le_refl _
   show (compV (sortI (trail m))).length ≤ m.length; refine Nat.le_trans (compV_le _) ?_; rw [sortI_len]; exact key m
def con3 : Con := { ps := [.d false (.sl yI)], rs := [.d false .bool], pre := fun _ => True, out := fun x => (true, ()), nw := id }
theorem c3 : CtrOk Tryz.prog 3 con3.ctr :=
 con_sound (G := ⟨[(4, con4.ctr), (5, con5.ctr), (8, con8.ctr), (9, con9.ctr), (10, con10.ctr), (11, con11.ctr), (12, con12.ctr), (13, con13.ctr), (14, con14.ctr), (15, con15.ctr), (16, con16.ctr), (17, con17.ctr)], [(6, con6.rctr), (7, con7.rctr)], [], [], []⟩) tab_ok (EnvOk.cons c4 has4 (EnvOk.cons c5 has5 (EnvOk.cons c8 has8 (EnvOk.cons c9 has9 (EnvOk.cons c10 has10 (EnvOk.cons c11 has11 (EnvOk.cons c12 has12 (EnvOk.cons c13 has13 (EnvOk.cons c14 has14 (EnvOk.cons c15 has15 (EnvOk.cons c16 has16 (EnvOk.cons c17 has17 (EnvOk.rcons c6 has6 (EnvOk.rcons c7 has7 EnvOk.nil)))))))))))))) rfl Tryz.func3 rfl con3 91430431061678810932727886930023014981430669309 (by kernel_rfl) (by decide) (by decide) rfl (by decide) rfl (by
  rintro ⟨(src : List Int), _⟩ hpre hwf X hT hG hk hK
  (simp -implicitDefEqProofs only [go_sem, bP, con3, con4, con5, con8, con9, con10, con11, con12, con13, con14, con15, con16, con17, con6, con7, hT, hG, hk, hK, Tryz.results3] at hwf ⊢); (try simp (disch := decide +kernel) only [drawn, true_and, and_true])
  clear hwf; refine fun _ _ => ⟨by decide, ?_⟩; rintro ⟨⟨(ops : List Opn), _⟩, ⟨⟨(s2 : List Int), (a2 : Int)⟩, _⟩⟩ hy2; obtain ⟨⟨h2, hops⟩, -⟩ := hy2; have h2 : 0 ≤ a2 := h2; have hops : OpsR 4 ops := hops; dsimp only; refine ⟨⟨h2, by decide⟩, ?_⟩; rintro ⟨⟨(r : List Rlg), _⟩, ⟨⟨(s3 : List Int), (a3 : Int)⟩, _⟩⟩ hy3; have hrl : (r.length : Int) ≤ 10 := hy3.1.2; clear hy3; dsimp only; obtain ⟨hnc, hfl⟩ := held_nc; obtain ⟨ha, hb⟩ := applyV_nc hnc (by decide) (heldV_len 4) hops; have e4 : heldV (Int.toNat 4) = heldV 4 := rfl; obtain ⟨x, xe, hX⟩ : ∃ x e, applyV (heldV 4) ops = (x, e) := ⟨_, _, rfl⟩; rw [hX] at ha hb; have ha : xe = 0 := ha; have hb : PInv (heldV 4) 60 (LastL ops) x := hb; subst ha; obtain ⟨TS, hS, hK5, hwl⟩ := clr_find (l := dayV) (t := 45) (r := r) hops hb; have hpm : ∀ y ∈ placesV ops, y.2.2.length ≤ 1000 := fun y hy => Nat.le_trans (db_mayC hy) (Nat.le_trans hops.len (by decide)); have hpl := placesV_len ops; have hxl : x.length = 4 := by rw [hb.len, heldV_len]
  have hxc : ∀ o ∈ x, o.pcs.length ≤ 60 := fun o ho => (hK5.fk.ok.ok o ho).2.1; have hsm : SmC x (placesV ops) := ⟨by omega, fun o ho => Nat.le_trans (hxc o ho) (by decide), by omega, hpm⟩; simp only [e4, hX]; obtain ⟨B, hB⟩ : ∃ B, barsV dayV (fltsV 0) 45 [] x (placesV ops) r = B := ⟨_, rfl⟩; simp only [hB] at hS hK5 hwl ⊢; obtain ⟨w, hw⟩ : ∃ w, badL B = w := ⟨_, rfl⟩; rw [hw] at hS hK5 hwl; have h45 : (0 : Nat) ≤ 1000 := by decide
  simp only [List.length_nil, not_true_eq_false, ne_eq, false_implies, true_implies, true_and]
  (repeat' with_reducible first | refine And.intro ?_ ?_ | intro _) <;> try first | with_reducible (first | assumption | omega | contradiction) | decide
  all_goals try first | omega | exact hpm _ (by assumption)
  refine evk_loop ⟨{ k : Nat // k ≤ B.length }, 1000, fun q => [(4, .one (.loc 70 0)), (5, .one (.sl yOP ops false)), (6, .one (.sl yRU r false)), (7, .one (.sl yCT x false)), (9, .one (.sl yPM (placesV ops) false)), (10, .one (.sl yBR B false)), (11, .one (.row 66)), (57, .one (.sl yBR B false)), (58, .one (.int .i64 B.length)), (59, .one (.int .i64 q.1))], fun q => [(70, .cells 26 [.str (fltsV 0).1, .int .i64 (fltsV 0).2.1, .str (fltsV 0).2.2.1, .int .i64 (fltsV 0).2.2.2]), (66, .row 45 yPL (badL (B.take q.1)))], fun q => B.length - q.1⟩ ⟨0, Nat.zero_le _⟩ ?_ ?_
  · simp only [go_sem]
    first
     | (try first | rfl | (and_intros <;> first | trivial | rfl | omega)
        done)
  rintro ⟨i, (hi : i ≤ B.length)⟩
  (simp -implicitDefEqProofs only [go_sem, bP, con3, con4, con5, con8, con9, con10, con11, con12, con13, con14, con15, con16, con17, con6, con7, hT, hG, hk, hK, Tryz.results3]); (try simp (disch := decide +kernel) only [drawn, true_and, and_true])
  obtain ⟨b, hbb⟩ : ∃ b, B.getD i br0 = b := ⟨_, rfl⟩; have eb : B.getD (i : Int).toNat (0, 0, (0, 0, 0)) = b := hbb
  try simp only [eb]
  have hle := badL_le B i; rw [hw] at hle; have hst : i < B.length → badL (B.take (i + 1)) = badL (B.take i) ++ if b.1 = 4 then [b.2.2] else [] := fun h => by
   rw [tsE h, ← getD_lt (d := br0) h, hbb, badL_app]; unfold badL; by_cases q : b.1 = 4
   · rw [if_pos q, List.filter_cons_of_pos (by simpa using q)]; rfl
   · rw [if_neg q, List.filter_cons_of_neg (by simpa using q)]; rfl
  have hend : i = B.length → badL (B.take i) = w := fun h => by rw [h, List.take_length, hw]
  generalize badL (B.take i) = Q at hle hst hend ⊢; refine ⟨fun hlt => ?_, fun hge => ?_⟩
  · (repeat' with_reducible first | refine And.intro ?_ ?_ | intro _) <;> try first | with_reducible (first | assumption | omega | contradiction) | decide
    all_goals first
     | omega
     | (have hs : b.1 = 4 := by assumption
        have h1 := hst (by omega); rw [if_pos hs] at h1; refine fin_lp ⟨i + 1, by omega⟩ ?_ (by dsimp only; omega); simp only [go_sem]; rw [h1]
        try first | rfl | (and_intros <;> first | trivial | rfl | omega)
        done)
     | (have hs : ¬ b.1 = 4 := by assumption
        have h1 := hst (by omega); rw [if_neg hs, List.append_nil] at h1; refine fin_lp ⟨i + 1, by omega⟩ ?_ (by dsimp only; omega); simp only [go_sem]; rw [h1]
        try first | rfl | (and_intros <;> first | trivial | rfl | omega)
        done)
  have hQ := hend (by omega); rw [hQ]; simp only [hS, not_true_eq_false, ne_eq, false_implies, true_implies, true_and]
  (repeat' with_reducible first | refine And.intro ?_ ?_ | intro _) <;> try first | with_reducible (first | assumption | omega | contradiction) | decide
  all_goals try first | omega | exact hpm _ (by assumption) | exact Nat.le_trans (hxc _ (by assumption)) (by decide)
  refine evk_loop ⟨{ q : List Opn × Nat // q.2 ≤ TS.length ∧ AddOk ops q.1 w ∧ q.1.length ≤ 30 * q.2 ∧ ∀ t ∈ TS.take q.2, ∀ p ∈ t.2, ∃ o ∈ q.1, o.plate = p }, 2000, fun q => [(4, .one (.loc 70 0)), (6, .one (.sl yRU r false)), (10, .one (.sl yBR B false)), (16, .one (.sl yCT (thinL (TS.take q.1.2) x) false)), (17, .one (.sl yOP (ops ++ q.1.1) false)), (18, .one (.int .i64 q.1.1.length)), (84, .one (.sl yTK TS false)), (85, .one (.int .i64 TS.length)), (86, .one (.int .i64 q.1.2))], fun q => [(70, .cells 26 [.str (fltsV 0).1, .int .i64 (fltsV 0).2.1, .str (fltsV 0).2.2.1, .int .i64 (fltsV 0).2.2.2])], fun q => TS.length - q.1.2⟩ ⟨([], 0), Nat.zero_le _, AddOk.nil hops, Nat.le_refl _, fun t ht => (by cases ht)⟩ ?_ ?_
  · simp only [go_sem]
    first
     | exact ⟨rfl, rfl, (thin_nil x).symm⟩
     | (rw [List.append_nil, List.take_zero, thin_nil]
        try first | rfl | (and_intros <;> first | trivial | rfl | omega)
        done)
  rintro ⟨⟨A, j⟩, (hj : j ≤ TS.length), (hA : AddOk ops A w), (hAl : A.length ≤ 30 * j), (hAc : ∀ t ∈ TS.take j, ∀ p ∈ t.2, ∃ o ∈ A, o.plate = p)⟩
  (simp -implicitDefEqProofs only [go_sem, bP, con3, con4, con5, con8, con9, con10, con11, con12, con13, con14, con15, con16, con17, con6, con7, hT, hG, hk, hK, Tryz.results3]); (try simp (disch := decide +kernel) only [drawn, true_and, and_true])
  have hT4 := hK5.len; obtain ⟨u, hu⟩ : ∃ u, TS.getD j tk0 = u := ⟨_, rfl⟩; have eu : TS.getD (j : Int).toNat (0, []) = u := hu; have eU : (u.1, u.2) = u := rfl
  try simp only [eu, eU]
  by_cases hjl : j < TS.length
  · have hum : u ∈ TS := by rw [← hu]; exact getD_mem hjl
    have hts : TS.take (j + 1) = TS.take j ++ [u] := by rw [tsE hjl, ← getD_lt (d := tk0) hjl, hu]
    have hst := thin_step hK5.fk.ok (TS := TS.take j) (u := u) (fun t ht e => by
     have hN := hK5.fk.n; unfold TkN at hN; obtain ⟨i, hi, rfl⟩ := List.mem_iff_getElem.1 ht; rw [List.length_take] at hi; rw [List.getElem_take] at e; rw [getD_lt hjl] at hu; have : i = j := (List.getElem_inj (h₀ := by rw [List.length_map]; omega) (h₁ := by rw [List.length_map]; omega) hN).1 (by simpa [hu] using e); omega) (hK5.fk.ex u hum)
    rw [← hts] at hst; generalize ((x.getD (numIdx x u.1).toNat ct0).pcs.filter (inT u)).map (fun y => y.1) = L at hst; have hul := hK5.sz u hum; have hun := hK5.num u hum; have huw : ∀ q ∈ u.2, q ∈ w := fun q hq => hK5.fk.sub u hum q hq; simp only [hst, not_true_eq_false, ne_eq, false_implies, true_implies, true_and]
    (repeat' with_reducible first | refine And.intro ?_ ?_ | intro _) <;> try first | with_reducible (first | assumption | omega | contradiction) | decide
    all_goals try omega
    refine evk_loop ⟨{ q : List Opn × Nat // q.2 ≤ u.2.length ∧ AddOk ops q.1 w ∧ q.1.length ≤ 30 * j + q.2 ∧ (∀ t ∈ TS.take j, ∀ p ∈ t.2, ∃ o ∈ q.1, o.plate = p) ∧ ∀ p ∈ u.2.take q.2, ∃ o ∈ q.1, o.plate = p }, 3000, fun q => [(4, .one (.loc 70 0)), (6, .one (.sl yRU r false)), (10, .one (.sl yBR B false)), (16, .one (.sl yCT (thinL (TS.take (j + 1)) x) false)), (17, .one (.sl yOP (ops ++ q.1.1) false)), (18, .one (.int .i64 q.1.1.length)), (20, .one (.loc 72 0)), (84, .one (.sl yTK TS false)), (85, .one (.int .i64 TS.length)), (86, .one (.int .i64 j)), (101, .one (.sl yPL u.2 false)), (102, .one (.int .i64 u.2.length)), (103, .one (.int .i64 q.1.2))], fun q => [(70, .cells 26 [.str (fltsV 0).1, .int .i64 (fltsV 0).2.1, .str (fltsV 0).2.2.1, .int .i64 (fltsV 0).2.2.2]), (72, .cells 53 [.int .i64 u.1, .sl yPL u.2 false])], fun q => u.2.length - q.1.2⟩ ⟨(A, 0), Nat.zero_le _, hA, (by show A.length ≤ 30 * j + 0; omega), hAc, fun p hp => (by cases hp)⟩ ?_ ?_
    · simp only [go_sem]
      first
       | (try first | rfl | (and_intros <;> first | trivial | rfl | omega)
          done)
    rintro ⟨⟨A, k⟩, (hkl : k ≤ u.2.length), (hA : AddOk ops A w), (hAl : A.length ≤ 30 * j + k), (hAc : ∀ t ∈ TS.take j, ∀ p ∈ t.2, ∃ o ∈ A, o.plate = p), (hAu : ∀ p ∈ u.2.take k, ∃ o ∈ A, o.plate = p)⟩
    (simp -implicitDefEqProofs only [go_sem, bP, con3, con4, con5, con8, con9, con10, con11, con12, con13, con14, con15, con16, con17, con6, con7, hT, hG, hk, hK, Tryz.results3]); (try simp (disch := decide +kernel) only [drawn, true_and, and_true])
    obtain ⟨q, hq⟩ : ∃ q, u.2.getD k pl0 = q := ⟨_, rfl⟩; have eq : u.2.getD (k : Int).toNat (0, 0, 0) = q := hq; have eQ : (q.1, q.2.1, q.2.2) = q := rfl; have eO : ((1000, 6, (A.length : Int) + 1, 2, u.1, q, 1, 0) : Opn) = unlO ((A.length : Int) + 1) u.1 q := rfl
    try simp only [eq, eQ, eO]
    by_cases hkk : k < u.2.length
    · have hqm : q ∈ u.2 := by rw [← hq]; exact getD_mem hkk
      have hA200 : A.length ≤ 200 := by omega
      obtain ⟨s1, s2⟩ := hA.step hops hA200 (n := u.1) (by omega) (hK5.ok q (huw q hqm)) (huw q hqm); simp only [s1, not_true_eq_false, ne_eq, false_implies, true_implies, true_and]
      (repeat' with_reducible first | refine And.intro ?_ ?_ | intro _) <;> try first | with_reducible (first | assumption | omega | contradiction) | decide
      all_goals try omega
      refine fin_lp ⟨(A ++ [unlO ((A.length : Int) + 1) u.1 q], k + 1), hkk, s2, ?_, fun t ht p hp => ?_, fun p hp => ?_⟩ ?_ (by dsimp only; omega)
      · show (A ++ [_]).length ≤ 30 * j + (k + 1); rw [List.length_append, List.length_singleton]; omega
      · obtain ⟨o, ho, e⟩ := hAc t ht p hp; exact ⟨o, List.mem_append_left _ ho, e⟩
      · have hp : p ∈ u.2.take (k + 1) := hp; rw [tsE hkk, ← getD_lt (d := pl0) hkk, hq] at hp
        rcases List.mem_append.1 hp with hp | hp
        · obtain ⟨o, ho, e⟩ := hAu p hp; exact ⟨o, List.mem_append_left _ ho, e⟩
        · rw [List.mem_singleton.1 hp]; exact ⟨_, List.mem_append_right _ (List.mem_singleton.2 rfl), rfl⟩
      · simp only [go_sem]
        first
         | (try first | rfl | (and_intros <;> first | trivial | rfl | omega)
            done)
         | (refine ⟨?_, ?_⟩ <;> simp; done)
         | (simp; done)
    · refine ⟨fun h => absurd h (by omega), fun _ => ?_⟩; have ek : k = u.2.length := by omega
      refine ⟨by omega, ?_⟩; refine fin_lp ⟨(A, j + 1), hjl, hA, (by show A.length ≤ 30 * (j + 1); omega), fun t ht p hp => ?_⟩ ?_ (by dsimp only; omega)
      · rw [hts] at ht
        rcases List.mem_append.1 ht with ht | ht
        · exact hAc t ht p hp
        · rw [List.mem_singleton.1 ht] at hp; exact hAu p (by rw [ek, List.take_length]; exact hp)
      · simp only [go_sem]
        first
         | (try first | rfl | (and_intros <;> first | trivial | rfl | omega)
            done)
  refine ⟨fun h => absurd h (by omega), fun _ => ?_⟩; have ej : j = TS.length := by omega
  subst ej; simp only [List.take_length] at hAc ⊢; have hA150 : (ops ++ A).length ≤ 150 := by rw [List.length_append]; have := hops.len; omega
  have hthl : (thinL TS x).length = x.length := by unfold thinL; rw [List.length_map]
  have hpl2 := placesV_len (ops ++ A); have hsm2 : SmC (thinL TS x) (placesV (ops ++ A)) := ⟨by omega, fun o ho => by
   obtain ⟨c, hc, rfl⟩ := List.mem_map.1 ho; exact Nat.le_trans (List.length_filter_le _ _) (Nat.le_trans (hxc c hc) (by decide)), by omega, fun y hy => Nat.le_trans (db_mayC hy) (by omega)⟩
  have hclr : ∀ b ∈ barsV dayV (fltsV 0) 45 [] (thinL TS x) (placesV (ops ++ A)) r, b.1 ≠ 4 ∧ b ∈ B := fun b hb2 => by
   have := hK5.clear hops hA (by omega) hAc hb2; rw [hB] at this; exact this
  generalize barsV dayV (fltsV 0) 45 [] (thinL TS x) (placesV (ops ++ A)) r = AB at hclr ⊢
  (repeat' with_reducible first | refine And.intro ?_ ?_ | intro _) <;> try first | with_reducible (first | assumption | omega | contradiction) | decide
  all_goals try omega
  refine evk_loop ⟨{ k : Nat // k ≤ AB.length }, 4000, fun q => [(10, .one (.sl yBR B false)), (133, .one (.sl yBR AB false)), (134, .one (.int .i64 AB.length)), (135, .one (.int .i64 q.1))], fun q => [], fun q => AB.length - q.1⟩ ⟨0, Nat.zero_le _⟩ ?_ ?_
  · simp only [go_sem]
    first
     | (try first | rfl | (and_intros <;> first | trivial | rfl | omega)
        done)
  rintro ⟨i2, (hi2 : i2 ≤ AB.length)⟩
  (simp -implicitDefEqProofs only [go_sem, bP, con3, con4, con5, con8, con9, con10, con11, con12, con13, con14, con15, con16, con17, con6, con7, hT, hG, hk, hK, Tryz.results3]); (try simp (disch := decide +kernel) only [drawn, true_and, and_true])
  obtain ⟨b2, hb2⟩ : ∃ b, AB.getD i2 br0 = b := ⟨_, rfl⟩; have eb2 : AB.getD (i2 : Int).toNat (0, 0, (0, 0, 0)) = b2 := hb2
  try simp only [eb2]
  · intro hlt; have hil : i2 < AB.length := by omega
    obtain ⟨g1, g2⟩ := hclr b2 (by rw [← hb2]; exact getD_mem hil); refine ⟨⟨by omega, by omega⟩, fun _ _ => ⟨fun h4 => absurd h4 g1, fun _ _ => ?_⟩⟩; refine evk_loop ⟨{ k : Nat // k ≤ B.length }, 5000, fun q => [(10, .one (.sl yBR B false)), (133, .one (.sl yBR AB false)), (134, .one (.int .i64 AB.length)), (135, .one (.int .i64 i2)), (30, .one (.loc 74 0)), (31, .one (.bool (decide (b2 ∈ B.take q.1)))), (142, .one (.sl yBR B false)), (143, .one (.int .i64 B.length)), (144, .one (.int .i64 q.1))], fun q => [(74, .cells 47 [.int .i64 b2.1, .int .i64 b2.2.1, .int .i64 b2.2.2.1, .int .i64 b2.2.2.2.1, .int .i64 b2.2.2.2.2])], fun q => B.length - q.1⟩ ⟨0, Nat.zero_le _⟩ ?_ ?_
    · simp only [go_sem]
      first
       | (try first | rfl | (and_intros <;> first | trivial | rfl | omega)
          done)
    rintro ⟨k, (hkb : k ≤ B.length)⟩
    (simp -implicitDefEqProofs only [go_sem, bP, con3, con4, con5, con8, con9, con10, con11, con12, con13, con14, con15, con16, con17, con6, con7, hT, hG, hk, hK, Tryz.results3]); (try simp (disch := decide +kernel) only [drawn, true_and, and_true])
    obtain ⟨a, hab⟩ : ∃ a, B.getD k br0 = a := ⟨_, rfl⟩; have ea : B.getD (k : Int).toNat (0, 0, (0, 0, 0)) = a := hab
    try simp only [ea]
    have hst : k < B.length → decide (b2 ∈ B.take (k + 1)) = (decide (b2 ∈ B.take k) || decide (a = b2)) := fun h => by
     rw [tsE h, ← getD_lt (d := br0) h, hab, Bool.eq_iff_iff, Bool.or_eq_true, decide_eq_true_eq, decide_eq_true_eq, decide_eq_true_eq, List.mem_append, List.mem_singleton]; exact or_congr Iff.rfl eq_comm
    have hend : k = B.length → decide (b2 ∈ B.take k) = true := fun h => by rw [h, List.take_length]; exact decide_eq_true g2
    (repeat' with_reducible first | refine And.intro ?_ ?_ | intro _) <;> try first | with_reducible (first | assumption | omega | contradiction) | decide
    all_goals first
     | omega
     | (refine fin_lp ⟨k + 1, by omega⟩ ?_ (by dsimp only; omega)
        simp only [go_sem]; rw [hst (by omega), ← bar_dec]
        exact ⟨by omega, rfl⟩)
     | (refine fin_lp ⟨i2 + 1, by omega⟩ ?_ (by dsimp only; omega)
        simp only [go_sem]
        try first | rfl | (and_intros <;> first | trivial | rfl | omega)
        done)
     | exact absurd (of_decide_eq_true (hend (by omega))) (by assumption))
end Go.Proofs.YtkjpbhkldioggaaGreat

namespace Go.Ev
open Go.RowKit Go.WideShapes Go.ChangeShapes
def tyB (P : Program) : Nat → TypeId → Ty → Bool
 | 0, _, _ => false
 | d + 1, t, u => decide (P.cellsOf t = u.n) && decide (0 < u.n) && (match P.underlying t with
   | some (.struct fs) => tyFs (tyB P d) fs.toList 0 u
   | some (.int k) => (match u with | .int k' => decide (k = k') | _ => false)
   | some .bool => (match u with | .bool => true | _ => false)
   | some .string => (match u with | .str => true | _ => false)
   | some (.slice e) => (match u with | .sl v => tyB P d e v | _ => false)
   | _ => false)
where tyFs (f : TypeId → Ty → Bool) : List Field → Nat → Ty → Bool
 | [], _, _ => false
 | [x], off, u => decide (x.offset = off) && f x.type u
 | x :: y :: xs, off, .pair a b => decide (x.offset = off) && f x.type a && tyFs f (y :: xs) (off + a.n) b
 | _, _, _ => false
def sz : (t : Ty) → t.den → Nat
 | .int _, _ => 1
 | .bool, _ => 1
 | .str, s => s.size + 1
 | .unit, _ => 0
 | .sl t, xs => (xs.map (sz t)).sum + 1
 | .pair a b, p => sz a p.1 + sz b p.2
structure Bulk {H : Type} (B : DataW H → Nat) (BA : List (DataW H) → Nat) : Prop where
 lit : ∀ l, 1 ≤ B (.lit l)
 str : ∀ b, b.length + 1 ≤ B (.lit (.string b))
 nil : 1 ≤ B .nil
 sl : ∀ a b, BA a + 1 ≤ B (.slice a b)
 agg : ∀ a, BA a ≤ B (.agg a)
 cons : ∀ d r, BA (d :: r) = B d + BA r
section
variable {H : Type} {enc : TypeId × Value → H} {P : Program} {w : World} {B : DataW H → Nat} {BA : List (DataW H) → Nat}
theorem mapM_at {α β : Type} {f : α → Option β} : ∀ {l : List α} {r : List β}, l.mapM f = some r → r.length = l.length ∧ ∀ (i : Nat) (x : α) (y : β), l[i]? = some x → r[i]? = some y → f x = some y
 | [], r, h => by simp at h; subst h; exact ⟨rfl, fun i x y h => by simp at h⟩
 | a :: l, r, h => by
   rw [List.mapM_cons] at h
   cases hf : f a with
   | none => rw [hf] at h; cases h
   | some b =>
     rw [hf] at h
     cases hl : l.mapM f with
     | none => simp only [hl] at h; cases h
     | some bs =>
       simp only [hl] at h; cases h; obtain ⟨h1, h2⟩ := mapM_at hl; refine ⟨by simp [h1], fun i x y hx hy => ?_⟩
       cases i with
       | zero => simp at hx hy; subst hx; subst hy; exact hf
       | succ i => simp at hx hy; exact h2 i x y hx hy
theorem cells?_spec {a : Addr} {n : Nat} {cs : List Value} (h : w.cells? 0 a n = some cs) : cs.length = n ∧ ∀ j u, cs[j]? = some u → w.cell? (a.add j) = some u := by
 unfold World.cells? at h; rw [if_pos (Nat.zero_le _)] at h; obtain ⟨h1, h2⟩ := mapM_at h; refine ⟨by simpa using h1, fun j u hu => ?_⟩; have hj : j < cs.length := (List.getElem?_eq_some_iff.1 hu).1; have hjn : j < n := by simp at h1; omega
 exact h2 j j u (by simp [hjn]) hu
theorem sum_le {B : DataW H → Nat} {BA : List (DataW H) → Nat} (hB : Bulk B BA) {t : Ty} : ∀ (ys : List t.den) (ds : List (DataW H)), ys.length = ds.length → (∀ (i : Nat) (y : t.den) (d : DataW H), ys[i]? = some y → ds[i]? = some d → sz t y ≤ B d) → (ys.map (sz t)).sum ≤ BA ds
 | [], ds, _, _ => by simp
 | y :: ys, [], h, _ => by simp at h
 | y :: ys, d :: ds, h, hs => by
   have h0 := hs 0 y d rfl rfl; have := sum_le hB ys ds (by simpa using h) (fun i y d hy hd => hs (i + 1) y d (by simpa using hy) (by simpa using hd)); simp only [List.map_cons, List.sum_cons, hB.cons]; omega
theorem roAll_mk {α : Type} {r : α → List Value → Prop} : ∀ (ys : List α) (cs : List (List Value)), ys.length = cs.length → (∀ (i : Nat) (y : α) (c : List Value), ys[i]? = some y → cs[i]? = some c → r y c) → roAll r ys cs.flatten
 | [], [], _, _ => rfl
 | [], _ :: _, h, _ => by simp at h
 | _ :: _, [], h, _ => by simp at h
 | y :: ys, c :: cs, h, hr => ⟨c, cs.flatten, by simp, hr 0 y c rfl rfl, roAll_mk ys cs (by simpa using h) (fun i z d hz hd => hr (i + 1) z d (by simpa using hz) (by simpa using hd))⟩
theorem pickQ {α : Type} {Q : Nat → α → Prop} : ∀ (n : Nat), (∀ i, i < n → ∃ y, Q i y) → ∃ ys : List α, ys.length = n ∧ ∀ (i : Nat) (y : α), ys[i]? = some y → Q i y
 | 0, _ => ⟨[], rfl, fun i y h => by simp at h⟩
 | n + 1, h => by
   obtain ⟨ys, h1, h2⟩ := pickQ n (fun i hi => h i (by omega)); obtain ⟨y, hy⟩ := h n (by omega); refine ⟨ys ++ [y], by simp [h1], fun i z hz => ?_⟩; by_cases e : i < n
   · rw [List.getElem?_append_left (by omega)] at hz; exact h2 i z hz
   · have hlt := (List.getElem?_eq_some_iff.1 hz).1; have : i = n := by simp at hlt; omega
     subst this; rw [List.getElem?_append_right (by omega), h1] at hz; simp at hz; subst hz; exact hy
theorem pick_rows {α : Type} (f : Nat → Option α) : ∀ (n : Nat), (∀ i, i < n → ∃ y, f i = some y) → ∃ ys : List α, ys.length = n ∧ ∀ i, i < n → f i = ys[i]?
 | 0, _ => ⟨[], rfl, fun i hi => by omega⟩
 | n + 1, h => by
   obtain ⟨ys, h1, h2⟩ := pick_rows f n (fun i hi => h i (by omega)); obtain ⟨y, hy⟩ := h n (by omega); refine ⟨ys ++ [y], by simp [h1], fun i hi => ?_⟩; by_cases e : i = n
   · subst e; rw [hy, List.getElem?_append_right (by omega), h1]; simp
   · rw [h2 i (by omega), List.getElem?_append_left (by omega)]
theorem flatten_at {n : Nat} : ∀ (cs : List (List Value)), (∀ c ∈ cs, c.length = n) → ∀ (j : Nat) (u : Value), cs.flatten[j]? = some u → ∃ i q c, cs[i]? = some c ∧ c[q]? = some u ∧ j = i * n + q
 | [], _, j, u, h => by simp at h
 | c :: cs, hl, j, u, h => by
   rw [List.flatten_cons] at h; by_cases hj : j < c.length
   · rw [List.getElem?_append_left hj] at h; exact ⟨0, j, c, rfl, h, by omega⟩
   · rw [List.getElem?_append_right (by omega)] at h; obtain ⟨i, q, d, h1, h2, h3⟩ := flatten_at cs (fun d hd => hl d (by simp [hd])) _ u h; have := hl c (by simp); exact ⟨i + 1, q, d, by simpa using h1, h2, by rw [Nat.add_mul]; omega⟩
theorem add_add (a : Addr) (i j : Nat) (h : a.spot = none) : (a.add i).add j = a.add (i + j) := by
 obtain ⟨b, o, s⟩ := a; simp only at h; subst h; simp [add_none, Nat.add_assoc]
theorem trod_ro (hB : Bulk B BA) : ∀ (fuel d : Nat) (t : TypeId) (u : Ty) (cs : List Value) (x : DataW H × List MemPlace), tyB P d t u = true → DataW.trod enc P w 0 (fun _ => true) true fuel t cs = some x → ∃ y : u.den, ro w (fun _ => False) u y cs ∧ sz u y ≤ B x.1
 | 0, d, t, u, cs, x, _, h => by simp [DataW.trod] at h
 | fuel + 1, 0, t, u, cs, x, ht, h => by cases ht
 | fuel + 1, d + 1, t, u, cs, x, ht, h => by
   simp only [tyB, Bool.and_eq_true, decide_eq_true_eq] at ht; obtain ⟨⟨hn, hpos⟩, ht⟩ := ht
   cases hu : P.underlying t with
   | none => rw [hu] at ht; cases ht
   | some de =>
     rw [hu] at ht; cases de <;> simp only at ht <;> try (cases ht; done)
     case bool =>
      cases u <;> simp only at ht <;> try (cases ht; done)
      obtain ⟨b, rfl, rfl⟩ := DataW.trod_bool hu h; exact ⟨b, rfl, hB.lit _⟩
     case string =>
      cases u <;> simp only at ht <;> try (cases ht; done)
      obtain ⟨s, rfl, rfl, hs⟩ := DataW.trod_string hu h; exact ⟨s, ⟨rfl, hs⟩, by have := hB.str s.data.toList; simpa [sz] using this⟩
     case int k =>
      cases u <;> simp only at ht <;> try (cases ht; done)
      simp only [decide_eq_true_eq] at ht; subst ht; obtain ⟨n, rfl, rfl, hs⟩ := DataW.trod_int hu h; refine ⟨n, ⟨rfl, ?_⟩, hB.lit _⟩; simpa [Lit.wf, InR] using hs
     case slice e =>
      cases u <;> simp only at ht <;> try (cases ht; done)
      rename_i v; have hcell : P.cellsOf e = v.n ∧ 0 < v.n := by
       cases d with
       | zero => cases ht
       | succ d => simp only [tyB, Bool.and_eq_true, decide_eq_true_eq] at ht; exact ht.1
      rcases DataW.trod_slice hu h with ⟨rfl, rfl⟩ | ⟨a, len, cap, elems, rest, n, e1, rfl, rfl, _, hlc, hcm, hel, helem, hsp, _⟩
      · exact ⟨[], ⟨none, 0, 0, rfl, rfl, Nat.le_refl _, by simp [maxLen], .inl rfl⟩, by simpa [sz] using hB.nil⟩
      · cases e1; obtain ⟨hrl, hrest⟩ := hsp rfl; have hspot : 0 < cap → a.spot = none := by
         intro hc; have key : ∀ i y, (w.cells? 0 (a.add (i * P.cellsOf e)) (P.cellsOf e)).bind (DataW.trod enc P w 0 (fun _ => true) true fuel e) = some y → i = 0 → a.spot = none := by
          rintro i y hy rfl; rw [Nat.zero_mul] at hy
          cases hcs : w.cells? 0 (a.add 0) (P.cellsOf e) with
          | none => rw [hcs] at hy; cases hy
          | some c0 =>
            obtain ⟨g1, g2⟩ := cells?_spec hcs; have hp : 0 < c0.length := by omega
            have g3 := g2 0 c0[0] (by simp [hp]); simp only [Addr.add, if_true] at g3; unfold World.cell? at g3; split at g3
            · split at g3
              · cases g3
              · rename_i hs; simpa using hs
            · cases g3
         by_cases hl : 0 < len
         · have := helem 0 hl; rw [List.getElem?_eq_getElem (by omega)] at this; exact key 0 _ this rfl
         · have := hrest 0 (by omega); rw [List.getElem?_eq_getElem (by omega)] at this; exact key _ _ this (by omega)
        have hex : ∀ i, i < len → ∃ c, w.cells? 0 (a.add (i * P.cellsOf e)) (P.cellsOf e) = some c := fun i hi => by
         have := helem i hi; rw [List.getElem?_eq_getElem (by omega)] at this
         cases hc : w.cells? 0 (a.add (i * P.cellsOf e)) (P.cellsOf e) with
         | none => rw [hc] at this; cases this
         | some c => exact ⟨c, rfl⟩
        obtain ⟨css, hcl, hcs⟩ := pick_rows _ len hex; have hrow : ∀ (i : Nat) (c : List Value), css[i]? = some c → ∃ y : v.den, ro w (fun _ => False) v y c ∧ ∃ q, elems[i]? = some q ∧ sz v y ≤ B q.1 := by
         intro i c hc; have hi : i < len := by have := (List.getElem?_eq_some_iff.1 hc).1; omega
         have h1 := helem i hi; rw [hcs i hi, hc] at h1; simp only [Option.bind_some] at h1; rw [List.getElem?_eq_getElem (by omega)] at h1; obtain ⟨y, g1, g2⟩ := trod_ro hB fuel d e v c _ ht h1; exact ⟨y, g1, _, List.getElem?_eq_getElem (by omega), g2⟩
        obtain ⟨ys, hyl, hyat⟩ := pickQ (Q := fun i (y : v.den) => ∀ c, css[i]? = some c → ro w (fun _ => False) v y c ∧ ∃ q, elems[i]? = some q ∧ sz v y ≤ B q.1) len (fun i hi => by
         obtain ⟨y, g⟩ := hrow i css[i] (List.getElem?_eq_getElem (by omega)); exact ⟨y, fun c hc => by
          have : css[i] = c := by rw [List.getElem?_eq_getElem (by omega)] at hc; exact Option.some.inj hc
          rw [← this]; exact g⟩)
        have hro : roAll (ro w (fun _ => False) v) ys css.flatten := roAll_mk ys css (by omega) (fun i y c hy hc => (hyat i y hy c hc).1); refine ⟨ys, ⟨some a, len, cap, rfl, hyl.symm, hlc, hcm, ?_⟩, ?_⟩
        · by_cases hc0 : cap = 0
          · exact .inl hc0
          · have hs := hspot (by omega); refine .inr ⟨a.block, a.off, css.flatten, by obtain ⟨b, o, s⟩ := a; simp only at hs; subst hs; rfl, hro, fun j q hq => ⟨fun h => h, ?_⟩⟩; obtain ⟨i, r, c, g1, g2, g3⟩ := flatten_at (n := v.n) css (fun c hc => by
             obtain ⟨i, hi, rfl⟩ := List.mem_iff_getElem.1 hc; have := hcs i (by omega); rw [List.getElem?_eq_getElem hi] at this; rw [(cells?_spec this).1]; exact hcell.1) j q hq
            have hi : i < len := by have := (List.getElem?_eq_some_iff.1 g1).1; omega
            have := hcs i hi; rw [g1] at this; have := (cells?_spec this).2 r q g2; rw [add_add _ _ _ hs] at this; obtain ⟨b, o, s⟩ := a; simp only at hs; subst hs; rw [add_none] at this; rw [g3, ← hcell.1]; exact this
        · have := sum_le hB ys (elems.map (·.1)) (by simp; omega) (fun i y q hy hq => by
           have hi : i < len := by have := (List.getElem?_eq_some_iff.1 hy).1; omega
           obtain ⟨_, z, g1, g2⟩ := hyat i y hy css[i] (List.getElem?_eq_getElem (by omega)); rw [List.getElem?_map, g1] at hq; simp at hq; subst hq; exact g2)
          have h2 := hB.sl (elems.map (·.1)) (rest.map (·.1)); simp only [sz]; omega
     case struct fs =>
      obtain ⟨xs, n, e1, rfl, hcl, hxl, hf⟩ := DataW.trod_struct hu h; cases e1; have key : ∀ (fl : List Field) (off : Nat) (u : Ty) (i : Nat), tyB.tyFs (tyB P d) fl off u = true → (∀ (j : Nat) (f : Field), fl[j]? = some f → fs[i + j]? = some f) → i + fl.length = fs.size → off + u.n ≤ cs.length →
       ∃ y : u.den, ro w (fun _ => False) u y ((cs.drop off).take u.n) ∧ sz u y ≤ BA ((xs.drop i).map (·.1)) := by
       intro fl
       induction fl with
       | nil => intro off u i h _ _ _; cases h
       | cons f fl ih =>
         intro off u i hfl hat hlen hoff; have h0 := hat 0 f rfl; have hf0 := hf i f (by simpa using h0); have hi : i < xs.length := by simp at hlen; omega
         have hdrop : xs.drop i = xs[i] :: xs.drop (i + 1) := List.drop_eq_getElem_cons hi; have hlast : ∀ u, f.offset = off → tyB P d f.type u = true → ∃ y : u.den, ro w (fun _ => False) u y ((cs.drop off).take u.n) ∧ sz u y ≤ B xs[i].1 := by
          intro u e1 e2; rw [List.getElem?_eq_getElem hi, e1] at hf0; have hc : P.cellsOf f.type = u.n := by
           cases d with
           | zero => cases e2
           | succ d => simp only [tyB, Bool.and_eq_true, decide_eq_true_eq] at e2; exact e2.1.1
          rw [hc] at hf0; exact trod_ro hB fuel d f.type u _ _ e2 hf0
         match fl, hfl with
         | [], hfl =>
           simp only [tyB.tyFs, Bool.and_eq_true, decide_eq_true_eq] at hfl; obtain ⟨y, g1, g2⟩ := hlast u hfl.1 hfl.2; refine ⟨y, g1, ?_⟩
           rw [hdrop, List.map_cons, hB.cons]; omega
         | f2 :: fl, hfl =>
           cases u <;> simp only [tyB.tyFs] at hfl <;> try (cases hfl; done)
           rename_i a b _; simp only [Bool.and_eq_true, decide_eq_true_eq] at hfl; obtain ⟨y, g1, g2⟩ := hlast a hfl.1.1 hfl.1.2; simp only [Ty.n] at hoff; obtain ⟨z, k1, k2⟩ := ih (off + a.n) b (i + 1) hfl.2 (fun j g hg => by have := hat (j + 1) g (by simpa using hg); rwa [show i + (j + 1) = i + 1 + j by omega] at this) (by simp at hlen ⊢; omega) (by omega); refine ⟨(y, z), ⟨_, _, ?_, g1, k1⟩, ?_⟩
           · simp only [Ty.n]; rw [← List.drop_drop, ← List.take_add]
           · rw [hdrop, List.map_cons, hB.cons]; simp only [sz]; omega
      obtain ⟨y, g1, g2⟩ := key fs.toList 0 u 0 ht (fun j f hj => by simpa using hj) (by simp) (by omega); refine ⟨y, ?_, ?_⟩
      · rw [List.drop_zero, List.take_of_length_le (by omega)] at g1; exact g1
      · rw [List.drop_zero] at g2; exact Nat.le_trans g2 (hB.agg _)
end
end Go.Ev
