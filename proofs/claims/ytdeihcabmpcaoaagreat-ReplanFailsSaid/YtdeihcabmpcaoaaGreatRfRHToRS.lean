/- The contracts of the functions that the statements about the makeup reach: the peak. -/
import Derived.Test.YtdeihcabmpcaoaaGreatEvSortToSortF
import Derived.Test.YtdeihcabmpcaoaaGreatRfREToRG
import Derived.Test.YtdeihcabmpcaoaaGreatRfLay
set_option linter.unusedSimpArgs false
set_option linter.unusedVariables false
set_option maxRecDepth 100000
set_option maxHeartbeats 4000000
namespace Go.Proofs.YtdeihcabmpcaoaaGreat
open Go.Ev

/-- How many are open. -/
def cnt (l : List Dep) (t : Int) : Nat := l.countP (fun d => isOpenV d t)
theorem openV_cnt (l : List Dep) (t : Int) : (openV l t).length = cnt l t := by
 unfold openV cnt
 rw [List.length_map, List.countP_eq_length_filter]
theorem isOpenV_iff (d : Dep) (t : Int) : isOpenV d t = true ↔ d.state = 0 ∧ d.opens ≤ t ∧ t < d.closes := by
 unfold isOpenV
 simp only [Bool.and_eq_true, decide_eq_true_eq]
 exact ⟨fun h => ⟨h.1.1, h.1.2, h.2⟩, fun h => ⟨⟨h.1, h.2.1⟩, h.2.2⟩⟩
theorem max_opens : ∀ (l : List Dep), l ≠ [] → ∃ d ∈ l, ∀ e ∈ l, e.opens ≤ d.opens
 | [], h => absurd rfl h
 | [d], _ => ⟨d, by simp, by simp⟩
 | a :: b :: l, _ => by
   obtain ⟨d, hd, h⟩ := max_opens (b :: l) (by simp)
   by_cases c : d.opens ≤ a.opens
   · exact ⟨a, by simp, fun e he => by rcases List.mem_cons.1 he with rfl | he; exact Int.le_refl _; have := h e he; omega⟩
   · exact ⟨d, List.mem_cons_of_mem _ hd, fun e he => by rcases List.mem_cons.1 he with rfl | he; omega; exact h e he⟩
theorem cnt_mono {l : List Dep} {x : Int} (h : 0 < cnt l x) : ∃ d ∈ l, isOpenV d x = true ∧ cnt l x ≤ cnt l d.opens := by
 have hne : l.filter (fun d => isOpenV d x) ≠ [] := fun e => by
  unfold cnt at h
  rw [List.countP_eq_length_filter, e] at h
  simp at h
 obtain ⟨d, hd, hm⟩ := max_opens _ hne
 obtain ⟨hdl, hdo⟩ := List.mem_filter.1 hd
 refine ⟨d, hdl, hdo, ?_⟩
 unfold cnt
 refine List.countP_mono_left fun e he heo => ?_
 have h1 := hm e (List.mem_filter.2 ⟨he, heo⟩)
 rw [isOpenV_iff] at heo hdo ⊢
 omega
def IsPk (l : List Dep) (p : Int × Int) : Prop := (p.2 = 0 ∧ p.1 = 0 ∧ ∀ x, cnt l x = 0) ∨ (0 < p.2 ∧ (cnt l p.1 : Int) = p.2 ∧ ∀ x, (cnt l x : Int) ≤ p.2 ∧ ((cnt l x : Int) = p.2 → p.1 ≤ x))
theorem IsPk.unique {l : List Dep} {p q : Int × Int} (hp : IsPk l p) (hq : IsPk l q) : p = q := by
 obtain ⟨t, n⟩ := p
 obtain ⟨t', n'⟩ := q
 unfold IsPk at hp hq
 simp only at hp hq
 rcases hp with ⟨h1, h2, h3⟩ | ⟨h1, h2, h3⟩ <;> rcases hq with ⟨g1, g2, g3⟩ | ⟨g1, g2, g3⟩
 · rw [h1, h2, g1, g2]
 · have := h3 t'; omega
 · have := g3 t; omega
 · have a := h3 t'
   have b := g3 t
   have e : n = n' := by omega
   have := a.2 (by omega)
   have := b.2 (by omega)
   have e2 : t = t' := by omega
   rw [e, e2]
def pkStep (l : List Dep) (a : Int × Int) (d : Dep) : Int × Int :=
 if ((openV l d.opens).length : Int) > a.2 ∨ (((openV l d.opens).length : Int) = a.2 ∧ ((openV l d.opens).length : Int) > 0) ∧ d.opens < a.1 then (d.opens, ((openV l d.opens).length : Int)) else a
def peakV (l : List Dep) : Int × Int := l.foldl (pkStep l) (0, 0)
theorem peakV_is (l : List Dep) : IsPk l (peakV l) := by
 have key : ∀ (r : List Dep) (a : Int × Int) (P : Dep → Prop), (a.2 = 0 ∧ a.1 = 0 ∧ ∀ d, P d → cnt l d.opens = 0) ∨ (0 < a.2 ∧ (cnt l a.1 : Int) = a.2 ∧ ∀ d, P d → (cnt l d.opens : Int) ≤ a.2 ∧ ((cnt l d.opens : Int) = a.2 → a.1 ≤ d.opens)) →
  ((r.foldl (pkStep l) a).2 = 0 ∧ (r.foldl (pkStep l) a).1 = 0 ∧ ∀ d, (P d ∨ d ∈ r) → cnt l d.opens = 0) ∨ (0 < (r.foldl (pkStep l) a).2 ∧ (cnt l (r.foldl (pkStep l) a).1 : Int) = (r.foldl (pkStep l) a).2 ∧ ∀ d, (P d ∨ d ∈ r) → (cnt l d.opens : Int) ≤ (r.foldl (pkStep l) a).2 ∧ ((cnt l d.opens : Int) = (r.foldl (pkStep l) a).2 → (r.foldl (pkStep l) a).1 ≤ d.opens)) := by
  intro r
  induction r with
  | nil => intro a P h; simpa using h
  | cons d r ih =>
    intro a P h
    have := ih (pkStep l a d) (fun e => P e ∨ e = d) (by
     unfold pkStep
     rw [openV_cnt]
     split
     · rename_i hc
       right
       dsimp only
       have hpos : (0 : Int) < cnt l d.opens := by
        rcases h with ⟨h1, h2, h3⟩ | ⟨h1, h2, h3⟩ <;> omega
       refine ⟨hpos, rfl, fun e he => ?_⟩
       rcases he with he | rfl
       · rcases h with ⟨h1, h2, h3⟩ | ⟨h1, h2, h3⟩
         · have := h3 e he; omega
         · obtain ⟨u, v⟩ := h3 e he
           refine ⟨by omega, fun k => ?_⟩
           have := v (by omega)
           omega
       · exact ⟨Int.le_refl _, fun _ => Int.le_refl _⟩
     · rename_i hc
       rcases h with ⟨h1, h2, h3⟩ | ⟨h1, h2, h3⟩
       · refine .inl ⟨h1, h2, fun e he => ?_⟩
         rcases he with he | rfl
         · exact h3 e he
         · omega
       · refine .inr ⟨h1, h2, fun e he => ?_⟩
         rcases he with he | rfl
         · exact h3 e he
         · exact ⟨by omega, fun k => by omega⟩)
    rw [List.foldl_cons]
    have hq : ∀ e, (P e ∨ e ∈ d :: r) → ((P e ∨ e = d) ∨ e ∈ r) := fun e he => by
     rcases he with he | he
     · exact .inl (.inl he)
     · rcases List.mem_cons.1 he with rfl | he
       · exact .inl (.inr rfl)
       · exact .inr he
    rcases this with ⟨h1, h2, h3⟩ | ⟨h1, h2, h3⟩
    · exact .inl ⟨h1, h2, fun e he => h3 e (hq e he)⟩
    · exact .inr ⟨h1, h2, fun e he => h3 e (hq e he)⟩
 have := key l (0, 0) (fun _ => False) (.inl ⟨rfl, rfl, fun _ h => h.elim⟩)
 unfold IsPk peakV
 rcases this with ⟨h1, h2, h3⟩ | ⟨h1, h2, h3⟩
 · refine .inl ⟨h1, h2, fun x => ?_⟩
   rcases Nat.eq_zero_or_pos (cnt l x) with e | e
   · exact e
   · obtain ⟨d, hd, _, hm⟩ := cnt_mono e
     have := h3 d (.inr hd)
     omega
 · refine .inr ⟨h1, h2, fun x => ?_⟩
   rcases Nat.eq_zero_or_pos (cnt l x) with e | e
   · omega
   · obtain ⟨d, hd, ho, hm⟩ := cnt_mono e
     obtain ⟨u, v⟩ := h3 d (.inr hd)
     rw [isOpenV_iff] at ho
     exact ⟨by omega, fun k => by have := v (by omega); omega⟩
def con12 : Con := { ps := [.d false (.sl yDP)], rs := [.d false (.int .i64), .d false (.int .i64)], pre := fun (x : List Dep × Unit) => x.1.length ≤ 1048576, out := fun (x : List Dep × Unit) => ((peakV x.1).1, (peakV x.1).2, ()), nw := id }
theorem c12 : CtrOk Tryz.prog 12 con12.ctr :=
 con_sound (G := ⟨[(42, con42.ctr)], [], [], [], []⟩) tab_ok (EnvOk.cons c42 has42 EnvOk.nil) rfl Tryz.func12 rfl con12 1099511632381 (by kernel_rfl) (by decide) (by decide) rfl (by decide) rfl (by
  rintro ⟨(l : List Dep), _⟩ hpre hwf X hT hG hk hK
  have hl : l.length ≤ 1048576 := hpre
  (simp -implicitDefEqProofs (maxSteps := 4000000) only [go_sem, Bool.not_eq_true', Bool.not_eq_false', Bool.or_eq_true, Bool.or_eq_false_iff, Bool.and_eq_true, Bool.and_eq_false_iff, decide_eq_true_eq, decide_eq_false_iff_not, Classical.not_not, not_or, maxLen, con12, con42, hT, hG, hk, hK, Tryz.results12] at hwf ⊢); (try simp (disch := decide +kernel) only [drawn, true_and, and_true])
  refine evk_loop ⟨{ i : Nat // i ≤ l.length }, 1000, fun i => [(0, .one (.sl yDP l false)), (4, .one (.int .i64 ((l.take i.1).foldl (pkStep l) (0, 0)).1)), (5, .one (.int .i64 ((l.take i.1).foldl (pkStep l) (0, 0)).2)), (6, .one (.int .i64 i.1))], fun _ => [], fun i => l.length - i.1⟩ ⟨0, by simp⟩ ?_ ?_
  · simp only [go_sem]
    exact ⟨rfl, rfl, rfl⟩
  · rintro ⟨i, (hi : i ≤ l.length)⟩
    (simp -implicitDefEqProofs (maxSteps := 4000000) only [go_sem, Bool.not_eq_true', Bool.not_eq_false', Bool.or_eq_true, Bool.or_eq_false_iff, Bool.and_eq_true, Bool.and_eq_false_iff, decide_eq_true_eq, decide_eq_false_iff_not, Classical.not_not, not_or, maxLen, con12, con42, hT, hG, hk, hK, Tryz.results12]); (try simp (disch := decide +kernel) only [drawn, true_and, and_true])
    refine fun _ => ⟨fun hlt => ?_, fun hge => ?_⟩
    · have hi' : i < l.length := by omega
      have ek : ∀ z, l.getD (i : Int).toNat z = l[i] := fun z => by simp [hi']
      simp only [ek]
      have hst : (l.take (i + 1)).foldl (pkStep l) (0, 0) = pkStep l ((l.take i).foldl (pkStep l) (0, 0)) l[i] := by
       rw [List.take_succ_eq_append_getElem hi', List.foldl_append]; rfl
      have hop := openV_len l l[i].2.2.1
      generalize (l.take i).foldl (pkStep l) (0, 0) = a at hst ⊢
      (repeat' (with_reducible (first | refine And.intro ?_ ?_ | intro _))) <;> (try (first | with_reducible (first | done | assumption | omega | contradiction) | decide))
      · have hc : ((openV l l[i].opens).length : Int) > a.2 ∨ (((openV l l[i].opens).length : Int) = a.2 ∧ ((openV l l[i].opens).length : Int) > 0) ∧ l[i].opens < a.1 := by assumption
        have e : pkStep l a l[i] = (l[i].opens, ((openV l l[i].opens).length : Int)) := if_pos hc
        refine fin_lp ⟨i + 1, by omega⟩ ?_ ?_
        · simp only [go_sem]
          rw [hst, e]
          exact ⟨rfl, rfl, rfl⟩
        · dsimp only; omega
      · have hc : ¬ ((openV l l[i].opens).length : Int) > a.2 ∧ ((¬ ((openV l l[i].opens).length : Int) = a.2 ∨ ¬ ((openV l l[i].opens).length : Int) > 0) ∨ ¬ l[i].opens < a.1) := by assumption
        have e : pkStep l a l[i] = a := if_neg (by omega)
        refine fin_lp ⟨i + 1, by omega⟩ ?_ ?_
        · simp only [go_sem]
          rw [hst, e]
          exact ⟨rfl, rfl, rfl⟩
        · dsimp only; omega
    · rw [List.take_of_length_le (by omega)]
      exact ⟨rfl, rfl⟩)
def con52 : Con := { ps := [.o 3 (.int .i64)], rs := [], pre := fun x => x.1.length < 4611686018427387904, out := fun _ => (), nw := fun x => (sortI x.1, ()) }
theorem c52 : CtrOk Tryz.prog 52 con52.ctr := sort_int Tryz.sortA 3
theorem sortI_len (l : List Int) : (sortI l).length = l.length := List.length_mergeSort l
theorem sortI_perm (l : List Int) : (sortI l).Perm l := List.mergeSort_perm l _
theorem sortI_sorted (l : List Int) : (sortI l).Pairwise (· ≤ ·) := by
 have h := List.pairwise_mergeSort (le := fun x y : Int => decide (x ≤ y)) (fun a b c => by simp; omega) (fun a b => by simp; omega) l
 exact h.imp (fun h => by simpa using h)
theorem sorted_le {L : List Int} (h : L.Pairwise (· ≤ ·)) {i j : Nat} (hij : i ≤ j) (hj : j < L.length) : L[i]'(by omega) ≤ L[j] := by
 rcases Nat.lt_or_eq_of_le hij with h1 | rfl
 · exact List.pairwise_iff_getElem.1 h i j (by omega) hj h1
 · exact Int.le_refl _
/-- How many of a sorted list are at most t. -/
theorem count_sorted {L : List Int} {t : Int} {k : Nat} (hk : k ≤ L.length) (h1 : ∀ j (h : j < k), L[j]'(by omega) ≤ t) (h2 : ∀ j (h : j < L.length), k ≤ j → t < L[j]) : L.countP (fun x => decide (x ≤ t)) = k := by
 have e : L = L.take k ++ L.drop k := (List.take_append_drop k L).symm
 rw [e, List.countP_append]
 have a : (L.take k).countP (fun x => decide (x ≤ t)) = (L.take k).length := by
  rw [List.countP_eq_length]
  intro x hx
  obtain ⟨j, hj, rfl⟩ := List.mem_iff_getElem.1 hx
  rw [List.length_take] at hj
  rw [List.getElem_take]
  exact decide_eq_true (h1 j (by omega))
 have b : (L.drop k).countP (fun x => decide (x ≤ t)) = 0 := by
  rw [List.countP_eq_zero]
  intro x hx
  obtain ⟨j, hj, rfl⟩ := List.mem_iff_getElem.1 hx
  rw [List.length_drop] at hj
  rw [List.getElem_drop]
  have := h2 (k + j) (by omega) (by omega)
  rw [decide_eq_true_eq]
  omega
 rw [a, b, List.length_take]
 omega
def good (d : Dep) : Bool := decide (d.state = 0) && decide (d.opens < d.closes)
def goodL (l : List Dep) : List Dep := l.filter good
theorem goodL_snoc (l : List Dep) (d : Dep) : goodL (l ++ [d]) = if good d = true then goodL l ++ [d] else goodL l := by
 unfold goodL
 rw [List.filter_append]
 by_cases h : good d = true
 · rw [if_pos h]; simp [h]
 · rw [if_neg h]; simp [h]
theorem goodL_len (l : List Dep) : (goodL l).length ≤ l.length := List.length_filter_le _ _
theorem cnt_good (l : List Dep) (t : Int) : (cnt l t : Int) = ((goodL l).map Dep.opens).countP (fun x => decide (x ≤ t)) - ((goodL l).map Dep.closes).countP (fun x => decide (x ≤ t)) := by
 induction l with
 | nil => rfl
 | cons d l ih =>
   have hc : cnt (d :: l) t = cnt l t + if isOpenV d t = true then 1 else 0 := by
    unfold cnt; rw [List.countP_cons]
   have hg : goodL (d :: l) = if good d = true then d :: goodL l else goodL l := by unfold goodL; rw [List.filter_cons]
   rw [hc, hg]
   by_cases h : good d = true
   · rw [if_pos h, List.map_cons, List.map_cons, List.countP_cons, List.countP_cons]
     unfold good at h
     simp only [Bool.and_eq_true, decide_eq_true_eq] at h ⊢
     have hi := isOpenV_iff d t
     by_cases ho : isOpenV d t = true
     · rw [if_pos ho]
       have := hi.1 ho
       rw [if_pos this.2.1, if_neg (by omega)]
       omega
     · rw [if_neg ho]
       have : ¬ (d.opens ≤ t ∧ t < d.closes) := fun k => ho (hi.2 ⟨h.1, k.1, k.2⟩)
       by_cases c1 : d.opens ≤ t
       · rw [if_pos c1, if_pos (by omega)]; omega
       · rw [if_neg c1, if_neg (by omega)]; omega
   · rw [if_neg h, if_neg]
     · exact ih
     · intro ho
       rw [isOpenV_iff] at ho
       apply h
       unfold good
       simp only [Bool.and_eq_true, decide_eq_true_eq]
       omega
/-- What the sweep has found. -/
def Acc (l : List Dep) (t n : Int) : Prop := (n = 0 ∧ t = 0) ∨ (0 < n ∧ (cnt l t : Int) = n)
theorem sweep_is {l : List Dep} {t n : Int} (ha : Acc l t n) (h : ∀ s ∈ (goodL l).map Dep.opens, (cnt l s : Int) ≤ n ∧ ((cnt l s : Int) = n → 0 < n → t ≤ s)) : (t, n) = peakV l := by
 refine IsPk.unique (l := l) ?_ (peakV_is l)
 have hd : ∀ x, 0 < cnt l x → ∃ s, s ≤ x ∧ cnt l x ≤ cnt l s ∧ s ∈ (goodL l).map Dep.opens := fun x hx => by
  obtain ⟨d, h1, h2, h3⟩ := cnt_mono hx
  rw [isOpenV_iff] at h2
  refine ⟨d.opens, h2.2.1, h3, List.mem_map.2 ⟨d, List.mem_filter.2 ⟨h1, ?_⟩, rfl⟩⟩
  unfold good
  simp only [Bool.and_eq_true, decide_eq_true_eq]
  omega
 unfold IsPk
 rcases ha with ⟨h1, h2⟩ | ⟨h1, h2⟩
 · refine .inl ⟨h1, h2, fun x => ?_⟩
   rcases Nat.eq_zero_or_pos (cnt l x) with e | e
   · exact e
   · obtain ⟨s, a, b, c⟩ := hd x e
     have := (h s c).1
     omega
 · refine .inr ⟨h1, h2, fun x => ?_⟩
   dsimp only at h1 h2 ⊢
   rcases Nat.eq_zero_or_pos (cnt l x) with e | e
   · omega
   · obtain ⟨s, a, b, c⟩ := hd x e
     obtain ⟨u, v⟩ := h s c
     exact ⟨by omega, fun k => by have := v (by omega) h1; omega⟩
def con23 : Con := { ps := [.d false (.sl yDP)], rs := [.d false (.int .i64), .d false (.int .i64)], pre := fun (x : List Dep × Unit) => x.1.length ≤ 1048576, out := fun (x : List Dep × Unit) => ((peakV x.1).1, (peakV x.1).2, ()), nw := id }
theorem c23 : CtrOk Tryz.prog 23 con23.ctr :=
 con_sound (G := ⟨[(52, con52.ctr)], [], [], [], []⟩) tab_ok (EnvOk.cons c52 has52 EnvOk.nil) rfl Tryz.func23 rfl con23 77522405076804009365602237 (by kernel_rfl) (by decide) (by decide) rfl (by decide) rfl (by
  rintro ⟨(l : List Dep), _⟩ hpre hwf X hT hG hk hK
  have hl : l.length ≤ 1048576 := hpre
  (simp -implicitDefEqProofs (maxSteps := 4000000) only [go_sem, Bool.not_eq_true', Bool.not_eq_false', Bool.or_eq_true, Bool.or_eq_false_iff, Bool.and_eq_true, Bool.and_eq_false_iff, decide_eq_true_eq, decide_eq_false_iff_not, Classical.not_not, not_or, maxLen, con23, con52, hT, hG, hk, hK, Tryz.results23] at hwf ⊢); (try simp (disch := decide +kernel) only [drawn, true_and, and_true])
  refine fun _ => evk_loop ⟨{ i : Nat // i ≤ l.length }, 1000, fun i => [(4, .one (.row 64)), (5, .one (.row 65)), (14, .one (.sl yDP l false)), (15, .one (.int .i64 l.length)), (16, .one (.int .i64 i.1))],
   fun i => [(64, .row 3 (.int .i64) ((goodL (l.take i.1)).map Dep.opens)), (65, .row 3 (.int .i64) ((goodL (l.take i.1)).map Dep.closes))], fun i => l.length - i.1⟩ ⟨0, by simp⟩ ?_ ?_
  · simp only [go_sem]
    exact ⟨rfl, rfl, rfl⟩
  · rintro ⟨i, (hi : i ≤ l.length)⟩
    (simp -implicitDefEqProofs (maxSteps := 4000000) only [go_sem, Bool.not_eq_true', Bool.not_eq_false', Bool.or_eq_true, Bool.or_eq_false_iff, Bool.and_eq_true, Bool.and_eq_false_iff, decide_eq_true_eq, decide_eq_false_iff_not, Classical.not_not, not_or, maxLen, con23, con52, hT, hG, hk, hK, Tryz.results23]); (try simp (disch := decide +kernel) only [drawn, true_and, and_true])
    refine ⟨fun hlt => ?_, fun hge => ?_⟩
    · have hi' : i < l.length := by omega
      have ek : ∀ z, l.getD (i : Int).toNat z = l[i] := fun z => by simp [hi']
      simp only [ek]
      have hst : goodL (l.take (i + 1)) = if good l[i] = true then goodL (l.take i) ++ [l[i]] else goodL (l.take i) := by
       rw [List.take_succ_eq_append_getElem hi', goodL_snoc]
      have hlen := goodL_len (l.take i)
      rw [List.length_take] at hlen
      simp only [List.length_map]
      (repeat' (with_reducible (first | refine And.intro ?_ ?_ | intro _))) <;> (try (first | with_reducible (first | done | assumption | omega | contradiction) | decide))
      · have hg : good l[i] = true := by
         unfold good
         simp only [Bool.and_eq_true, decide_eq_true_eq]
         assumption
        refine fin_lp ⟨i + 1, by omega⟩ ?_ ?_
        · simp only [go_sem]
          rw [hst, if_pos hg, List.map_append, List.map_append]
          exact ⟨rfl, rfl, rfl⟩
        · dsimp only; omega
      · have hg : ¬ good l[i] = true := by
         unfold good
         simp only [Bool.and_eq_true, decide_eq_true_eq]
         have h : ¬ l[i].2.2.2.2.2.2 = 0 ∨ ¬ l[i].2.2.1 < l[i].2.2.2.1 := by assumption
         intro k
         rcases h with h | h
         · exact h k.1
         · exact h k.2
        refine fin_lp ⟨i + 1, by omega⟩ ?_ ?_
        · simp only [go_sem]
          rw [hst, if_neg hg]
          exact ⟨rfl, rfl, rfl⟩
        · dsimp only; omega
    · rw [List.take_of_length_le (by omega)]
      have hgl := goodL_len l
      have hcnt := fun t => cnt_good l t
      have hfin := fun t n => @sweep_is l t n
      generalize hA : (goodL l).map Dep.opens = A at hcnt hfin ⊢
      generalize hB : (goodL l).map Dep.closes = B at hcnt ⊢
      have hAl : A.length ≤ 1048576 := by rw [← hA, List.length_map]; omega
      have hBl : B.length = A.length := by rw [← hA, ← hB, List.length_map, List.length_map]
      have hSs := sortI_sorted A
      have hEs := sortI_sorted B
      have hSl := sortI_len A
      have hEl := sortI_len B
      have hcnt2 : ∀ t, (cnt l t : Int) = (sortI A).countP (fun x => decide (x ≤ t)) - (sortI B).countP (fun x => decide (x ≤ t)) := fun t => by
       rw [hcnt, (sortI_perm A).countP_eq, (sortI_perm B).countP_eq]
      have hmem : ∀ s, s ∈ A → s ∈ sortI A := fun s h => (sortI_perm A).mem_iff.2 h
      generalize sortI A = S at *
      generalize sortI B = E at *
      refine ⟨by omega, by omega, fun _ => ?_⟩
      clear hA hB hcnt
      refine evk_loop ⟨{ q : Nat × Int × Int × Nat // q.1 ≤ S.length ∧ q.2.2.2 ≤ E.length ∧ Acc l q.2.1 q.2.2.1 ∧ (∀ j (h : j < E.length) k (hk : k < S.length), j < q.2.2.2 → q.1 ≤ k → E[j] ≤ S[k])
       ∧ (∀ k (hk : k < S.length), k < q.1 → (∃ hi : q.1 < S.length, S[k] = S[q.1]) ∨ ((cnt l S[k] : Int) ≤ q.2.2.1 ∧ ((cnt l S[k] : Int) = q.2.2.1 → 0 < q.2.2.1 → q.2.1 ≤ S[k])))
       ∧ (0 < q.2.2.1 → ∀ k (hk : k < S.length), q.1 ≤ k → q.2.1 ≤ S[k]) ∧ -1 ≤ q.2.2.1 ∧ q.2.2.1 ≤ 1048577 }, 3000,
       fun q => [(4, .one (.row 64)), (5, .one (.row 65)), (8, .one (.int .i64 q.1.2.1)), (9, .one (.int .i64 q.1.2.2.1)), (10, .one (.int .i64 q.1.2.2.2)), (45, .one (.row 64)), (46, .one (.int .i64 S.length)), (47, .one (.int .i64 q.1.1))],
       fun q => [(64, .row 3 (.int .i64) S), (65, .row 3 (.int .i64) E)], fun q => S.length - q.1.1⟩ ⟨(0, 0, 0, 0), by simp, by simp, .inl ⟨rfl, rfl⟩, by intro j h k hk h1; simp at h1, by intro k hk h1; simp at h1, by simp, by simp, by simp⟩ ?_ ?_
      · simp only [go_sem]
        rfl
      · rintro ⟨⟨i, time, most, ov⟩, (c1 : i ≤ S.length), (c2 : ov ≤ E.length), (c3 : Acc l time most), (c4 : ∀ j (h : j < E.length) k (hk : k < S.length), j < ov → i ≤ k → E[j] ≤ S[k]), (c5 : ∀ k (hk : k < S.length), k < i → (∃ hi : i < S.length, S[k] = S[i]) ∨ ((cnt l S[k] : Int) ≤ most ∧ ((cnt l S[k] : Int) = most → 0 < most → time ≤ S[k]))), (c6 : 0 < most → ∀ k (hk : k < S.length), i ≤ k → time ≤ S[k]), (c7 : -1 ≤ most), (c8 : most ≤ 1048577)⟩
        (simp -implicitDefEqProofs (maxSteps := 4000000) only [go_sem, Bool.not_eq_true', Bool.not_eq_false', Bool.or_eq_true, Bool.or_eq_false_iff, Bool.and_eq_true, Bool.and_eq_false_iff, decide_eq_true_eq, decide_eq_false_iff_not, Classical.not_not, not_or, maxLen, con23, con52, hT, hG, hk, hK, Tryz.results23]); (try simp (disch := decide +kernel) only [drawn, true_and, and_true])
        refine ⟨fun hlt => ?_, fun hge => ?_⟩
        · have hi' : i < S.length := by omega
          have ek : ∀ z, S.getD (i : Int).toNat z = S[i] := fun z => by simp [hi']
          simp only [ek]
          (repeat' (with_reducible (first | refine And.intro ?_ ?_ | intro _))) <;> (try (first | with_reducible (first | done | assumption | omega | contradiction) | decide))
          · rename_i h
            have hi2 : i + 1 < S.length := by omega
            have e2 : S[i + 1] = S[i] := by
             have := h.2
             rw [show ((i : Int) + 1).toNat = i + 1 by omega] at this
             simpa [hi2] using this
            refine fin_lp ⟨(i + 1, time, most, ov), by dsimp only; omega, c2, c3, fun j h k hk a b => c4 j h k hk a (by dsimp only at b; omega), ?_, fun a k hk b => c6 a k hk (by dsimp only at b; omega), c7, c8⟩ (by simp only [go_sem]; first | rfl | ((repeat' apply And.intro) <;> first | rfl | assumption | omega)) (by dsimp only; omega)
            intro k hk hki
            dsimp only at hki ⊢
            rcases Nat.lt_or_eq_of_le (Nat.lt_succ_iff.1 hki) with h1 | rfl
            · rcases c5 k hk h1 with ⟨_, h2⟩ | h2
              · exact .inl ⟨hi2, by rw [h2, e2]⟩
              · exact .inr h2
            · exact .inl ⟨hi2, e2.symm⟩
          · rename_i h
            have hgt : ∀ j (h : j < S.length), i + 1 ≤ j → S[i] < S[j] := by
             intro j hj hij
             have hi2 : i + 1 < S.length := by omega
             have e2 : ¬ S[i + 1] = S[i] := by
              intro e
              rcases h with h | h
              · omega
              · apply h
                rw [show ((i : Int) + 1).toNat = i + 1 by omega]
                simpa [hi2] using e
             have u1 : S[i] ≤ S[i + 1] := sorted_le hSs (Nat.le_succ i) hi2
             have u2 := sorted_le hSs hij hj
             omega
            have hS := count_sorted (L := S) (t := S[i]) (k := i + 1) (by omega) (fun j hj => sorted_le hSs (by omega) hi') hgt
            refine evk_loop ⟨{ o : Nat // o ≤ E.length ∧ ∀ j (h : j < E.length), j < o → E[j] ≤ S[i] }, 4000,
             fun q => [(4, .one (.row 64)), (5, .one (.row 65)), (8, .one (.int .i64 time)), (9, .one (.int .i64 most)), (10, .one (.int .i64 q.1)), (11, .one (.int .i64 i)), (12, .one (.int .i64 S[i])), (45, .one (.row 64)), (46, .one (.int .i64 S.length)), (47, .one (.int .i64 i))],
             fun q => [(64, .row 3 (.int .i64) S), (65, .row 3 (.int .i64) E)], fun q => E.length - q.1⟩ ⟨ov, c2, fun j h a => c4 j h i hi' a (Nat.le_refl _)⟩ ?_ ?_
            · simp only [go_sem]
            · rintro ⟨o, (d1 : o ≤ E.length), (d2 : ∀ j (h : j < E.length), j < o → E[j] ≤ S[i])⟩
              (simp -implicitDefEqProofs (maxSteps := 4000000) only [go_sem, Bool.not_eq_true', Bool.not_eq_false', Bool.or_eq_true, Bool.or_eq_false_iff, Bool.and_eq_true, Bool.and_eq_false_iff, decide_eq_true_eq, decide_eq_false_iff_not, Classical.not_not, not_or, maxLen, con23, con52, hT, hG, hk, hK, Tryz.results23]); (try simp (disch := decide +kernel) only [drawn, true_and, and_true])
              have eo : ∀ (h : o < E.length) z, E.getD (o : Int).toNat z = E[o] := fun h z => by simp [h]
              have hproc : (¬ (o : Int) < E.length ∨ ¬ E.getD (o : Int).toNat 0 ≤ S[i]) → (cnt l S[i] : Int) = (i : Int) + 1 - o ∧ ∀ j (h : j < E.length) k (hk : k < S.length), j < o → i + 1 ≤ k → E[j] ≤ S[k] := fun h => by
               have hE := count_sorted (L := E) (t := S[i]) (k := o) d1 (fun j hj => d2 j (by omega) hj) (fun j hj hoj => by
                have ho : o < E.length := by omega
                have : ¬ E[o] ≤ S[i] := by
                 rcases h with h | h
                 · omega
                 · rwa [eo ho] at h
                have : E[o] ≤ E[j] := sorted_le hEs hoj hj
                omega)
               have hc := hcnt2 S[i]
               rw [hS, hE] at hc
               refine ⟨by rw [hc]; omega, fun j hj k hk a b => ?_⟩
               have u1 : E[j] ≤ S[i] := d2 j hj a
               have u2 : S[i] ≤ S[k] := sorted_le hSs (by omega) hk
               omega
              (repeat' (with_reducible (first | refine And.intro ?_ ?_ | intro _))) <;> (try (first | with_reducible (first | done | assumption | omega | contradiction) | decide))
              · rename_i h
                have ho : o < E.length := by omega
                have h2 := h.2
                rw [eo ho] at h2
                refine fin_lp ⟨o + 1, by omega, ?_⟩ (by simp only [go_sem]; first | rfl | ((repeat' apply And.intro) <;> first | rfl | assumption | omega)) (by dsimp only; omega)
                intro j hj ha
                rcases Nat.lt_or_eq_of_le (Nat.lt_succ_iff.1 ha) with h1 | h1
                · exact d2 j hj h1
                · subst h1; exact h2
              · have h : (i : Int) + 1 - o > most := by assumption
                have hm : 0 ≤ most := by rcases c3 with ⟨c, _⟩ | ⟨c, _⟩ <;> omega
                obtain ⟨hc, hq⟩ := hproc (by assumption)
                refine fin_lp ⟨(i + 1, S[i], (i : Int) + 1 - o, o), by dsimp only; omega, d1, .inr ⟨by dsimp only; omega, hc⟩, hq, ?_, ?_, by dsimp only; omega, by dsimp only; omega⟩ (by simp only [go_sem]; first | rfl | ((repeat' apply And.intro) <;> first | rfl | assumption | omega)) (by dsimp only; omega)
                · intro k hk hki
                  dsimp only at hki ⊢
                  right
                  rcases Nat.lt_or_eq_of_le (Nat.lt_succ_iff.1 hki) with h1 | h1
                  · rcases c5 k hk h1 with ⟨_, h2⟩ | h2
                    · rw [h2]; exact ⟨by omega, fun _ _ => Int.le_refl _⟩
                    · exact ⟨by omega, fun a b => by omega⟩
                  · subst h1; exact ⟨by omega, fun _ _ => Int.le_refl _⟩
                · intro _ k hk b
                  exact sorted_le hSs (by dsimp only at b; omega) hk
              · have h : ¬ (i : Int) + 1 - o > most := by assumption
                obtain ⟨hc, hq⟩ := hproc (by assumption)
                refine fin_lp ⟨(i + 1, time, most, o), by dsimp only; omega, d1, c3, hq, ?_, fun a k hk b => c6 a k hk (by dsimp only at b; omega), c7, c8⟩ (by simp only [go_sem]; first | rfl | ((repeat' apply And.intro) <;> first | rfl | assumption | omega)) (by dsimp only; omega)
                intro k hk hki
                dsimp only at hki ⊢
                right
                rcases Nat.lt_or_eq_of_le (Nat.lt_succ_iff.1 hki) with h1 | h1
                · rcases c5 k hk h1 with ⟨_, h2⟩ | h2
                  · rw [h2]; exact ⟨by omega, fun _ a => c6 a i hi' (Nat.le_refl _)⟩
                  · exact h2
                · subst h1; exact ⟨by omega, fun _ a => c6 a k hk (Nat.le_refl _)⟩
        · have := hfin time most c3 (fun s hs => by
           obtain ⟨k, hk, rfl⟩ := List.mem_iff_getElem.1 (hmem s hs)
           rcases c5 k hk (by omega) with ⟨h, _⟩ | h
           · omega
           · exact h)
          rw [← this]
          exact ⟨rfl, rfl⟩)
end Go.Proofs.YtdeihcabmpcaoaaGreat

/- The contracts of the functions that the statements about the makeup reach: the order of flights. -/
set_option linter.unusedSimpArgs false
set_option linter.unusedVariables false
set_option maxRecDepth 100000
set_option maxHeartbeats 4000000
namespace Go.Proofs.YtdeihcabmpcaoaaGreat
open Go.Ev
open Go.Sort (SWO)

/-- What a comparison is. -/
structure Cmp {α : Type} (c : α → α → Int) : Prop where
 eq : ∀ a b, c a b = 0 ↔ a = b
 anti : ∀ a b, c a b < 0 ↔ 0 < c b a
 trans : ∀ a b d, c a b < 0 → c b d < 0 → c a d < 0
 unit : ∀ a b, -1 ≤ c a b ∧ c a b ≤ 1
theorem cmpV_cmp : Cmp cmpV := by
 refine ⟨fun a b => ?_, fun a b => ?_, fun a b d => ?_, fun a b => ?_⟩ <;> unfold cmpV
 · split
   · omega
   · split <;> omega
 · (repeat' split) <;> omega
 · intro h1 h2
   have a1 : a < b := by
    apply Classical.byContradiction
    intro h
    rw [if_neg h] at h1
    split at h1 <;> omega
   have a2 : b < d := by
    apply Classical.byContradiction
    intro h
    rw [if_neg h] at h2
    split at h2 <;> omega
   rw [if_pos (by omega)]; omega
 · split
   · omega
   · split <;> omega
theorem strLt_iff (a b : ByteArray) : strLt a b = true ↔ a.toList < b.toList := by
 unfold strLt
 rw [Go.Proofs.bytesLess_eq, decide_eq_true_eq]
theorem str_inj {a b : ByteArray} (h : a.toList = b.toList) : a = b := by
 have := bytes_eq a b
 rw [h] at this
 simpa using this.symm
theorem cmpS_cmp : Cmp cmpS := by
 have hlt : ∀ a b, cmpS a b = if a.toList < b.toList then -1 else if a = b then 0 else 1 := fun a b => by
  unfold cmpS
  by_cases h : a.toList < b.toList
  · rw [if_pos ((strLt_iff a b).2 h), if_pos h]
  · have h2 : strLt a b = false := by
     cases hh : strLt a b
     · rfl
     · exact absurd ((strLt_iff a b).1 hh) h
    rw [if_neg h, h2]
    by_cases e : a = b
    · simp [e]
    · simp [e]
 have tri : ∀ a b : ByteArray, a ≠ b → ¬ a.toList < b.toList → b.toList < a.toList := fun a b e h => by
  have h2 : b.toList ≤ a.toList := List.not_lt.1 h
  rcases List.le_iff_lt_or_eq.1 h2 with h3 | h3
  · exact h3
  · exact absurd (str_inj h3.symm) e
 refine ⟨fun a b => ?_, fun a b => ?_, fun a b d => ?_, fun a b => ?_⟩ <;> simp only [hlt]
 · by_cases h : a.toList < b.toList
   · rw [if_pos h]
     refine ⟨fun k => by omega, fun k => ?_⟩
     subst k
     exact absurd h (List.lt_irrefl _)
   · rw [if_neg h]
     by_cases e : a = b <;> simp [e]
 · by_cases h : a.toList < b.toList
   · rw [if_pos h, if_neg (fun k => List.lt_asymm h k), if_neg (fun e => by subst e; exact List.lt_irrefl _ h)]
     omega
   · rw [if_neg h]
     by_cases e : a = b
     · subst e; simp [h]
     · rw [if_neg e, if_pos (tri a b e h)]; omega
 · intro h1 h2
   have a1 : a.toList < b.toList := by
    apply Classical.byContradiction
    intro h
    rw [if_neg h] at h1
    split at h1 <;> omega
   have a2 : b.toList < d.toList := by
    apply Classical.byContradiction
    intro h
    rw [if_neg h] at h2
    split at h2 <;> omega
   rw [if_pos (List.lt_trans a1 a2)]; omega
 · split
   · omega
   · split <;> omega
def lexC {α β : Type} (c : α → α → Int) (d : β → β → Int) (x y : α × β) : Int := if c x.1 y.1 = 0 then d x.2 y.2 else c x.1 y.1
theorem Cmp.lex {α β : Type} {c : α → α → Int} {d : β → β → Int} (hc : Cmp c) (hd : Cmp d) : Cmp (lexC c d) := by
 have sym : ∀ a b, c a b = 0 → c b a = 0 := fun a b h => (hc.eq b a).2 ((hc.eq a b).1 h).symm
 refine ⟨fun a b => ?_, fun a b => ?_, fun a b e => ?_, fun a b => ?_⟩ <;> unfold lexC
 · by_cases h : c a.1 b.1 = 0
   · rw [if_pos h, hd.eq]
     have := (hc.eq _ _).1 h
     exact ⟨fun k => Prod.ext this k, fun k => by rw [k]⟩
   · rw [if_neg h]
     exact ⟨fun k => absurd k h, fun k => absurd ((hc.eq _ _).2 (by rw [k])) h⟩
 · by_cases h : c a.1 b.1 = 0
   · rw [if_pos h, if_pos (sym _ _ h)]; exact hd.anti _ _
   · rw [if_neg h, if_neg (fun k => h (sym _ _ k))]; exact hc.anti _ _
 · by_cases h : c a.1 b.1 = 0
   · have e1 := (hc.eq _ _).1 h
     rw [if_pos h, e1]
     by_cases h2 : c b.1 e.1 = 0
     · simp only [h2, if_true]; exact hd.trans _ _ _
     · simp only [h2, if_false]; exact fun _ k => k
   · rw [if_neg h]
     by_cases h2 : c b.1 e.1 = 0
     · rw [if_pos h2, ← (hc.eq _ _).1 h2, if_neg h]; exact fun k _ => k
     · rw [if_neg h2]
       intro k1 k2
       have := hc.trans _ _ _ k1 k2
       rw [if_neg (by omega)]; exact this
 · split
   · exact hd.unit _ _
   · exact hc.unit _ _
theorem fltC_eq (a b : Flt) : fltC a b = lexC cmpS (lexC cmpV (lexC cmpS cmpV)) a b := by
 unfold fltC lexC
 simp only [orV]
 split
 · split
   · split
     · split
       · omega
       · rfl
     · rfl
   · rfl
 · rfl
theorem fltC_cmp : Cmp fltC := by
 have : fltC = lexC cmpS (lexC cmpV (lexC cmpS cmpV)) := by funext a b; exact fltC_eq a b
 rw [this]
 exact cmpS_cmp.lex (cmpV_cmp.lex (cmpS_cmp.lex cmpV_cmp))
theorem all_swo : SWO (fun x y : All => decide (fltC x.1 y.1 < 0)) := by
 refine ⟨fun x => ?_, fun x y z h1 h2 => ?_, fun x y z h1 h2 => ?_⟩
 · have := (fltC_cmp.eq x.1 x.1).2 rfl
   exact decide_eq_false (by omega)
 · exact decide_eq_true (fltC_cmp.trans _ y.1 _ (of_decide_eq_true h1) (of_decide_eq_true h2))
 · have a1 := of_decide_eq_false h1
   have a2 := of_decide_eq_false h2
   refine decide_eq_false fun h => ?_
   by_cases e : fltC y.1 x.1 = 0
   · rw [(fltC_cmp.eq _ _).1 e] at a2; exact a2 h
   · have : fltC y.1 x.1 < 0 := by
      have := fltC_cmp.anti x.1 y.1
      have b := fltC_cmp.anti y.1 x.1
      have e2 : fltC x.1 y.1 ≠ 0 := fun k => e ((fltC_cmp.eq _ _).2 ((fltC_cmp.eq _ _).1 k).symm)
      omega
     exact a2 (fltC_cmp.trans _ _ _ this h)
def con39 : RCon := sortFCon 46 (.pair yFL (.int .i64)) 57 (fun a b => fltC a.1 b.1)
theorem c39 : RCtrOk Tryz.prog 39 con39.rctr := sort_func (e := 46) (t := (.pair yFL (.int .i64))) Tryz.sortF (by decide) Tryz.isAgg46 Tryz.sizeOf46 (show StrictP Tryz.prog by unfold StrictP; kernel_rfl) (c := fun (a b : All) => fltC a.1 b.1) c57 has57 all_swo
/-- In the order of the flights. -/
def sortAl (l : List All) : List All := l.mergeSort (fun a b => decide (fltC a.1 b.1 ≤ 0))
theorem sortAl_perm (l : List All) : (sortAl l).Perm l := List.mergeSort_perm l _
theorem fltC_tot (a b : Flt) : ¬ fltC a b ≤ 0 → fltC b a < 0 := fun h => (fltC_cmp.anti b a).2 (by omega)
theorem sortAl_sorted (l : List All) : (sortAl l).Pairwise (fun a b => fltC a.1 b.1 ≤ 0) := by
 have h := List.pairwise_mergeSort (le := fun a b : All => decide (fltC a.1 b.1 ≤ 0)) (fun a b c h1 h2 => by
  have h1 := of_decide_eq_true h1
  have h2 := of_decide_eq_true h2
  refine decide_eq_true ?_
  by_cases e1 : fltC a.1 b.1 = 0
  · rw [(fltC_cmp.eq _ _).1 e1]; exact h2
  · by_cases e2 : fltC b.1 c.1 = 0
    · rw [← (fltC_cmp.eq _ _).1 e2]; exact h1
    · have := fltC_cmp.trans a.1 b.1 c.1 (by omega) (by omega)
      omega) (fun a b => by
  simp only [Bool.or_eq_true, decide_eq_true_eq]
  by_cases h : fltC a.1 b.1 ≤ 0
  · exact .inl h
  · have := fltC_tot _ _ h
    exact .inr (by omega)) l
 exact h.imp (fun h => by simpa using h)
theorem sortAl_eq {l z : List All} (hn : (l.map (·.1)).Nodup) (hp : z.Perm l) (hs : z.Pairwise (fun a b => ¬ fltC b.1 a.1 < 0)) : z = sortAl l := by
 have hnz : (z.map (·.1)).Nodup := (hp.map _).nodup_iff.2 hn
 refine List.Perm.eq_of_pairwise (le := fun a b : All => ¬ fltC b.1 a.1 < 0) (fun a b ha hb h1 h2 => ?_) hs ((sortAl_sorted l).imp (fun {a b} h k => by
  have := (fltC_cmp.anti b.1 a.1).1 k; omega)) (hp.trans (sortAl_perm l).symm)
 have e0 : fltC a.1 b.1 = 0 := by
  have := fltC_cmp.anti b.1 a.1
  omega
 have e := (fltC_cmp.eq _ _).1 e0
 have ha' : a ∈ l := hp.mem_iff.1 ha
 have hb' : b ∈ l := (sortAl_perm l).mem_iff.1 hb
 clear hs hp hnz ha hb
 induction l with
 | nil => cases ha'
 | cons c l ih =>
   rw [List.map_cons, List.nodup_cons] at hn
   rcases List.mem_cons.1 ha' with h1 | h1 <;> rcases List.mem_cons.1 hb' with h2 | h2
   · rw [h1, h2]
   · exact absurd (List.mem_map.2 ⟨b, h2, by rw [← e, h1]⟩) hn.1
   · exact absurd (List.mem_map.2 ⟨a, h1, by rw [e, h2]⟩) hn.1
   · exact ih hn.2 h1 h2
def keysOf (l : List All) : List Flt := l.map (·.1)
def con28 : Con := { ps := [.o 46 (.pair yFL (.int .i64))], rs := [], pre := fun (x : List All × Unit) => x.1.length ≤ 1048576 ∧ (keysOf x.1).Nodup, out := fun x => (), nw := fun (x : List All × Unit) => (sortAl x.1, x.2) }
theorem c28 : CtrOk Tryz.prog 28 con28.ctr :=
 con_sound (G := ⟨[], [(39, con39.rctr)], [], [], []⟩) tab_ok (EnvOk.rcons c39 has39 EnvOk.nil) rfl Tryz.func28 rfl con28 1 (by kernel_rfl) (by decide) (by decide) rfl (by decide) rfl (by
  rintro ⟨(l : List All), _⟩ hpre hwf X hT hG hk hK
  obtain ⟨h1, h2⟩ : l.length ≤ 1048576 ∧ (keysOf l).Nodup := hpre
  (simp -implicitDefEqProofs (maxSteps := 4000000) only [go_sem, Bool.not_eq_true', Bool.not_eq_false', Bool.or_eq_true, Bool.or_eq_false_iff, Bool.and_eq_true, Bool.and_eq_false_iff, decide_eq_true_eq, decide_eq_false_iff_not, Classical.not_not, not_or, maxLen, con28, con39, hT, hG, hk, hK, Tryz.results28, sortFCon] at hwf ⊢); (try simp (disch := decide +kernel) only [drawn, true_and, and_true])
  exact ⟨by omega, fun a h => sortAl_eq h2 h.1 h.2⟩)
end Go.Proofs.YtdeihcabmpcaoaaGreat

/- The contracts of the functions that the statements about the makeup reach: the plan. -/
set_option linter.unusedSimpArgs false
set_option linter.unusedVariables false
set_option maxRecDepth 100000
set_option maxHeartbeats 4000000
namespace Go.Proofs.YtdeihcabmpcaoaaGreat
open Go.Ev

theorem valF_ok : ∀ (l : List Dep) (p : Option Flt), valF p l = 0 → (∀ d ∈ l, validV d = true) ∧ (∀ f, p = some f → ∀ d ∈ l, fltC f d.1 < 0) ∧ l.Pairwise (fun a b => fltC a.1 b.1 < 0)
 | [], _, _ => ⟨by simp, by simp, List.Pairwise.nil⟩
 | d :: l, p, h => by
   unfold valF at h
   have hv : validV d = true := by
    cases hv : validV d
    · rw [if_pos hv] at h; omega
    · rfl
   rw [if_neg (by rw [hv]; simp)] at h
   have key : valF (some d.1) l = 0 → (∀ e ∈ d :: l, validV e = true) ∧ (d :: l).Pairwise (fun a b => fltC a.1 b.1 < 0) ∧ ∀ e ∈ l, fltC d.1 e.1 < 0 := fun k => by
    obtain ⟨h1, h2, h3⟩ := valF_ok l (some d.1) k
    have h4 := h2 d.1 rfl
    exact ⟨fun e he => by rcases List.mem_cons.1 he with rfl | he; exact hv; exact h1 e he, List.pairwise_cons.2 ⟨h4, h3⟩, h4⟩
   cases p with
   | none =>
     obtain ⟨a, b, _⟩ := key h
     exact ⟨a, by simp, b⟩
   | some f =>
     dsimp only at h
     by_cases e0 : fltC f d.1 = 0
     · rw [if_pos e0] at h; omega
     · rw [if_neg e0] at h
       by_cases e1 : fltC f d.1 = 1
       · rw [if_pos e1] at h; omega
       · rw [if_neg e1] at h
         obtain ⟨a, b, c⟩ := key h
         have hu := fltC_cmp.unit f d.1
         have hfd : fltC f d.1 < 0 := by omega
         refine ⟨a, fun g hg e he => ?_, b⟩
         cases hg
         rcases List.mem_cons.1 he with rfl | he
         · exact hfd
         · exact fltC_cmp.trans _ _ _ hfd (c e he)
theorem valid_ok {l : List Dep} (h : validateV l = 0) : l.length ≤ 24 ∧ (∀ d ∈ l, validV d = true) ∧ l.Pairwise (fun a b => fltC a.1 b.1 < 0) := by
 unfold validateV at h
 by_cases c : (l.length : Int) > 24
 · rw [if_pos c] at h; omega
 · rw [if_neg c] at h
   obtain ⟨a, _, b⟩ := valF_ok l none h
   exact ⟨by omega, a, b⟩
theorem validV_times {d : Dep} (h : validV d = true) : 0 ≤ d.opens ∧ d.opens < d.closes ∧ d.closes ≤ 1048576 := by
 unfold validV inV at h
 simp only [Bool.and_eq_true, decide_eq_true_eq] at h
 unfold Dep.opens Dep.closes
 omega
theorem args_ok {l : List Dep} {cs : List Int} (h : argsV l cs = 0) : validateV l = 0 ∧ (planV l).length ≤ 16 ∧ cs.length ≤ 6 ∧ cs.all (fun c => decide (0 ≤ c)) = true ∧ ascI cs = true := by
 unfold argsV at h
 by_cases c1 : validateV l ≠ 0
 · rw [if_pos c1] at h; exact absurd h c1
 · rw [if_neg c1] at h
   by_cases c2 : ((planV l).length : Int) > 16 ∨ (cs.length : Int) > 6
   · rw [if_pos c2] at h; omega
   · rw [if_neg c2] at h
     by_cases c3 : cs.all (fun c => decide (0 ≤ c)) = false
     · rw [if_pos c3] at h; omega
     · rw [if_neg c3] at h
       by_cases c4 : ascI cs = false
       · rw [if_pos c4] at h; omega
       · exact ⟨Classical.not_not.1 c1, by omega, by omega, by simpa using c3, by simpa using c4⟩
theorem nodup_flts {l : List Dep} (h : l.Pairwise (fun a b => fltC a.1 b.1 < 0)) : (l.map (fun d => d.1)).Nodup := by
 unfold List.Nodup
 rw [List.pairwise_map]
 refine h.imp fun {a b} hab e => ?_
 rw [(fltC_cmp.eq _ _).2 e] at hab
 omega
def place (d : Dep) : List Int → List Int → Option (Int × List Int)
 | c :: cs, f :: fs => if f ≤ d.opens then some (c, d.closes :: fs) else (place d cs fs).map (fun r => (r.1, f :: r.2))
 | _, _ => none
def greedy : List Dep → List Int → List Int → List All
 | [], _, _ => []
 | d :: ds, cs, fr => match place d cs fr with
   | some (c, fr') => (d.1, c) :: greedy ds cs fr'
   | none => greedy ds cs fr
theorem place_len {d : Dep} : ∀ {cs fr : List Int} {c : Int} {fr' : List Int}, place d cs fr = some (c, fr') → fr'.length = fr.length
 | c :: cs, f :: fs, x, fr', h => by
   unfold place at h
   split at h
   · cases h; rfl
   · cases hp : place d cs fs with
     | none => rw [hp] at h; cases h
     | some r =>
       rw [hp] at h
       cases h
       rw [List.length_cons, List.length_cons, place_len hp]
 | [], _, _, _, h => by simp [place] at h
 | _ :: _, [], _, _, h => by simp [place] at h
theorem greedy_keys : ∀ (ds : List Dep) (cs fr : List Int), (keysOf (greedy ds cs fr)).Sublist (ds.map (fun d => d.1))
 | [], _, _ => List.Sublist.refl _
 | d :: ds, cs, fr => by
   unfold greedy
   split
   · exact (greedy_keys ds cs _).cons_cons _
   · exact (greedy_keys ds cs _).cons _
theorem greedy_len (ds : List Dep) (cs fr : List Int) : (greedy ds cs fr).length ≤ ds.length := by
 have := (greedy_keys ds cs fr).length_le
 unfold keysOf at this
 rwa [List.length_map, List.length_map] at this
def greedyV (l : List Dep) (cs : List Int) : List All := greedy (isort (planV l)) cs (List.replicate cs.length 0)
theorem plan_keys {l : List Dep} {cs : List Int} (h : argsV l cs = 0) : (keysOf (greedyV l cs)).Nodup ∧ (greedyV l cs).length ≤ 16 ∧ (∀ d ∈ planV l, inTime d) ∧ (∀ d ∈ planV l, 0 ≤ d.opens ∧ d.opens < d.closes ∧ d.closes ≤ 1048576) := by
 obtain ⟨h1, h2, h3, _, _⟩ := args_ok h
 obtain ⟨g1, g2, g3⟩ := valid_ok h1
 have hsub : (planV l).Sublist l := List.filter_sublist
 have hpw := g3.sublist hsub
 have hnd := nodup_flts hpw
 have hnd2 : ((isort (planV l)).map (fun d => d.1)).Nodup := ((isort_perm (planV l)).map _).nodup_iff.2 hnd
 have ht : ∀ d ∈ planV l, 0 ≤ d.opens ∧ d.opens < d.closes ∧ d.closes ≤ 1048576 := fun d hd => validV_times (g2 d (hsub.mem hd))
 refine ⟨hnd2.sublist (greedy_keys _ _ _), ?_, fun d hd => ?_, ht⟩
 · have := greedy_len (isort (planV l)) cs (List.replicate cs.length 0)
   rw [isort_len] at this
   exact Nat.le_trans this h2
 · have := ht d hd
   exact ⟨this.1, by omega⟩
abbrev Mk := List All × Int × List Flt
def planO (l : List Dep) (cs : List Int) : Mk × Int :=
 if argsV l cs ≠ 0 then (([], 0, []), argsV l cs) else if (peakV l).2 > (cs.length : Int) then (([], (peakV l).1, openV l (peakV l).1), 0) else ((sortAl (greedyV l cs), 0, []), 0)
theorem place_step (d : Dep) : ∀ (cs fr : List Int) (j : Nat) (h1 : j < cs.length) (h2 : j < fr.length), (∀ k (h : k < fr.length), k < j → ¬ fr[k] ≤ d.opens) → fr[j] ≤ d.opens → place d cs fr = some (cs[j], fr.set j d.closes)
 | c :: cs, f :: fs, 0, _, _, _, h => by
   unfold place
   rw [if_pos (by simpa using h)]
   rfl
 | c :: cs, f :: fs, j + 1, h1, h2, hb, h => by
   unfold place
   have h0 := hb 0 (by simp) (by omega)
   rw [if_neg (by simpa using h0), place_step d cs fs j (by simpa using h1) (by simpa using h2) (fun k hk hkj => by
    have := hb (k + 1) (by simpa using hk) (by omega)
    simpa using this) (by simpa using h)]
   rfl
theorem place_none (d : Dep) : ∀ (cs fr : List Int), cs.length = fr.length → (∀ k (h : k < fr.length), ¬ fr[k] ≤ d.opens) → place d cs fr = none
 | [], fr, _, _ => by simp [place]
 | c :: cs, [], h, _ => by simp at h
 | c :: cs, f :: fs, h, hb => by
   unfold place
   have h0 := hb 0 (by simp)
   rw [if_neg (by simpa using h0), place_none d cs fs (by simpa using h) (fun k hk => by
    have := hb (k + 1) (by simpa using hk)
    simpa using this)]
   rfl
def con7 : Con := { ps := [.d false (.sl yDP), .d false (.sl (.int .i64))], rs := [.d true (.pair (.sl (.pair yFL (.int .i64))) (.pair (.int .i64) (.sl yFL))), .d false (.int .i64)], pre := fun (x : List Dep × List Int × Unit) => x.1.length ≤ 1048576, out := fun (x : List Dep × List Int × Unit) => ((planO x.1 x.2.1).1, (planO x.1 x.2.1).2, ()), nw := id }
theorem c7 : CtrOk Tryz.prog 7 con7.ctr :=
 con_sound (G := ⟨[(23, con23.ctr), (22, con22.ctr), (24, con24.ctr), (25, con25.ctr), (26, con26.ctr), (28, con28.ctr)], [], [], [], []⟩) tab_ok (EnvOk.cons c23 has23 (EnvOk.cons c22 has22 (EnvOk.cons c24 has24 (EnvOk.cons c25 has25 (EnvOk.cons c26 has26 (EnvOk.cons c28 has28 EnvOk.nil)))))) rfl Tryz.func7 rfl con7 9240524420396675059 (by kernel_rfl) (by decide) (by decide) rfl (by decide) rfl (by
  rintro ⟨(l : List Dep), (cs : List Int), _⟩ hpre hwf X hT hG hk hK
  have hl : l.length ≤ 1048576 := hpre
  (simp -implicitDefEqProofs (maxSteps := 4000000) only [go_sem, Bool.not_eq_true', Bool.not_eq_false', Bool.or_eq_true, Bool.or_eq_false_iff, Bool.and_eq_true, Bool.and_eq_false_iff, decide_eq_true_eq, decide_eq_false_iff_not, Classical.not_not, not_or, maxLen, con7, con23, con22, con24, con25, con26, con28, hT, hG, hk, hK, Tryz.results7] at hwf ⊢); (try simp (disch := decide +kernel) only [drawn, true_and, and_true])
  by_cases ha : argsV l cs = 0
  · by_cases hp : (peakV l).2 > (cs.length : Int)
    · have hv : planO l cs = (([], (peakV l).1, openV l (peakV l).1), 0) := by
       unfold planO; rw [if_neg (by omega), if_pos hp]
      rw [hv]
      (repeat' (with_reducible (first | refine And.intro ?_ ?_ | intro _))) <;> (try (first | with_reducible (first | done | assumption | omega | contradiction) | decide))
      all_goals rfl
    · obtain ⟨k1, k2, k3, k4⟩ := plan_keys ha
      obtain ⟨_, k5, k6, _, _⟩ := args_ok ha
      have hv : planO l cs = ((sortAl (greedyV l cs), 0, []), 0) := by
       unfold planO; rw [if_neg (by omega), if_neg hp]
      have hO := isort_len (planV l)
      have hOt : ∀ d ∈ isort (planV l), 0 ≤ d.opens ∧ d.opens < d.closes ∧ d.closes ≤ 1048576 := fun d hd => k4 d ((isort_perm _).mem_iff.1 hd)
      have hg : greedyV l cs = greedy (isort (planV l)) cs (List.replicate cs.length 0) := rfl
      generalize isort (planV l) = O at hO hOt hg ⊢
      (repeat' (with_reducible (first | refine And.intro ?_ ?_ | intro _))) <;> (try (first | with_reducible (first | done | assumption | omega | contradiction) | decide))
      all_goals first
       | (rename_i k hk; exact k3 _ hk)
       | (generalize cs.length = n at *; omega)
       | skip
      refine evk_loop ⟨{ q : Nat × List All × List Int // q.1 ≤ O.length ∧ q.2.1.length ≤ q.1 ∧ q.2.2.length = cs.length ∧ greedyV l cs = q.2.1 ++ greedy (O.drop q.1) cs q.2.2 }, 1000,
       fun q => [(1, .one (.sl (.int .i64) cs false)), (4, .one (.loc 70 0)), (10, .one (.row 64)), (11, .one (.row 65)), (44, .one (.row 66)), (45, .one (.int .i64 O.length)), (46, .one (.int .i64 q.1.1))],
       fun q => [(70, .cells 30 [.undef, .undef, .undef]), (64, .row 3 (.int .i64) q.1.2.2), (65, .row 46 (.pair yFL (.int .i64)) q.1.2.1), (66, .row 52 yDP O)], fun q => O.length - q.1.1⟩
       ⟨(0, [], List.replicate cs.length 0), by simp, by simp, by simp, by simpa using hg⟩ ?_ ?_
      · simp only [go_sem]
        exact ⟨rfl, rfl⟩
      · rintro ⟨⟨i, out, fr⟩, (c1 : i ≤ O.length), (c2 : out.length ≤ i), (c3 : fr.length = cs.length), (c4 : greedyV l cs = out ++ greedy (O.drop i) cs fr)⟩
        (simp -implicitDefEqProofs (maxSteps := 4000000) only [go_sem, Bool.not_eq_true', Bool.not_eq_false', Bool.or_eq_true, Bool.or_eq_false_iff, Bool.and_eq_true, Bool.and_eq_false_iff, decide_eq_true_eq, decide_eq_false_iff_not, Classical.not_not, not_or, maxLen, con7, con23, con22, con24, con25, con26, con28, hT, hG, hk, hK, Tryz.results7]); (try simp (disch := decide +kernel) only [drawn, true_and, and_true])
        refine ⟨fun hlt => ?_, fun hge => ?_⟩
        · have hi' : i < O.length := by omega
          have ek : ∀ z, O.getD (i : Int).toNat z = O[i] := fun z => by simp [hi']
          simp only [ek]
          have hOi := hOt _ (List.getElem_mem hi')
          have hd := List.drop_eq_getElem_cons hi'
          rw [hd, greedy] at c4
          generalize hdd : O[i] = d at hOi c4 ⊢
          (repeat' (with_reducible (first | refine And.intro ?_ ?_ | intro _))) <;> (try (first | with_reducible (first | done | assumption | omega | contradiction) | decide))
          refine evk_loop ⟨{ j : Nat // j ≤ cs.length ∧ ∀ k (h : k < fr.length), k < j → ¬ fr[k] ≤ d.opens }, 2000,
           fun q => [(1, .one (.sl (.int .i64) cs false)), (4, .one (.loc 70 0)), (10, .one (.row 64)), (11, .one (.row 65)), (13, .one (.loc 71 0)), (44, .one (.row 66)), (45, .one (.int .i64 O.length)), (46, .one (.int .i64 i)), (50, .one (.sl (.int .i64) cs false)), (51, .one (.int .i64 cs.length)), (52, .one (.int .i64 q.1))],
           fun q => [(70, .cells 30 [.undef, .undef, .undef]), (64, .row 3 (.int .i64) fr), (65, .row 46 (.pair yFL (.int .i64)) out), (66, .row 52 yDP O), (71, .cells 52 (expl yDP d))], fun q => cs.length - q.1⟩ ⟨0, by simp, by intro k h hk; simp at hk⟩ ?_ ?_
          · simp only [go_sem]
            first
             | rfl
             | skip
          · rintro ⟨j, (e1 : j ≤ cs.length), (e2 : ∀ k (h : k < fr.length), k < j → ¬ fr[k] ≤ d.opens)⟩
            (simp -implicitDefEqProofs (maxSteps := 4000000) only [go_sem, Bool.not_eq_true', Bool.not_eq_false', Bool.or_eq_true, Bool.or_eq_false_iff, Bool.and_eq_true, Bool.and_eq_false_iff, decide_eq_true_eq, decide_eq_false_iff_not, Classical.not_not, not_or, maxLen, con7, con23, con22, con24, con25, con26, con28, hT, hG, hk, hK, Tryz.results7]); (try simp (disch := decide +kernel) only [drawn, true_and, and_true])
            refine ⟨fun hlt2 => ?_, fun hge2 => ?_⟩
            · have hj : j < cs.length := by omega
              have hj2 : j < fr.length := by omega
              have ekc : ∀ z, cs.getD (j : Int).toNat z = cs[j] := fun z => by simp [hj]
              have ekf : ∀ z, fr.getD (j : Int).toNat z = fr[j] := fun z => by simp [hj2]
              simp only [ekc, ekf]
              (repeat' (with_reducible (first | refine And.intro ?_ ?_ | intro _))) <;> (try (first | with_reducible (first | done | assumption | omega | contradiction) | decide))
              · have h : fr[j] ≤ d.opens := by assumption
                have hp1 := place_step d cs fr j hj hj2 e2 h
                rw [hp1] at c4
                refine fin_lp ⟨(i + 1, out ++ [(d.1, cs[j])], fr.set j d.closes), by dsimp only; omega, by rw [List.length_append]; simp only [List.length_singleton]; omega, by dsimp only; rw [List.length_set]; exact c3, by dsimp only; rw [c4]; simp⟩ (by simp only [go_sem]; first | rfl | ((repeat' apply And.intro) <;> first | rfl | assumption | omega)) (by dsimp only; omega)
              · have h : ¬ fr[j] ≤ d.opens := by assumption
                refine fin_lp ⟨j + 1, by omega, ?_⟩ (by simp only [go_sem]; first | rfl | ((repeat' apply And.intro) <;> first | rfl | assumption | omega)) (by dsimp only; omega)
                intro k hk hkj
                rcases Nat.lt_or_eq_of_le (Nat.lt_succ_iff.1 hkj) with h1 | h1
                · exact e2 k hk h1
                · subst h1; exact h
            · have hp1 := place_none d cs fr c3.symm (fun k hk => e2 k hk (by omega))
              rw [hp1] at c4
              (repeat' (with_reducible (first | refine And.intro ?_ ?_ | intro _))) <;> (try (first | with_reducible (first | done | assumption | omega | contradiction) | decide))
              refine fin_lp ⟨(i + 1, out, fr), by dsimp only; omega, by dsimp only; omega, c3, c4⟩ (by simp only [go_sem]; first | rfl | ((repeat' apply And.intro) <;> first | rfl | assumption | omega)) (by dsimp only; omega)
        · rw [List.drop_of_length_le (by omega), greedy, List.append_nil] at c4
          rw [hv]
          subst c4
          (repeat' (with_reducible (first | refine And.intro ?_ ?_ | intro _))) <;> (try (first | with_reducible (first | done | assumption | omega | contradiction) | decide))
          all_goals rfl
  · have hv : planO l cs = (([], 0, []), argsV l cs) := by
     unfold planO; rw [if_pos ha]
    rw [hv]
    (repeat' (with_reducible (first | refine And.intro ?_ ?_ | intro _))) <;> (try (first | with_reducible (first | done | assumption | omega | contradiction) | decide))
    all_goals rfl)
end Go.Proofs.YtdeihcabmpcaoaaGreat

/- The contracts of the reference's functions: what is the same, Find, Overlap. -/
set_option linter.unusedSimpArgs false
set_option linter.unusedVariables false
set_option maxRecDepth 100000
set_option maxHeartbeats 4000000
namespace Go.Proofs.YtdeihcabmpcaoaaGreat
open Go.Ev

def con15 : Con := { ps := [.d false (.sl yDP), .d true yFL], rs := [.d false (.int .i64)], pre := fun _ => True, out := fun x => (findV x.1 x.2.1, ()), nw := id }
theorem c15 : CtrOk Tryz.prog 15 con15.ctr :=
 con_sound (G := ⟨[], [], [], [], []⟩) tab_ok EnvOk.nil rfl Tryz.func15 rfl con15 262715 (by kernel_rfl) (by decide) (by decide) rfl (by decide) rfl (by
  rintro ⟨(l : List Dep), (f : Flt), _⟩ hpre hwf X hT hG hk hK
  (simp -implicitDefEqProofs (maxSteps := 4000000) only [go_sem, Bool.not_eq_true', Bool.not_eq_false', Bool.or_eq_true, Bool.or_eq_false_iff, Bool.and_eq_true, Bool.and_eq_false_iff, decide_eq_true_eq, decide_eq_false_iff_not, Classical.not_not, not_or, maxLen, con15, hT, hG, hk, hK, Tryz.results15] at hwf ⊢); (try simp (disch := decide +kernel) only [drawn, true_and, and_true])
  refine evk_loop ⟨{ i : Nat // i ≤ l.length ∧ findV l f = idxF (fun d => decide (d.1 = f)) (l.drop i) i }, 1000, fun i => [(0, .one (.sl yDP l false)), (3, .one (.loc 64 0)), (5, .one (.int .i64 i.1))], fun _ => [(64, .cells 44 (expl yFL f))], fun i => l.length - i.1⟩ ⟨0, by simp, by simp [findV]⟩ ?_ ?_
  · simp only [go_sem]
    rfl
  · rintro ⟨i, (hi : i ≤ l.length), (he : findV l f = idxF (fun d => decide (d.1 = f)) (l.drop i) i)⟩
    (simp -implicitDefEqProofs (maxSteps := 4000000) only [go_sem, Bool.not_eq_true', Bool.not_eq_false', Bool.or_eq_true, Bool.or_eq_false_iff, Bool.and_eq_true, Bool.and_eq_false_iff, decide_eq_true_eq, decide_eq_false_iff_not, Classical.not_not, not_or, maxLen, con15, hT, hG, hk, hK, Tryz.results15]); (try simp (disch := decide +kernel) only [drawn, true_and, and_true])
    refine fun _ => ⟨fun hlt => ?_, fun hge => ?_⟩
    · have hi' : i < l.length := by omega
      have ek : ∀ z, l.getD (i : Int).toNat z = l[i] := fun z => by simp [hi']
      simp only [ek]
      have hst : findV l f = if decide (l[i].1 = f) = true then (i : Int) else idxF (fun d => decide (d.1 = f)) (l.drop (i + 1)) ((i + 1 : Nat) : Int) := by
       rw [he, List.drop_eq_getElem_cons hi', idxF]; rfl
      (repeat' (with_reducible (first | refine And.intro ?_ ?_ | intro _))) <;> (try (first | with_reducible (first | done | assumption | omega | contradiction) | decide))
      · rename_i h _
        have h : l[i].1.1 = f.1 ∧ l[i].1.2.1 = f.2.1 ∧ l[i].1.2.2.1 = f.2.2.1 ∧ l[i].1.2.2.2 = f.2.2.2 := by assumption
        rw [hst, if_pos (decide_eq_true (flt_eq h))]
      · have h : ¬ l[i].1.1 = f.1 ∨ ¬ l[i].1.2.1 = f.2.1 ∨ ¬ l[i].1.2.2.1 = f.2.2.1 ∨ ¬ l[i].1.2.2.2 = f.2.2.2 := by assumption
        refine fin_lp ⟨i + 1, by omega, by rw [hst, if_neg (by rw [decide_eq_true_eq]; exact flt_ne h)]⟩ (by simp only [go_sem]; first | rfl | ((repeat' apply And.intro) <;> first | rfl | assumption | omega)) (by dsimp only; omega)
    · rw [he, List.drop_of_length_le (by omega)]
      rfl)
end Go.Proofs.YtdeihcabmpcaoaaGreat
