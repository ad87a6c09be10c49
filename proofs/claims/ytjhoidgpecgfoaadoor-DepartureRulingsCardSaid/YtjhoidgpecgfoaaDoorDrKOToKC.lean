/- Plates in order, each once. -/
import Derived.Test.YtjhoidgpecgfoaaDoorDrKcToKe
import Derived.Test.YtjhoidgpecgfoaaDoorDrLay
import Derived.Test.YtjhoidgpecgfoaaDoorDrKaToOrd
import Derived.Test.YtjhoidgpecgfoaaDoorDrKD
import Derived.Test.YtjhoidgpecgfoaaDoorEvBox
set_option linter.unusedSimpArgs false
set_option linter.unusedVariables false
set_option maxRecDepth 100000
set_option maxHeartbeats 4000000
namespace Go.Proofs.YtjhoidgpecgfoaaDoor
open Go.Ev

theorem strict_ext {α : Type} {R : α → α → Prop} (asy : ∀ x y, R x y → ¬ R y x) : ∀ {a b : List α}, a.Pairwise R → b.Pairwise R → (∀ x, x ∈ a ↔ x ∈ b) → a = b
 | [], [], _, _, _ => rfl
 | [], y :: b, _, _, h => by have := (h y).2 (List.mem_cons_self ..); cases this
 | x :: a, [], _, _, h => by have := (h x).1 (List.mem_cons_self ..); cases this
 | x :: a, y :: b, sa, sb, h => by
   have sa' := List.pairwise_cons.1 sa
   have sb' := List.pairwise_cons.1 sb
   have e : x = y := by
    rcases List.mem_cons.1 ((h x).1 (List.mem_cons_self ..)) with e | e
    · exact e
    · rcases List.mem_cons.1 ((h y).2 (List.mem_cons_self ..)) with k | k
      · exact k.symm
      · exact absurd (sb'.1 x e) (asy _ _ (sa'.1 y k))
   subst e
   have nx : ∀ {r : List α} {z : α}, (∀ w ∈ r, R x w) → z ∈ r → z ≠ x := fun hr hz q => by
    have := hr _ hz
    rw [q] at this
    exact asy _ _ this this
   rw [strict_ext asy sa'.2 sb'.2 fun z => ⟨fun hz => (List.mem_cons.1 ((h z).1 (List.mem_cons_of_mem _ hz))).resolve_left (nx sa'.1 hz), fun hz => (List.mem_cons.1 ((h z).2 (List.mem_cons_of_mem _ hz))).resolve_left (nx sb'.1 hz)⟩]
def insC {α : Type} (c : α → α → Int) : List α → α → List α
 | [], p => [p]
 | a :: l, p => if c a p < 0 then a :: insC c l p else if c a p = 0 then a :: l else p :: a :: l
theorem insC_mem {α : Type} {c : α → α → Int} (hc : Cmp c) (x p : α) : ∀ l, x ∈ insC c l p ↔ x = p ∨ x ∈ l
 | [] => by simp [insC]
 | a :: l => by
   rw [insC]
   split
   · rw [List.mem_cons, insC_mem hc x p l, List.mem_cons]
     constructor
     · rintro (h | h | h)
       · exact .inr (.inl h)
       · exact .inl h
       · exact .inr (.inr h)
     · rintro (h | h | h)
       · exact .inr (.inl h)
       · exact .inl h
       · exact .inr (.inr h)
   · split
     · rename_i e
       have := (hc.eq _ _).1 e
       subst this
       simp
     · simp
theorem insC_len {α : Type} {c : α → α → Int} (p : α) : ∀ l, (insC c l p).length ≤ l.length + 1
 | [] => by simp [insC]
 | a :: l => by
   have := insC_len (c := c) p l
   rw [insC]
   split
   · simp; omega
   · split <;> simp
theorem Cmp.as {α : Type} {c : α → α → Int} (hc : Cmp c) (x y : α) (h : c x y < 0) : ¬ c y x < 0 := fun k => by
 have := (hc.anti x y).1 h
 omega
theorem insC_srt {α : Type} {c : α → α → Int} (hc : Cmp c) (p : α) : ∀ {l : List α}, l.Pairwise (fun a b => c a b < 0) → (insC c l p).Pairwise (fun a b => c a b < 0)
 | [], _ => by simp [insC]
 | a :: l, h => by
   have h' := List.pairwise_cons.1 h
   rw [insC]
   split
   · rename_i k
     refine List.pairwise_cons.2 ⟨fun z hz => ?_, insC_srt hc p h'.2⟩
     rcases (insC_mem hc z p l).1 hz with rfl | hz
     · exact k
     · exact h'.1 z hz
   · split
     · exact h
     · rename_i k1 k2
       have hpa : c p a < 0 := (hc.anti p a).2 (by omega)
       refine List.pairwise_cons.2 ⟨fun z hz => ?_, h⟩
       rcases List.mem_cons.1 hz with rfl | hz
       · exact hpa
       · exact hc.trans _ _ _ hpa (h'.1 z hz)
theorem snoc_ind {α : Type} {P : List α → Prop} (h0 : P []) (h1 : ∀ l x, P l → P (l ++ [x])) (l : List α) : P l := by
 have : ∀ r : List α, P r.reverse := fun r => by
  induction r with
  | nil => exact h0
  | cons a r ih => rw [List.reverse_cons]; exact h1 _ _ ih
 have h := this l.reverse
 rwa [List.reverse_reverse] at h
/-- The plates of a list, in order, each once. -/
def setP (l : List Plt) : List Plt := l.foldl (fun ks o => insC pltC ks o) []
theorem setP_snoc (l : List Plt) (o : Plt) : setP (l ++ [o]) = insC pltC (setP l) o := by simp [setP]
theorem setP_spec (l : List Plt) : (setP l).Pairwise (fun a b => pltC a b < 0) ∧ ∀ x, x ∈ setP l ↔ x ∈ l := by
 refine snoc_ind (P := fun l => (setP l).Pairwise (fun a b => pltC a b < 0) ∧ ∀ x, x ∈ setP l ↔ x ∈ l) (by simp [setP]) (fun l o ih => ?_) l
 rw [setP_snoc]
 refine ⟨insC_srt pltC_cmp _ ih.1, fun x => ?_⟩
 rw [insC_mem pltC_cmp, ih.2, List.mem_append, List.mem_singleton]
 exact Or.comm
theorem setP_len (l : List Plt) : (setP l).length ≤ l.length := by
 refine snoc_ind (P := fun l => (setP l).length ≤ l.length) (by simp [setP]) (fun l o ih => ?_) l
 rw [setP_snoc, List.length_append, List.length_singleton]
 have := insC_len (c := pltC) o (setP l)
 omega
theorem setP_eq {a : List Plt} {l : List Plt} (h : a.Pairwise (fun a b => pltC a b < 0)) (hm : ∀ x, x ∈ a ↔ x ∈ l) : a = setP l :=
 strict_ext (fun x y => Cmp.as pltC_cmp x y) h (setP_spec l).1 fun x => (hm x).trans ((setP_spec l).2 x).symm
def pl0 : Plt := (0, 0, 0)
instance kdPlO : DecidableEq Plt := instDecidableEqProd
/-- A list without the elements that are as the one before. -/
def ddP (xs : List Plt) : Nat → List Plt
 | 0 => []
 | i + 1 => ddP xs i ++ if i ≠ 0 ∧ xs.getD i pl0 = xs.getD (i - 1) pl0 then [] else [xs.getD i pl0]
def compP (xs : List Plt) : List Plt := ddP xs xs.length
theorem ddP_spec (xs : List Plt) (hs : xs.Pairwise (fun a b => ¬ pltC b a < 0)) : ∀ i, i ≤ xs.length → (ddP xs i).Pairwise (fun a b => pltC a b < 0) ∧ ∀ x, x ∈ ddP xs i ↔ x ∈ xs.take i
 | 0, _ => by simp [ddP]
 | i + 1, h => by
   obtain ⟨ih1, ih2⟩ := ddP_spec xs hs i (by omega)
   have hi : i < xs.length := by omega
   have g1 : xs.getD i pl0 = xs[i] := by simp [hi]
   have ht : xs.take (i + 1) = xs.take i ++ [xs[i]] := List.take_succ_eq_append_getElem hi
   have hself : ∀ a : Plt, ¬ pltC a a < 0 := fun a => by have := (pltC_cmp.eq a a).2 rfl; omega
   have hle : ∀ x ∈ xs.take i, ¬ pltC (xs.getD (i - 1) pl0) x < 0 ∧ xs.getD (i - 1) pl0 ∈ xs.take i := fun x hx => by
    obtain ⟨j, hj, rfl⟩ := List.getElem_of_mem hx
    have hj2 : j < i := by simp at hj; omega
    have g2 : xs.getD (i - 1) pl0 = xs[i - 1] := by simp [show i - 1 < xs.length by omega]
    rw [g2, List.getElem_take]
    refine ⟨?_, ?_⟩
    · by_cases e : j = i - 1
      · subst e; exact hself _
      · exact List.pairwise_iff_getElem.1 hs j (i - 1) (by omega) (by omega) (by omega)
    · have : (xs.take i)[i - 1]'(by simp; omega) = xs[i - 1] := List.getElem_take
      rw [← this]; exact List.getElem_mem _
   rw [ddP, ht, g1]
   split
   · rename_i e
     rw [List.append_nil]
     refine ⟨ih1, fun x => ?_⟩
     rw [ih2, List.mem_append]
     refine ⟨.inl, fun k => k.elim id fun k => ?_⟩
     have k : x = xs[i] := by simpa using k
     rw [k, e.2]
     have h0 : xs[0]'(by omega) ∈ xs.take i := by
      have : (xs.take i)[0]'(by simp; omega) = xs[0]'(by omega) := List.getElem_take
      rw [← this]; exact List.getElem_mem _
     exact (hle _ h0).2
   · rename_i e
     refine ⟨List.pairwise_append.2 ⟨ih1, by simp, fun x hx y hy => ?_⟩, fun x => by simp only [List.mem_append, ih2]⟩
     have hy : y = xs[i] := by simpa using hy
     subst hy
     have hx2 := (ih2 x).1 hx
     have h3 := (hle x hx2).1
     have hi0 : i ≠ 0 := fun q => by subst q; simp at hx2
     have g2 : xs.getD (i - 1) pl0 = xs[i - 1] := by simp [show i - 1 < xs.length by omega]
     have h4 : ¬ pltC xs[i] (xs.getD (i - 1) pl0) < 0 := by
      rw [g2]
      exact List.pairwise_iff_getElem.1 hs (i - 1) i (by omega) (by omega) (by omega)
     have h5 : xs[i] ≠ xs.getD (i - 1) pl0 := fun q => e ⟨hi0, q⟩
     have h6 : pltC (xs.getD (i - 1) pl0) xs[i] < 0 := by
      have a1 := (pltC_cmp.anti (xs.getD (i - 1) pl0) xs[i])
      have a2 : pltC xs[i] (xs.getD (i - 1) pl0) ≠ 0 := fun q => h5 ((pltC_cmp.eq _ _).1 q)
      exact a1.2 (by omega)
     by_cases q : x = xs.getD (i - 1) pl0
     · rw [q]; exact h6
     · have a1 := (pltC_cmp.anti x (xs.getD (i - 1) pl0))
       have a2 : pltC (xs.getD (i - 1) pl0) x ≠ 0 := fun k => q ((pltC_cmp.eq _ _).1 k).symm
       exact pltC_cmp.trans _ _ _ (a1.2 (by omega)) h6
theorem compP_eq {l s : List Plt} (hp : s.Perm l) (hs : s.Pairwise (fun a b => ¬ pltC b a < 0)) : compP s = setP l := by
 obtain ⟨h1, h2⟩ := ddP_spec s hs s.length (Nat.le_refl _)
 refine setP_eq h1 fun x => ?_
 show x ∈ ddP s s.length ↔ _
 rw [h2, List.take_length]
 exact hp.mem_iff
theorem plE (a b : Plt) : (a.1 = b.1 ∧ a.2.1 = b.2.1 ∧ a.2.2 = b.2.2) = (a = b) := by
 rw [eq_iff_iff]; exact ⟨fun h => Prod.ext h.1 (Prod.ext h.2.1 h.2.2), fun h => by rw [h]; exact ⟨rfl, rfl, rfl⟩⟩
theorem plN (a b : Plt) : (¬ a.1 = b.1 ∨ ¬ a.2.1 = b.2.1 ∨ ¬ a.2.2 = b.2.2) = (¬ a = b) := by
 rw [← plE, eq_iff_iff]
 by_cases h1 : a.1 = b.1 <;> by_cases h2 : a.2.1 = b.2.1 <;> by_cases h3 : a.2.2 = b.2.2 <;> simp [h1, h2, h3]
def con31 : Con := { ps := [.oc 34 yPL], rs := [.o 34 yPL], pre := fun x => True, out := fun x => (compP x.1, ()), nw := id }
theorem c31 : CtrOk Tryd.prog 31 con31.ctr :=
 con_sound (G := ⟨[], [], [(9, 2), (28, 1), (56, 1), (59, 2), (60, 2)], [], []⟩) tab_ok EnvOk.nil rfl Tryd.func31 rfl con31 17596514574653 (by kernel_rfl) (by decide) (by decide) rfl (by decide) rfl (by
  rintro ⟨(xs : List Plt), _⟩ hpre hwf X hT hG hk hK
  (simp -implicitDefEqProofs (maxSteps := 4000000) only [go_sem, Bool.not_eq_true', Bool.not_eq_false', Bool.or_eq_true, Bool.or_eq_false_iff, Bool.and_eq_true, Bool.and_eq_false_iff, decide_eq_true_eq, decide_eq_false_iff_not, Classical.not_not, not_or, maxLen, con31, hT, hG, hk, hK, Tryd.results31] at hwf ⊢); (try simp (disch := decide +kernel) only [drawn, true_and, and_true])
  refine fun hln => ⟨fun h2 => ?_, fun h2 => ?_⟩
  · match xs, h2 with
    | [], _ => rfl
    | [a], _ => rfl
    | a :: b :: l, h2 => simp at h2; omega
  · refine evk_loop ⟨{ k : Nat // 1 ≤ k ∧ k ≤ xs.length ∧ ddP xs k = xs.take k }, 1000, fun k => [(0, .one (.row 0)), (3, .one (.int .i64 k.1))], fun k => [(0, .row 34 yPL xs)], fun k => xs.length - k.1⟩ ⟨1, by omega, by omega, by simp [ddP]; match xs, h2 with | [], h2 => simp at h2 | a :: l, _ => rfl⟩ ?_ ?_
    · simp only [go_sem]
      rfl
    · rintro ⟨k, (hk1 : 1 ≤ k), (hk2 : k ≤ xs.length), (hk3 : ddP xs k = xs.take k)⟩
      (simp -implicitDefEqProofs (maxSteps := 4000000) only [go_sem, Bool.not_eq_true', Bool.not_eq_false', Bool.or_eq_true, Bool.or_eq_false_iff, Bool.and_eq_true, Bool.and_eq_false_iff, decide_eq_true_eq, decide_eq_false_iff_not, Classical.not_not, not_or, maxLen, con31, hT, hG, hk, hK, Tryd.results31]); (try simp (disch := decide +kernel) only [drawn, true_and, and_true])
      refine fun _ => ⟨fun hlt => ?_, fun hge => ?_⟩
      · have hkl : k < xs.length := by omega
        have e1 : ∀ z, xs.getD (k : Int).toNat z = xs[k] := fun z => by simp [hkl]
        have e2 : ∀ z, xs.getD ((k : Int) - 1).toNat z = xs[k - 1] := fun z => by
         rw [show ((k : Int) - 1).toNat = k - 1 by omega]; simp [show k - 1 < xs.length by omega]
        have f1 : ∀ i (h : i < xs.length), xs.getD i pl0 = xs[i] := fun i h => by simp [h]
        obtain ⟨v, hv⟩ : ∃ v, xs[k] = v := ⟨_, rfl⟩
        obtain ⟨w, hw⟩ : ∃ w, xs[k - 1] = w := ⟨_, rfl⟩
        have eV : (v.1, v.2.1, v.2.2) = v := rfl
        have eW : (w.1, w.2.1, w.2.2) = w := rfl
        simp only [e1, e2, hv, hw]
        try simp only [plE, plN]
        (repeat' (with_reducible (first | refine And.intro ?_ ?_ | intro _))) <;> (try (first | with_reducible (first | done | assumption | omega | contradiction) | decide))
        all_goals first
         | (have hne : ¬ v = w := by assumption
            refine fin_lp ⟨k + 1, by omega, by omega, ?_⟩ ?_ (by dsimp only; omega)
            · rw [ddP, f1 k hkl, f1 (k - 1) (by omega), if_neg (fun q => hne (by rw [← hv, ← hw]; exact q.2)), hk3, List.take_succ_eq_append_getElem hkl]
            · simp only [go_sem]
              and_intros <;> first | rfl | omega)
         | (have heq : v = w := by assumption
            have b0 : ddP xs (k + 1) = xs.take k := by
             rw [ddP, f1 k hkl, f1 (k - 1) (by omega), if_pos ⟨by omega, by rw [hv, hw]; exact heq⟩, List.append_nil, hk3]
            have g1 : (k : Int).toNat = k := by omega
            have g2 : ((xs.length : Int) - (k : Int)).toNat = xs.length - k := by omega
            rw [g1, g2]
            refine evk_loop ⟨{ q : Nat × Nat × List Plt // k ≤ q.1 ∧ q.1 ≤ k + q.2.1 - 1 ∧ 1 ≤ q.2.1 ∧ q.2.1 ≤ xs.length - k ∧ q.2.2.length = xs.length ∧ q.2.2.take q.1 = ddP xs (k + q.2.1) ∧ q.2.2.drop (k + q.2.1 - 1) = xs.drop (k + q.2.1 - 1) }, 2000, fun q => [(0, .one (.row 0)), (3, .one (.int .i64 q.1.1)), (4, .one (.win 0 3 k (xs.length - k))), (5, .one (.int .i64 q.1.2.1))], fun q => [(0, .row 34 yPL q.1.2.2)], fun q => xs.length - q.1.2.1⟩ ⟨(k, 1, xs), by dsimp only; omega, by dsimp only; omega, by dsimp only; omega, by dsimp only; omega, rfl, b0.symm, rfl⟩ ?_ ?_
            · simp only [go_sem]
              first | rfl | exact ⟨rfl, rfl⟩
            · rintro ⟨⟨a, p, R⟩, (c1 : k ≤ a), (c2 : a ≤ k + p - 1), (c3 : 1 ≤ p), (c4 : p ≤ xs.length - k), (c5 : R.length = xs.length), (c6 : R.take a = ddP xs (k + p)), (c7 : R.drop (k + p - 1) = xs.drop (k + p - 1))⟩
              have hw : (k + (xs.length - k) ≤ R.length) = True := by rw [eq_iff_iff, iff_true]; omega
              (simp -implicitDefEqProofs (maxSteps := 4000000) only [go_sem, Bool.not_eq_true', Bool.not_eq_false', Bool.or_eq_true, Bool.or_eq_false_iff, Bool.and_eq_true, Bool.and_eq_false_iff, decide_eq_true_eq, decide_eq_false_iff_not, Classical.not_not, not_or, maxLen, con31, hT, hG, hk, hK, Tryd.results31, hw]); (try simp (disch := decide +kernel) only [drawn, true_and, and_true])
              have at_ : ∀ i, k + p - 1 ≤ i → ∀ z, R.getD i z = xs.getD i z := fun i hi z => by
               have h := congrArg (fun l : List Plt => l[i - (k + p - 1)]?) c7
               simp only [List.getElem?_drop] at h
               rw [show k + p - 1 + (i - (k + p - 1)) = i by omega] at h
               rw [List.getD_eq_getElem?_getD, List.getD_eq_getElem?_getD, h]
              have f2 : ((k : Int) + (p : Int)).toNat = k + p := by omega
              have f3 : ((k : Int) + ((p : Int) - 1)).toNat = k + p - 1 := by omega
              have f4 : (a : Int).toNat = a := by omega
              simp only [f2, f3, f4]
              rw [at_ (k + p) (by omega) (0, 0, 0), at_ (k + p - 1) (Nat.le_refl _) (0, 0, 0)]
              have hst : ddP xs (k + p + 1) = ddP xs (k + p) ++ if xs.getD (k + p) pl0 = xs.getD (k + p - 1) pl0 then [] else [xs.getD (k + p) pl0] := by
               rw [ddP]
               by_cases h : xs.getD (k + p) pl0 = xs.getD (k + p - 1) pl0
               · rw [if_pos ⟨by omega, h⟩, if_pos h]
               · rw [if_neg (fun q => h q.2), if_neg h]
              obtain ⟨v2, hv2⟩ : ∃ v, xs.getD (k + p) pl0 = v := ⟨_, rfl⟩
              obtain ⟨w2, hw2⟩ : ∃ v, xs.getD (k + p - 1) pl0 = v := ⟨_, rfl⟩
              have hv3 : xs.getD (k + p) (0, 0, 0) = v2 := hv2
              have hw3 : xs.getD (k + p - 1) (0, 0, 0) = w2 := hw2
              rw [hv2, hw2] at hst
              have eV2 : (v2.1, v2.2.1, v2.2.2) = v2 := rfl
              simp only [hv3, hw3]
              try simp only [plE, plN]
              (repeat' (with_reducible (first | refine And.intro ?_ ?_ | intro _))) <;> (try (first | with_reducible (first | done | assumption | omega | contradiction) | decide))
              all_goals first
               | (have hne : ¬ v2 = w2 := by assumption
                  rw [if_neg hne] at hst
                  refine fin_lp ⟨(a + 1, p + 1, R.set a v2), by dsimp only; omega, by dsimp only; omega, by dsimp only; omega, by dsimp only; omega, by dsimp only; rw [List.length_set]; exact c5, ?_, ?_⟩ ?_ (by dsimp only; omega)
                  · dsimp only
                    rw [← Nat.add_assoc, hst, ← c6, List.take_succ_eq_append_getElem (by rw [List.length_set]; omega), List.take_set_of_le (Nat.le_refl _), List.getElem_set_self]
                  · dsimp only
                    rw [List.drop_set_of_lt (by omega)]
                    have := congrArg (List.drop 1) c7
                    rw [List.drop_drop, List.drop_drop, show k + p - 1 + 1 = k + (p + 1) - 1 by omega] at this
                    exact this
                  · simp only [go_sem]
                    and_intros <;> first | rfl | omega)
               | (have heq2 : v2 = w2 := by assumption
                  rw [if_pos heq2] at hst
                  refine fin_lp ⟨(a, p + 1, R), by dsimp only; omega, by dsimp only; omega, by dsimp only; omega, by dsimp only; omega, c5, ?_, ?_⟩ ?_ (by dsimp only; omega)
                  · dsimp only
                    rw [← Nat.add_assoc, hst, List.append_nil, c6]
                  · dsimp only
                    have := congrArg (List.drop 1) c7
                    rw [List.drop_drop, List.drop_drop, show k + p - 1 + 1 = k + (p + 1) - 1 by omega] at this
                    exact this
                  · simp only [go_sem]
                    and_intros <;> first | rfl | omega)
               | (have hp : k + p = xs.length := by omega
                  have g3 : ((R.length : Int) - (a : Int)).toNat = R.length - a := by omega
                  have g4 : (a + (R.length - a) ≤ R.length) = True := by rw [eq_iff_iff, iff_true]; omega
                  rw [g3]
                  (simp -implicitDefEqProofs (maxSteps := 4000000) only [go_sem, Bool.not_eq_true', Bool.not_eq_false', Bool.or_eq_true, Bool.or_eq_false_iff, Bool.and_eq_true, Bool.and_eq_false_iff, decide_eq_true_eq, decide_eq_false_iff_not, Classical.not_not, not_or, maxLen, con31, hT, hG, hk, hK, Tryd.results31, g4]); (try simp (disch := decide +kernel) only [drawn, true_and, and_true])
                  have e5 : (R.take a).length = a := by rw [List.length_take]; omega
                  refine ⟨⟨by omega, by rw [List.length_append, e5]; omega⟩, ?_⟩
                  rw [show (a : Int).toNat = a by omega, List.take_append_of_le_length (by omega), List.take_of_length_le (by omega), c6, hp]
                  rfl))
      · have : k = xs.length := by omega
        subst this
        unfold compP
        rw [hk3, List.take_length])
def con29 : RCon := sortFCon 34 yPL 30 (fun a b => pltC a b)
theorem c29 : RCtrOk Tryd.prog 29 con29.rctr := sort_func (e := 34) (t := yPL) Tryd.sortP (by decide) Tryd.isAgg34 Tryd.sizeOf34 (hS := by unfold StrictP; rw [← Array.all_toList]; kernel_rfl) (c := fun (a b : Plt) => pltC a b) c30 has30 pltC_cmp.swo
end Go.Proofs.YtjhoidgpecgfoaaDoor

/- Containers: lists of them. -/
set_option linter.unusedSimpArgs false
set_option linter.unusedVariables false
set_option maxRecDepth 100000
set_option maxHeartbeats 4000000
namespace Go.Proofs.YtjhoidgpecgfoaaDoor
open Go.Ev

theorem mget_mset {kt : Ty} {β : Type} (hk : ∀ a b : kt.den, keyEq kt a b = true ↔ a = b) (m : List (kt.den × β)) (x y : kt.den) (v : β) : mget (kt := kt) (mset (kt := kt) m y v) x = if keyEq kt x y = true then some v else mget (kt := kt) m x := by
 induction m with
 | nil => rfl
 | cons p m ih =>
   obtain ⟨k, w⟩ := p
   simp only [mset]
   by_cases h1 : keyEq kt y k = true
   · rw [if_pos h1]
     have e1 := (hk y k).1 h1
     subst e1
     simp only [mget]
     by_cases h2 : keyEq kt x y = true <;> simp [h2]
   · rw [if_neg h1]
     simp only [mget]
     by_cases h2 : keyEq kt x k = true
     · have e2 := (hk x k).1 h2
       subst e2
       have h3 : ¬ keyEq kt x y = true := fun h => h1 ((hk y x).2 ((hk x y).1 h).symm)
       simp [h2, h3]
     · simp only [if_neg h2]; exact ih
theorem keyEq_int (a b : Int) : keyEq (.int .i64) a b = true ↔ a = b := by simp [keyEq]
/-- What is wrong with the container at a place. -/
def dupP (l : List Cnt) (i : Nat) : Prop := (l.getD i ct0).pos ≠ 0 ∧ ∃ k, k < i ∧ (l.getD k ct0).pos = (l.getD i ct0).pos ∧ (l.getD k ct0).flt = (l.getD i ct0).flt
def dupB (l : List Cnt) (i : Nat) : Prop := ∃ x ∈ (l.getD i ct0).pcs, ∃ k, k < i ∧ holdsV (l.getD k ct0) x.1 = true
def dupPb (l : List Cnt) (i : Nat) : Bool := decide ((l.getD i ct0).pos ≠ 0) && (List.range i).any (fun k => decide ((l.getD k ct0).pos = (l.getD i ct0).pos) && decide ((l.getD k ct0).flt = (l.getD i ct0).flt))
def dupBb (l : List Cnt) (i : Nat) : Bool := (l.getD i ct0).pcs.any (fun x => (List.range i).any (fun k => holdsV (l.getD k ct0) x.1))
instance decDupP (l : List Cnt) (i : Nat) : Decidable (dupP l i) := decidable_of_iff (dupPb l i = true) (by
 unfold dupPb dupP
 simp only [Bool.and_eq_true, decide_eq_true_eq, List.any_eq_true, List.mem_range])
instance decDupB (l : List Cnt) (i : Nat) : Decidable (dupB l i) := decidable_of_iff (dupBb l i = true) (by
 unfold dupBb dupB
 simp only [List.any_eq_true, List.mem_range])
theorem pcs_push {l : List Pce} {k : Nat} (hk : k < l.length) : (l.take (k + 1)).map (fun x => x.1) = (l.take k).map (fun x => x.1) ++ [(l.getD k pc0).1] := by
 rw [List.take_succ_eq_append_getElem hk, List.map_append, ← getD_lt hk (d := pc0)]; rfl
end Go.Proofs.YtjhoidgpecgfoaaDoor

/- The plates that concern a flight. -/
set_option linter.unusedSimpArgs false
set_option linter.unusedVariables false
set_option maxRecDepth 100000
set_option maxHeartbeats 4000000
namespace Go.Proofs.YtjhoidgpecgfoaaDoor
open Go.Ev

def setU (l : List Int) : List (Int × Unit) := l.foldl (fun m x => mset (kt := .int .i64) m x ()) []
theorem setU_push (l : List Int) (x : Int) : setU (l ++ [x]) = mset (kt := .int .i64) (setU l) x () := by
 unfold setU; rw [List.foldl_append]; rfl
theorem setU_in (x : Int) : ∀ (l : List Int), (mget (kt := .int .i64) (setU l) x).isSome = true ↔ x ∈ l := by
 have key : ∀ (l : List Int) (m : List (Int × Unit)), (mget (kt := .int .i64) (l.foldl (fun m x => mset (kt := .int .i64) m x ()) m) x).isSome = true ↔ (x ∈ l ∨ (mget (kt := .int .i64) m x).isSome = true) := by
  intro l
  induction l with
  | nil => intro m; simp
  | cons y l ih =>
    intro m
    rw [List.foldl_cons, ih, mget_mset (kt := .int .i64) (β := Unit) keyEq_int]
    by_cases h : keyEq (.int .i64) x y = true
    · rw [if_pos h]; simp [(keyEq_int x y).1 h]
    · rw [if_neg h]
      have : x ≠ y := fun e => h ((keyEq_int x y).2 e)
      simp [this]
 intro l
 rw [setU, key]
 simp [mget]
def rawC (f : Flt) (o : Cnt) : List Plt := if o.flt = f then o.pcs.map (fun x => x.1) else []
def rawA (f : Flt) (c : List Cnt) : List Plt := c.flatMap (rawC f)
def ownC (f : Flt) (o : Cnt) : List Int := if o.flt = f then [o.num] else []
def ownL (f : Flt) (c : List Cnt) : List Int := c.flatMap (ownC f)
def rawP (f : Flt) (c : List Cnt) (y : Plm) : List Plt := if y.2.2.any (fun n => decide (n ∈ ownL f c)) = true then [y.1.1] else []
/-- The plates that concern a flight, in order. -/
def concV (f : Flt) (c : List Cnt) (p : List Plm) : List Plt := setP (rawA f c ++ p.flatMap (rawP f c))
def SmC (c : List Cnt) (p : List Plm) : Prop := c.length ≤ 1000 ∧ (∀ o ∈ c, o.pcs.length ≤ 1000) ∧ p.length ≤ 1000 ∧ ∀ y ∈ p, y.2.2.length ≤ 1000
theorem any_own (f : Flt) (c : List Cnt) (l : List Int) : (l.any fun n => (mget (kt := .int .i64) (setU (ownL f c)) n).isSome) = l.any fun n => decide (n ∈ ownL f c) := by
 congr 1; funext n
 rw [Bool.eq_iff_iff, setU_in, decide_eq_true_eq]
theorem flat_len {α β : Type} (g : α → List β) (n : Nat) : ∀ (l : List α), (∀ x ∈ l, (g x).length ≤ n) → (l.flatMap g).length ≤ n * l.length
 | [], _ => by simp
 | a :: l, h => by
   have h1 := h a (List.mem_cons_self ..)
   have h2 := flat_len g n l fun x hx => h x (List.mem_cons_of_mem _ hx)
   rw [List.flatMap_cons, List.length_append, List.length_cons, Nat.mul_succ]
   omega
theorem flat_take {α β : Type} (g : α → List β) (d : α) {l : List α} {i : Nat} (h : i < l.length) : (l.take (i + 1)).flatMap g = (l.take i).flatMap g ++ g (l.getD i d) := by
 rw [List.take_succ_eq_append_getElem h, List.flatMap_append, getD_lt (d := d) h]; simp
theorem rawC_len (f : Flt) (o : Cnt) : (rawC f o).length ≤ o.pcs.length := by unfold rawC; split <;> simp
theorem rawA_len {f : Flt} {c : List Cnt} {p : List Plm} (h : SmC c p) (i : Nat) : (rawA f (c.take i)).length ≤ 1000000 := by
 have h1 := flat_len (rawC f) 1000 (c.take i) fun x hx => Nat.le_trans (rawC_len f x) (h.2.1 x (List.mem_of_mem_take hx))
 have h2 : (c.take i).length ≤ 1000 := by rw [List.length_take]; have := h.1; omega
 show ((c.take i).flatMap (rawC f)).length ≤ _
 calc _ ≤ 1000 * (c.take i).length := h1
  _ ≤ 1000 * 1000 := Nat.mul_le_mul_left _ h2
  _ ≤ 1000000 := by omega
theorem rawP_len (f : Flt) (c : List Cnt) (p : List Plm) : (p.flatMap (rawP f c)).length ≤ p.length := by
 have := flat_len (rawP f c) 1 p fun y _ => by unfold rawP; split <;> simp
 omega
def con28 : BCon := { ps := [.d false (.int .i64), .bx], rs := [.d false .bool], e := 85, k := .map (.int .i64) .unit false true, pre := fun _ _ => True, out := fun (x : Int × Unit × Unit) z => ((mget (kt := .int .i64) z x.1).isSome, ()), nw := fun x _ => x, nx := fun _ z => z }
theorem c28 : CtrOk Tryd.prog 28 con28.ctr :=
 box_sound (G := ⟨[], [], [], [], []⟩) tab_ok EnvOk.nil rfl Tryd.func28 rfl con28 43 (by kernel_rfl) (by decide) (by decide) rfl (by decide) rfl (by
  rintro ⟨(n : Int), _⟩ (z : List (Int × Unit)) hpre hwf X hT hG hk hK
  (simp -implicitDefEqProofs (maxSteps := 4000000) only [go_sem, Bool.not_eq_true', Bool.not_eq_false', Bool.or_eq_true, Bool.or_eq_false_iff, Bool.and_eq_true, Bool.and_eq_false_iff, decide_eq_true_eq, decide_eq_false_iff_not, Classical.not_not, not_or, maxLen, con28, hT, hG, hk, hK, Tryd.results28] at hwf ⊢); (try simp (disch := decide +kernel) only [drawn, true_and, and_true])
  all_goals rfl)
def con45 : BCon := { ps := [.d false (.sl (.int .i64)), .cl 28 [.bx]], rs := [.d false (.int .i64)], e := 85, k := .map (.int .i64) .unit false true, pre := fun _ _ => True, out := fun (x : List Int × (Unit × Unit) × Unit) z => (idxV (fun n => (mget (kt := .int .i64) z n).isSome) x.1, ()), nw := fun x _ => x, nx := fun _ z => z }
theorem c45 : CtrOk Tryd.prog 45 con45.ctr :=
 box_sound (G := ⟨[(28, con28.ctr)], [], [], [], []⟩) tab_ok (EnvOk.cons c28 has28 EnvOk.nil) rfl Tryd.func45 rfl con45 66483 (by kernel_rfl) (by decide) (by decide) rfl (by decide) rfl (by
  rintro ⟨(l : List Int), _⟩ (z : List (Int × Unit)) hpre hwf X hT hG hk hK
  (simp -implicitDefEqProofs (maxSteps := 4000000) only [go_sem, Bool.not_eq_true', Bool.not_eq_false', Bool.or_eq_true, Bool.or_eq_false_iff, Bool.and_eq_true, Bool.and_eq_false_iff, decide_eq_true_eq, decide_eq_false_iff_not, Classical.not_not, not_or, maxLen, con45, con28, hT, hG, hk, hK, Tryd.results45] at hwf ⊢); (try simp (disch := decide +kernel) only [drawn, true_and, and_true])
  clear hwf
  refine fun _ => evk_loop ⟨{ i : Nat // i ≤ l.length ∧ ∀ k, k < i → (fun n => (mget (kt := .int .i64) z n).isSome) (l.getD k 0) = false }, 1000, fun q => [(0, .one (.sl (.int .i64) l false)), (1, .one (.fn 28 [.loc 31 0])), (4, .one (.int .i64 0)), (7, .one (.int .i64 l.length)), (8, .one (.int .i64 q.1))], fun q => [(31, .cells 85 [.map 40]), (40, .mapb (.int .i64) .unit false true z)], fun q => l.length - q.1⟩ ⟨0, by omega, fun k hk => by omega⟩ ?_ ?_
  · simp only [go_sem]
    try (first | rfl | exact ⟨rfl, rfl⟩ | (and_intros <;> first | trivial | rfl | omega))
  · rintro ⟨i, (hi : i ≤ l.length), hz⟩
    (simp -implicitDefEqProofs (maxSteps := 4000000) only [go_sem, Bool.not_eq_true', Bool.not_eq_false', Bool.or_eq_true, Bool.or_eq_false_iff, Bool.and_eq_true, Bool.and_eq_false_iff, decide_eq_true_eq, decide_eq_false_iff_not, Classical.not_not, not_or, maxLen, con45, con28, hT, hG, hk, hK, Tryd.results45]); (try simp (disch := decide +kernel) only [drawn, true_and, and_true])
    obtain ⟨o, ho⟩ : ∃ o, l.getD i 0 = o := ⟨_, rfl⟩
    have eo : l.getD (i : Int).toNat 0 = o := ho
    rw [eo]
    (repeat' (with_reducible (first | refine And.intro ?_ ?_ | intro _))) <;> (try (first | with_reducible (first | done | assumption | omega | contradiction) | decide))
    all_goals first
     | rfl
     | (have h : (mget (kt := .int .i64) z o).isSome = true := by assumption
        exact (idxV_at (d := 0) hz (by omega) (by rw [ho]; exact h)).symm)
     | (have h : (mget (kt := .int .i64) z o).isSome = false := by assumption
        refine fin_lp ⟨i + 1, by omega, lt_succ hz (by rw [ho]; exact h)⟩ (by simp only [go_sem]; first | rfl | ((repeat' apply And.intro) <;> first | rfl | assumption | omega)) (by dsimp only; omega)
        done)
     | exact (idxV_none (d := 0) fun k hk => hz k (by omega)).symm)
def con27 : BCon := { ps := [.d false (.sl (.int .i64)), .cl 28 [.bx]], rs := [.d false .bool], e := 85, k := .map (.int .i64) .unit false true, pre := fun _ _ => True, out := fun (x : List Int × (Unit × Unit) × Unit) z => (x.1.any (fun n => (mget (kt := .int .i64) z n).isSome), ()), nw := fun x _ => x, nx := fun _ z => z }
theorem any_idx (g : Int → Bool) (l : List Int) : l.any g = decide (idxV g l ≥ 0) := by
 by_cases h : 0 ≤ idxV g l
 · obtain ⟨h1, h2, _⟩ := idxV_spec (d := 0) h
   rw [decide_eq_true (by omega), List.any_eq_true]
   exact ⟨_, getD_mem h1, h2⟩
 · rw [decide_eq_false (by omega), List.any_eq_false]
   intro x hx
   have := idxV_neg (p := g) (l := l) (by omega) x hx
   rw [this]; exact Bool.false_ne_true
theorem c27 : CtrOk Tryd.prog 27 con27.ctr :=
 box_sound (G := ⟨[(45, con45.ctr)], [], [], [], []⟩) tab_ok (EnvOk.cons c45 has45 EnvOk.nil) rfl Tryd.func27 rfl con27 19 (by kernel_rfl) (by decide) (by decide) rfl (by decide) rfl (by
  rintro ⟨(l : List Int), _⟩ (z : List (Int × Unit)) hpre hwf X hT hG hk hK
  (simp -implicitDefEqProofs (maxSteps := 4000000) only [go_sem, Bool.not_eq_true', Bool.not_eq_false', Bool.or_eq_true, Bool.or_eq_false_iff, Bool.and_eq_true, Bool.and_eq_false_iff, decide_eq_true_eq, decide_eq_false_iff_not, Classical.not_not, not_or, maxLen, con27, con45, hT, hG, hk, hK, Tryd.results27] at hwf ⊢); (try simp (disch := decide +kernel) only [drawn, true_and, and_true])
  rw [any_idx]
  (repeat' (with_reducible (first | refine And.intro ?_ ?_ | intro _))) <;> (try (first | with_reducible (first | done | assumption | omega | contradiction) | decide))
  all_goals rfl)
def con13 : Con := { ps := [.d true yFL, .d false (.sl yCT), .d false (.sl yPM)], rs := [.d false (.sl yPL)], pre := fun (x : Flt × List Cnt × List Plm × Unit) => SmC x.2.1 x.2.2.1, out := fun (x : Flt × List Cnt × List Plm × Unit) => (concV x.1 x.2.1 x.2.2.1, ()), nw := id }
theorem c13 : CtrOk Tryd.prog 13 con13.ctr :=
 con_sound (G := ⟨[(27, con27.ctr), (31, con31.ctr)], [(29, con29.rctr)], [], [], []⟩) tab_ok (EnvOk.cons c27 has27 (EnvOk.cons c31 has31 (EnvOk.rcons c29 has29 EnvOk.nil))) rfl Tryd.func13 rfl con13 9271114292221391 (by kernel_rfl) (by decide) (by decide) rfl (by decide) rfl (by
  rintro ⟨⟨f1, (f2 : Int), f3, (f4 : Int)⟩, (c : List Cnt), (p : List Plm), _⟩ hpre hwf X hT hG hk hK
  have hsm : SmC c p := hpre
  (simp -implicitDefEqProofs (maxSteps := 4000000) only [go_sem, Bool.not_eq_true', Bool.not_eq_false', Bool.or_eq_true, Bool.or_eq_false_iff, Bool.and_eq_true, Bool.and_eq_false_iff, decide_eq_true_eq, decide_eq_false_iff_not, Classical.not_not, not_or, maxLen, con13, con27, con31, con29, hT, hG, hk, hK, Tryd.results13, sortFCon] at hwf ⊢); (try simp (disch := decide +kernel) only [drawn, true_and, and_true])
  clear hwf
  obtain ⟨F, hF⟩ : ∃ F : Flt, F = (f1, f2, f3, f4) := ⟨_, rfl⟩
  refine fun _ => evk_loop ⟨{ i : Nat // i ≤ c.length }, 1000, fun q => [(2, .one (.sl yPM p false)), (3, .one (.loc 70 0)), (7, .one (.row 71)), (8, .one (.loc 72 0)), (16, .one (.sl yCT c false)), (17, .one (.int .i64 c.length)), (18, .one (.int .i64 q.1))], fun q => [(70, .cells 36 [.str f1, .int .i64 f2, .str f3, .int .i64 f4]), (72, .cells 85 [.map 73]), (71, .row 34 yPL (rawA F (c.take q.1))), (73, .mapb (.int .i64) .unit false true (setU (ownL F (c.take q.1))))], fun q => c.length - q.1⟩ ⟨0, by omega⟩ ?_ ?_
  · simp only [go_sem]
    try (first | rfl | exact ⟨rfl, rfl⟩ | (and_intros <;> first | trivial | rfl | omega))
  · rintro ⟨i, (hi : i ≤ c.length)⟩
    (simp -implicitDefEqProofs (maxSteps := 4000000) only [go_sem, Bool.not_eq_true', Bool.not_eq_false', Bool.or_eq_true, Bool.or_eq_false_iff, Bool.and_eq_true, Bool.and_eq_false_iff, decide_eq_true_eq, decide_eq_false_iff_not, Classical.not_not, not_or, maxLen, con13, con27, con31, con29, hT, hG, hk, hK, Tryd.results13, sortFCon]); (try simp (disch := decide +kernel) only [drawn, true_and, and_true])
    obtain ⟨o, ho⟩ : ∃ o, c.getD i ct0 = o := ⟨_, rfl⟩
    have eo : c.getD (i : Int).toNat (0, (ByteArray.empty, 0, ByteArray.empty, 0), 0, 0, 0, 0, 0, []) = o := ho
    rw [eo]
    have hra : i < c.length → rawA F (c.take (i + 1)) = rawA F (c.take i) ++ rawC F o := fun h => by unfold rawA; rw [flat_take _ ct0 h, ho]
    have hro : i < c.length → ownL F (c.take (i + 1)) = ownL F (c.take i) ++ ownC F o := fun h => by unfold ownL; rw [flat_take _ ct0 h, ho]
    have hlr := rawA_len (f := F) hsm i
    have hlo : i < c.length → o.pcs.length ≤ 1000 := fun h => hsm.2.1 o (by rw [← ho]; exact getD_mem h)
    (repeat' (with_reducible (first | refine And.intro ?_ ?_ | intro _))) <;> (try (first | with_reducible (first | done | assumption | omega | contradiction) | decide))
    all_goals first
     | (have h : ¬ o.2.1.1 = f1 ∨ ¬ o.2.1.2.1 = f2 ∨ ¬ o.2.1.2.2.1 = f3 ∨ ¬ o.2.1.2.2.2 = f4 := by assumption
        have hn : ¬ o.flt = F := by rw [hF]; exact (fltN o.2.1 (f1, f2, f3, f4)).mp h
        have e1 := hra (by omega)
        have e2 := hro (by omega)
        unfold rawC at e1
        unfold ownC at e2
        rw [if_neg hn, List.append_nil] at e1 e2
        refine fin_lp ⟨i + 1, by omega⟩ ?_ (by dsimp only; omega)
        simp only [go_sem]
        rw [e1, e2]
        try (first | rfl | exact ⟨rfl, rfl⟩ | (and_intros <;> first | trivial | rfl | omega))
        done)
     | (have h : o.2.1.1 = f1 ∧ o.2.1.2.1 = f2 ∧ o.2.1.2.2.1 = f3 ∧ o.2.1.2.2.2 = f4 := by assumption
        have hn : o.flt = F := by rw [hF]; exact (fltE o.2.1 (f1, f2, f3, f4)).mp h
        have e1 := hra (by omega)
        have e2 := hro (by omega)
        have hlo := hlo (by omega)
        unfold rawC at e1
        unfold ownC at e2
        rw [if_pos hn] at e1 e2
        rw [← setU_push]
        refine evk_loop ⟨{ k : Nat // k ≤ o.pcs.length }, 1000, fun q => [(2, .one (.sl yPM p false)), (3, .one (.loc 70 0)), (7, .one (.row 71)), (8, .one (.loc 72 0)), (16, .one (.sl yCT c false)), (17, .one (.int .i64 c.length)), (18, .one (.int .i64 i)), (31, .one (.sl yPC o.pcs false)), (32, .one (.int .i64 o.pcs.length)), (33, .one (.int .i64 q.1))], fun q => [(70, .cells 36 [.str f1, .int .i64 f2, .str f3, .int .i64 f4]), (72, .cells 85 [.map 73]), (71, .row 34 yPL (rawA F (c.take i) ++ (o.pcs.take q.1).map (fun x => x.1))), (73, .mapb (.int .i64) .unit false true (setU (ownL F (c.take i) ++ [o.num])))], fun q => o.pcs.length - q.1⟩ ⟨0, by omega⟩ ?_ ?_
        · simp only [go_sem]
          try simp only [List.take_zero, List.map_nil, List.append_nil]
          try (first | rfl | exact ⟨rfl, rfl⟩ | (and_intros <;> first | trivial | rfl | omega))
        · rintro ⟨k, (hk2 : k ≤ o.pcs.length)⟩
          (simp -implicitDefEqProofs (maxSteps := 4000000) only [go_sem, Bool.not_eq_true', Bool.not_eq_false', Bool.or_eq_true, Bool.or_eq_false_iff, Bool.and_eq_true, Bool.and_eq_false_iff, decide_eq_true_eq, decide_eq_false_iff_not, Classical.not_not, not_or, maxLen, con13, con27, con31, con29, hT, hG, hk, hK, Tryd.results13, sortFCon]); (try simp (disch := decide +kernel) only [drawn, true_and, and_true])
          obtain ⟨y, hy⟩ : ∃ y, o.pcs.getD k pc0 = y := ⟨_, rfl⟩
          have ey : o.pcs.getD (k : Int).toNat ((0, 0, 0), 0, 0) = y := hy
          have hps : k < o.pcs.length → (o.pcs.take (k + 1)).map (fun x => x.1) = (o.pcs.take k).map (fun x => x.1) ++ [y.1] := fun h => by rw [pcs_push h, hy]
          have hkl : ((o.pcs.take k).map (fun x : Pce => x.1)).length ≤ 1000 := by rw [List.length_map, List.length_take]; omega
          try rw [ey]
          (repeat' (with_reducible (first | refine And.intro ?_ ?_ | intro _))) <;> (try (first | with_reducible (first | done | assumption | omega | contradiction) | decide))
          all_goals first
           | (have e3 := hps (by omega)
              refine fin_lp ⟨k + 1, by omega⟩ ?_ (by dsimp only; omega)
              simp only [go_sem]
              rw [e3, ← List.append_assoc]
              try (first | rfl | exact ⟨rfl, rfl⟩ | (and_intros <;> first | trivial | rfl | omega))
              done)
           | (have e4 : k = o.pcs.length := by omega
              refine fin_lp ⟨i + 1, by omega⟩ ?_ (by dsimp only; omega)
              simp only [go_sem]
              rw [e1, e2, e4, List.take_length]
              try (first | rfl | exact ⟨rfl, rfl⟩ | (and_intros <;> first | trivial | rfl | omega))
              done)
           | (rw [List.length_append]; omega))
     | (have ei : c.take i = c := List.take_of_length_le (by omega)
        rw [ei]
        refine evk_loop ⟨{ k : Nat // k ≤ p.length }, 1000, fun q => [(3, .one (.loc 70 0)), (7, .one (.row 71)), (8, .one (.loc 72 0)), (44, .one (.sl yPM p false)), (45, .one (.int .i64 p.length)), (46, .one (.int .i64 q.1))], fun q => [(70, .cells 36 [.str f1, .int .i64 f2, .str f3, .int .i64 f4]), (72, .cells 85 [.map 73]), (71, .row 34 yPL (rawA F c ++ (p.take q.1).flatMap (rawP F c))), (73, .mapb (.int .i64) .unit false true (setU (ownL F c)))], fun q => p.length - q.1⟩ ⟨0, by omega⟩ ?_ ?_
        · simp only [go_sem]
          try simp only [List.take_zero, List.flatMap_nil, List.append_nil]
          try (first | rfl | exact ⟨rfl, rfl⟩ | (and_intros <;> first | trivial | rfl | omega))
        · rintro ⟨k, (hk2 : k ≤ p.length)⟩
          (simp -implicitDefEqProofs (maxSteps := 4000000) only [go_sem, Bool.not_eq_true', Bool.not_eq_false', Bool.or_eq_true, Bool.or_eq_false_iff, Bool.and_eq_true, Bool.and_eq_false_iff, decide_eq_true_eq, decide_eq_false_iff_not, Classical.not_not, not_or, maxLen, con13, con27, con31, con29, hT, hG, hk, hK, Tryd.results13, sortFCon]); (try simp (disch := decide +kernel) only [drawn, true_and, and_true])
          obtain ⟨y, hy⟩ : ∃ y, p.getD k pm0 = y := ⟨_, rfl⟩
          have ey : p.getD (k : Int).toNat (((0, 0, 0), 0, 0), 0, []) = y := hy
          have hps : k < p.length → (p.take (k + 1)).flatMap (rawP F c) = (p.take k).flatMap (rawP F c) ++ rawP F c y := fun h => by rw [flat_take _ pm0 h, hy]
          have hkl := rawP_len F c (p.take k)
          have hkl2 : (p.take k).length ≤ 1000 := by rw [List.length_take]; have := hsm.2.2.1; omega
          have hlr := rawA_len (f := F) hsm c.length
          rw [List.take_length] at hlr
          try rw [ey]
          try simp only [any_own]
          (repeat' (with_reducible (first | refine And.intro ?_ ?_ | intro _))) <;> (try (first | with_reducible (first | done | assumption | omega | contradiction) | decide))
          all_goals first
           | (have h : (y.2.2.any fun n => decide (n ∈ ownL F c)) = true := by assumption
              have e3 := hps (by omega)
              unfold rawP at e3
              rw [if_pos h] at e3
              refine fin_lp ⟨k + 1, by omega⟩ ?_ (by dsimp only; omega)
              simp only [go_sem]
              unfold rawP
              rw [e3, ← List.append_assoc]
              try (first | rfl | exact ⟨rfl, rfl⟩ | (and_intros <;> first | trivial | rfl | omega))
              done)
           | (have h : (y.2.2.any fun n => decide (n ∈ ownL F c)) = false := by assumption
              have e3 := hps (by omega)
              unfold rawP at e3
              rw [if_neg (by rw [h]; exact Bool.false_ne_true), List.append_nil] at e3
              refine fin_lp ⟨k + 1, by omega⟩ ?_ (by dsimp only; omega)
              simp only [go_sem]
              unfold rawP
              rw [e3]
              try (first | rfl | exact ⟨rfl, rfl⟩ | (and_intros <;> first | trivial | rfl | omega))
              done)
           | (rw [List.length_append]; omega)
           | (rename_i h _
              have e4 : p.take k = p := List.take_of_length_le (by omega)
              rw [e4] at h
              rw [compP_eq h.1 h.2, hF]
              rfl)))
end Go.Proofs.YtjhoidgpecgfoaaDoor
