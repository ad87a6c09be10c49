/- Part. -/
import Derived.Test.YtkjpbhkldioggaaGreatClKcToKe
import Derived.Test.YtkjpbhkldioggaaGreatClLay
import Derived.Test.YtkjpbhkldioggaaGreatClKaToOrd
import Derived.Test.YtkjpbhkldioggaaGreatEvSimp
import Derived.RangeFuncBox
import Derived.Shelf.Abstract
import Derived.RangeFuncLeaves
import Derived.WalkKit
import Derived.OwnWalkIn
import Derived.TacticsInMore
import Derived.LoopNIn
import Derived.LoopIn
import Derived.Test.YtkjpbhkldioggaaGreatProg
set_option linter.all false
set_option maxRecDepth 100000
set_option maxHeartbeats 4000000
namespace Go.Proofs.YtkjpbhkldioggaaGreat
open Go.Ev
theorem strict_ext {α : Type} {R : α → α → Prop} (asy : ∀ x y, R x y → ¬ R y x) : ∀ {a b : List α}, a.Pairwise R → b.Pairwise R → (∀ x, x ∈ a ↔ x ∈ b) → a = b
 | [], [], _, _, _ => rfl
 | [], y :: b, _, _, h => by have := (h y).2 (List.mem_cons_self ..); cases this
 | x :: a, [], _, _, h => by have := (h x).1 (List.mem_cons_self ..); cases this
 | x :: a, y :: b, sa, sb, h => by
   have sa' := List.pairwise_cons.1 sa; have sb' := List.pairwise_cons.1 sb; have e : x = y := by
    rcases List.mem_cons.1 ((h x).1 (List.mem_cons_self ..)) with e | e
    · exact e
    · rcases List.mem_cons.1 ((h y).2 (List.mem_cons_self ..)) with k | k
      · exact k.symm
      · exact absurd (sb'.1 x e) (asy _ _ (sa'.1 y k))
   subst e; have nx : ∀ {r : List α} {z : α}, (∀ w ∈ r, R x w) → z ∈ r → z ≠ x := fun hr hz q => by
    have := hr _ hz; rw [q] at this; exact asy _ _ this this
   rw [strict_ext asy sa'.2 sb'.2 fun z => ⟨fun hz => (List.mem_cons.1 ((h z).1 (List.mem_cons_of_mem _ hz))).resolve_left (nx sa'.1 hz), fun hz => (List.mem_cons.1 ((h z).2 (List.mem_cons_of_mem _ hz))).resolve_left (nx sb'.1 hz)⟩]
def insC {α : Type} (c : α → α → Int) : List α → α → List α
 | [], p => [p]
 | a :: l, p => if c a p < 0 then a :: insC c l p else if c a p = 0 then a :: l else p :: a :: l
theorem insC_mem {α : Type} {c : α → α → Int} (hc : Cmp c) (x p : α) : ∀ l, x ∈ insC c l p ↔ x = p ∨ x ∈ l
 | [] => by simp [insC]
 | a :: l => by
   rw [insC]; split
   · rw [List.mem_cons, insC_mem hc x p l, List.mem_cons]; constructor
     · rintro (h | h | h)
       · exact .inr (.inl h)
       · exact .inl h
       · exact .inr (.inr h)
     · rintro (h | h | h)
       · exact .inr (.inl h)
       · exact .inl h
       · exact .inr (.inr h)
   · split
     · rename_i e; have := (hc.eq _ _).1 e; subst this; simp
     · simp
theorem insC_len {α : Type} {c : α → α → Int} (p : α) : ∀ l, (insC c l p).length ≤ l.length + 1
 | [] => by simp [insC]
 | a :: l => by
   have := insC_len (c := c) p l; rw [insC]; split
   · simp; omega
   · split <;> simp
theorem Cmp.as {α : Type} {c : α → α → Int} (hc : Cmp c) (x y : α) (h : c x y < 0) : ¬ c y x < 0 := fun k => by
 have := (hc.anti x y).1 h; omega
theorem insC_srt {α : Type} {c : α → α → Int} (hc : Cmp c) (p : α) : ∀ {l : List α}, l.Pairwise (fun a b => c a b < 0) → (insC c l p).Pairwise (fun a b => c a b < 0)
 | [], _ => by simp [insC]
 | a :: l, h => by
   have h' := List.pairwise_cons.1 h; rw [insC]; split
   · rename_i k; refine List.pairwise_cons.2 ⟨fun z hz => ?_, insC_srt hc p h'.2⟩
     rcases (insC_mem hc z p l).1 hz with rfl | hz
     · exact k
     · exact h'.1 z hz
   · split
     · exact h
     · rename_i k1 k2; have hpa : c p a < 0 := (hc.anti p a).2 (by omega); refine List.pairwise_cons.2 ⟨fun z hz => ?_, h⟩
       rcases List.mem_cons.1 hz with rfl | hz
       · exact hpa
       · exact hc.trans _ _ _ hpa (h'.1 z hz)
theorem cmpV_lt (a b : Int) : cmpV a b < 0 ↔ a < b := by
 unfold cmpV; split
 · omega
 · split <;> omega
theorem snoc_ind {α : Type} {P : List α → Prop} (h0 : P []) (h1 : ∀ l x, P l → P (l ++ [x])) (l : List α) : P l := by
 have : ∀ r : List α, P r.reverse := fun r => by
  induction r with
  | nil => exact h0
  | cons a r ih => rw [List.reverse_cons]; exact h1 _ _ ih
 have h := this l.reverse
 rwa [List.reverse_reverse] at h
def setP (l : List Plt) : List Plt := l.foldl (fun ks o => insC pltC ks o) []
theorem setP_snoc (l : List Plt) (o : Plt) : setP (l ++ [o]) = insC pltC (setP l) o := by simp [setP]
theorem setP_spec (l : List Plt) : (setP l).Pairwise (fun a b => pltC a b < 0) ∧ ∀ x, x ∈ setP l ↔ x ∈ l := by
 refine snoc_ind (P := fun l => (setP l).Pairwise (fun a b => pltC a b < 0) ∧ ∀ x, x ∈ setP l ↔ x ∈ l) (by simp [setP]) (fun l o ih => ?_) l; rw [setP_snoc]; refine ⟨insC_srt pltC_cmp _ ih.1, fun x => ?_⟩; rw [insC_mem pltC_cmp, ih.2, List.mem_append, List.mem_singleton]; exact Or.comm
theorem setP_len (l : List Plt) : (setP l).length ≤ l.length := by
 refine snoc_ind (P := fun l => (setP l).length ≤ l.length) (by simp [setP]) (fun l o ih => ?_) l; rw [setP_snoc, List.length_append, List.length_singleton]; have := insC_len (c := pltC) o (setP l); omega
theorem setP_eq {a : List Plt} {l : List Plt} (h : a.Pairwise (fun a b => pltC a b < 0)) (hm : ∀ x, x ∈ a ↔ x ∈ l) : a = setP l :=
 strict_ext (fun x y => Cmp.as pltC_cmp x y) h (setP_spec l).1 fun x => (hm x).trans ((setP_spec l).2 x).symm
def pl0 : Plt := (0, 0, 0)
instance kdPlO : DecidableEq Plt := instDecidableEqProd
def ddP (xs : List Plt) : Nat → List Plt
 | 0 => []
 | i + 1 => ddP xs i ++ if i ≠ 0 ∧ xs.getD i pl0 = xs.getD (i - 1) pl0 then [] else [xs.getD i pl0]
def compP (xs : List Plt) : List Plt := ddP xs xs.length
theorem ddP_spec (xs : List Plt) (hs : xs.Pairwise (fun a b => ¬ pltC b a < 0)) : ∀ i, i ≤ xs.length → (ddP xs i).Pairwise (fun a b => pltC a b < 0) ∧ ∀ x, x ∈ ddP xs i ↔ x ∈ xs.take i
 | 0, _ => by simp [ddP]
 | i + 1, h => by
   obtain ⟨ih1, ih2⟩ := ddP_spec xs hs i (by omega); have hi : i < xs.length := by omega
   have g1 : xs.getD i pl0 = xs[i] := by simp [hi]
   have ht : xs.take (i + 1) = xs.take i ++ [xs[i]] := tsE hi; have hself : ∀ a : Plt, ¬ pltC a a < 0 := fun a => by have := (pltC_cmp.eq a a).2 rfl; omega
   have hle : ∀ x ∈ xs.take i, ¬ pltC (xs.getD (i - 1) pl0) x < 0 ∧ xs.getD (i - 1) pl0 ∈ xs.take i := fun x hx => by
    obtain ⟨j, hj, rfl⟩ := List.getElem_of_mem hx; have hj2 : j < i := by simp at hj; omega
    have g2 : xs.getD (i - 1) pl0 = xs[i - 1] := by simp [show i - 1 < xs.length by omega]
    rw [g2, List.getElem_take]; refine ⟨?_, ?_⟩
    · by_cases e : j = i - 1
      · subst e; exact hself _
      · exact List.pairwise_iff_getElem.1 hs j (i - 1) (by omega) (by omega) (by omega)
    · have : (xs.take i)[i - 1]'(by simp; omega) = xs[i - 1] := List.getElem_take; rw [← this]; exact List.getElem_mem _
   rw [ddP, ht, g1]; split
   · rename_i e; rw [List.append_nil]; refine ⟨ih1, fun x => ?_⟩; rw [ih2, List.mem_append]; refine ⟨.inl, fun k => k.elim id fun k => ?_⟩; have k : x = xs[i] := by simpa using k
     rw [k, e.2]; have h0 : xs[0]'(by omega) ∈ xs.take i := by
      have : (xs.take i)[0]'(by simp; omega) = xs[0]'(by omega) := List.getElem_take; rw [← this]; exact List.getElem_mem _
     exact (hle _ h0).2
   · rename_i e; refine ⟨List.pairwise_append.2 ⟨ih1, by simp, fun x hx y hy => ?_⟩, fun x => by simp only [List.mem_append, ih2]⟩; have hy : y = xs[i] := by simpa using hy
     subst hy; have hx2 := (ih2 x).1 hx; have h3 := (hle x hx2).1; have hi0 : i ≠ 0 := fun q => by subst q; simp at hx2
     have g2 : xs.getD (i - 1) pl0 = xs[i - 1] := by simp [show i - 1 < xs.length by omega]
     have h4 : ¬ pltC xs[i] (xs.getD (i - 1) pl0) < 0 := by
      rw [g2]; exact List.pairwise_iff_getElem.1 hs (i - 1) i (by omega) (by omega) (by omega)
     have h5 : xs[i] ≠ xs.getD (i - 1) pl0 := fun q => e ⟨hi0, q⟩; have h6 : pltC (xs.getD (i - 1) pl0) xs[i] < 0 := by
      have a1 := (pltC_cmp.anti (xs.getD (i - 1) pl0) xs[i]); have a2 : pltC xs[i] (xs.getD (i - 1) pl0) ≠ 0 := fun q => h5 ((pltC_cmp.eq _ _).1 q); exact a1.2 (by omega)
     by_cases q : x = xs.getD (i - 1) pl0
     · rw [q]; exact h6
     · have a1 := (pltC_cmp.anti x (xs.getD (i - 1) pl0)); have a2 : pltC (xs.getD (i - 1) pl0) x ≠ 0 := fun k => q ((pltC_cmp.eq _ _).1 k).symm; exact pltC_cmp.trans _ _ _ (a1.2 (by omega)) h6
theorem compP_eq {l s : List Plt} (hp : s.Perm l) (hs : s.Pairwise (fun a b => ¬ pltC b a < 0)) : compP s = setP l := by
 obtain ⟨h1, h2⟩ := ddP_spec s hs s.length (Nat.le_refl _); refine setP_eq h1 fun x => ?_; show x ∈ ddP s s.length ↔ _; rw [h2, List.take_length]; exact hp.mem_iff
theorem plE (a b : Plt) : (a.1 = b.1 ∧ a.2.1 = b.2.1 ∧ a.2.2 = b.2.2) = (a = b) := by
 rw [eq_iff_iff]; exact ⟨fun h => Prod.ext h.1 (Prod.ext h.2.1 h.2.2), fun h => by rw [h]; exact ⟨rfl, rfl, rfl⟩⟩
theorem plN (a b : Plt) : (¬ a.1 = b.1 ∨ ¬ a.2.1 = b.2.1 ∨ ¬ a.2.2 = b.2.2) = (¬ a = b) := by
 rw [← plE, eq_iff_iff]; by_cases h1 : a.1 = b.1 <;> by_cases h2 : a.2.1 = b.2.1 <;> by_cases h3 : a.2.2 = b.2.2 <;> simp [h1, h2, h3]
def con71 : Con := { ps := [.oc 45 yPL], rs := [.o 45 yPL], pre := fun x => True, out := fun x => (compP x.1, ()), nw := id }
theorem c71 : CtrOk Tryz.prog 71 con71.ctr :=
 con_sound (G := ⟨[], [], [(9, 2), (28, 1), (56, 1), (59, 2), (60, 2)], [], []⟩) tab_ok EnvOk.nil rfl Tryz.func71 rfl con71 17596514574653 (by kernel_rfl) (by decide) (by decide) rfl (by decide) rfl (by
  rintro ⟨(xs : List Plt), _⟩ hpre hwf X hT hG hk hK
  (simp -implicitDefEqProofs only [go_sem, bP, con71, hT, hG, hk, hK, Tryz.results71] at hwf ⊢); (try simp (disch := decide +kernel) only [drawn, true_and, and_true])
  refine fun hln => ⟨fun h2 => ?_, fun h2 => ?_⟩
  · match xs, h2 with
    | [], _ => rfl
    | [a], _ => rfl
    | a :: b :: l, h2 => simp at h2; omega
  · refine evk_loop ⟨{ k : Nat // 1 ≤ k ∧ k ≤ xs.length ∧ ddP xs k = xs.take k }, 1000, fun k => [(0, .one (.row 0)), (3, .one (.int .i64 k.1))], fun k => [(0, .row 45 yPL xs)], fun k => xs.length - k.1⟩ ⟨1, by omega, by omega, by simp [ddP]; match xs, h2 with | [], h2 => simp at h2 | a :: l, _ => rfl⟩ ?_ ?_
    · simp only [go_sem]; rfl
    · rintro ⟨k, (hk1 : 1 ≤ k), (hk2 : k ≤ xs.length), (hk3 : ddP xs k = xs.take k)⟩
      (simp -implicitDefEqProofs only [go_sem, bP, con71, hT, hG, hk, hK, Tryz.results71]); (try simp (disch := decide +kernel) only [drawn, true_and, and_true])
      refine fun _ => ⟨fun hlt => ?_, fun hge => ?_⟩
      · have hkl : k < xs.length := by omega
        have e1 : ∀ z, xs.getD (k : Int).toNat z = xs[k] := fun z => by simp [hkl]
        have e2 : ∀ z, xs.getD ((k : Int) - 1).toNat z = xs[k - 1] := fun z => by
         rw [show ((k : Int) - 1).toNat = k - 1 by omega]; simp [show k - 1 < xs.length by omega]
        have f1 : ∀ i (h : i < xs.length), xs.getD i pl0 = xs[i] := fun i h => by simp [h]
        obtain ⟨v, hv⟩ : ∃ v, xs[k] = v := ⟨_, rfl⟩; obtain ⟨w, hw⟩ : ∃ w, xs[k - 1] = w := ⟨_, rfl⟩; have eV : (v.1, v.2.1, v.2.2) = v := rfl; have eW : (w.1, w.2.1, w.2.2) = w := rfl; simp only [e1, e2, hv, hw]
        try simp only [plE, plN]
        (repeat' with_reducible first | refine And.intro ?_ ?_ | intro _) <;> try first | with_reducible (first | assumption | omega | contradiction) | decide
        all_goals first
         | (have hne : ¬ v = w := by assumption
            refine fin_lp ⟨k + 1, by omega, by omega, ?_⟩ ?_ (by dsimp only; omega)
            · rw [ddP, f1 k hkl, f1 (k - 1) (by omega), if_neg (fun q => hne (by rw [← hv, ← hw]; exact q.2)), hk3, tsE hkl]
            · simp only [go_sem]
              and_intros <;> first | rfl | omega)
         | (have heq : v = w := by assumption
            have b0 : ddP xs (k + 1) = xs.take k := by
             rw [ddP, f1 k hkl, f1 (k - 1) (by omega), if_pos ⟨by omega, by rw [hv, hw]; exact heq⟩, List.append_nil, hk3]
            have g1 : (k : Int).toNat = k := by omega
            have g2 : ((xs.length : Int) - (k : Int)).toNat = xs.length - k := by omega
            rw [g1, g2]; refine evk_loop ⟨{ q : Nat × Nat × List Plt // k ≤ q.1 ∧ q.1 ≤ k + q.2.1 - 1 ∧ 1 ≤ q.2.1 ∧ q.2.1 ≤ xs.length - k ∧ q.2.2.length = xs.length ∧ q.2.2.take q.1 = ddP xs (k + q.2.1) ∧ q.2.2.drop (k + q.2.1 - 1) = xs.drop (k + q.2.1 - 1) }, 2000, fun q => [(0, .one (.row 0)), (3, .one (.int .i64 q.1.1)), (4, .one (.win 0 3 k (xs.length - k))), (5, .one (.int .i64 q.1.2.1))], fun q => [(0, .row 45 yPL q.1.2.2)], fun q => xs.length - q.1.2.1⟩ ⟨(k, 1, xs), by dsimp only; omega, by dsimp only; omega, by dsimp only; omega, by dsimp only; omega, rfl, b0.symm, rfl⟩ ?_ ?_
            · simp only [go_sem]
              first | rfl | exact ⟨rfl, rfl⟩
            · rintro ⟨⟨a, p, R⟩, (c1 : k ≤ a), (c2 : a ≤ k + p - 1), (c3 : 1 ≤ p), (c4 : p ≤ xs.length - k), (c5 : R.length = xs.length), (c6 : R.take a = ddP xs (k + p)), (c7 : R.drop (k + p - 1) = xs.drop (k + p - 1))⟩; have hw : (k + (xs.length - k) ≤ R.length) = True := by rw [eq_iff_iff, iff_true]; omega
              (simp -implicitDefEqProofs only [go_sem, bP, con71, hT, hG, hk, hK, Tryz.results71, hw]); (try simp (disch := decide +kernel) only [drawn, true_and, and_true])
              have at_ : ∀ i, k + p - 1 ≤ i → ∀ z, R.getD i z = xs.getD i z := fun i hi z => by
               have h := congrArg (fun l : List Plt => l[i - (k + p - 1)]?) c7; simp only [List.getElem?_drop] at h; rw [show k + p - 1 + (i - (k + p - 1)) = i by omega] at h; rw [gdE, gdE, h]
              have f2 : ((k : Int) + (p : Int)).toNat = k + p := by omega
              have f3 : ((k : Int) + ((p : Int) - 1)).toNat = k + p - 1 := by omega
              have f4 : (a : Int).toNat = a := by omega
              simp only [f2, f3, f4]; rw [at_ (k + p) (by omega) (0, 0, 0), at_ (k + p - 1) (Nat.le_refl _) (0, 0, 0)]; have hst : ddP xs (k + p + 1) = ddP xs (k + p) ++ if xs.getD (k + p) pl0 = xs.getD (k + p - 1) pl0 then [] else [xs.getD (k + p) pl0] := by
               rw [ddP]; by_cases h : xs.getD (k + p) pl0 = xs.getD (k + p - 1) pl0
               · rw [if_pos ⟨by omega, h⟩, if_pos h]
               · rw [if_neg (fun q => h q.2), if_neg h]
              obtain ⟨v2, hv2⟩ : ∃ v, xs.getD (k + p) pl0 = v := ⟨_, rfl⟩; obtain ⟨w2, hw2⟩ : ∃ v, xs.getD (k + p - 1) pl0 = v := ⟨_, rfl⟩; have hv3 : xs.getD (k + p) (0, 0, 0) = v2 := hv2; have hw3 : xs.getD (k + p - 1) (0, 0, 0) = w2 := hw2; rw [hv2, hw2] at hst; have eV2 : (v2.1, v2.2.1, v2.2.2) = v2 := rfl; simp only [hv3, hw3]
              try simp only [plE, plN]
              (repeat' with_reducible first | refine And.intro ?_ ?_ | intro _) <;> try first | with_reducible (first | assumption | omega | contradiction) | decide
              all_goals first
               | (have hne : ¬ v2 = w2 := by assumption
                  rw [if_neg hne] at hst; refine fin_lp ⟨(a + 1, p + 1, R.set a v2), by dsimp only; omega, by dsimp only; omega, by dsimp only; omega, by dsimp only; omega, by dsimp only; rw [List.length_set]; exact c5, ?_, ?_⟩ ?_ (by dsimp only; omega)
                  · dsimp only; rw [← Nat.add_assoc, hst, ← c6, tsE (by rw [List.length_set]; omega), List.take_set_of_le (Nat.le_refl _), List.getElem_set_self]
                  · dsimp only; rw [List.drop_set_of_lt (by omega)]; have := congrArg (List.drop 1) c7; rw [List.drop_drop, List.drop_drop, show k + p - 1 + 1 = k + (p + 1) - 1 by omega] at this; exact this
                  · simp only [go_sem]
                    and_intros <;> first | rfl | omega)
               | (have heq2 : v2 = w2 := by assumption
                  rw [if_pos heq2] at hst; refine fin_lp ⟨(a, p + 1, R), by dsimp only; omega, by dsimp only; omega, by dsimp only; omega, by dsimp only; omega, c5, ?_, ?_⟩ ?_ (by dsimp only; omega)
                  · dsimp only; rw [← Nat.add_assoc, hst, List.append_nil, c6]
                  · dsimp only; have := congrArg (List.drop 1) c7; rw [List.drop_drop, List.drop_drop, show k + p - 1 + 1 = k + (p + 1) - 1 by omega] at this; exact this
                  · simp only [go_sem]
                    and_intros <;> first | rfl | omega)
               | (have hp : k + p = xs.length := by omega
                  have g3 : ((R.length : Int) - (a : Int)).toNat = R.length - a := by omega
                  have g4 : (a + (R.length - a) ≤ R.length) = True := by rw [eq_iff_iff, iff_true]; omega
                  rw [g3]
                  (simp -implicitDefEqProofs only [go_sem, bP, con71, hT, hG, hk, hK, Tryz.results71, g4]); (try simp (disch := decide +kernel) only [drawn, true_and, and_true])
                  have e5 : (R.take a).length = a := by rw [List.length_take]; omega
                  refine ⟨⟨by omega, by rw [List.length_append, e5]; omega⟩, ?_⟩; rw [show (a : Int).toNat = a by omega, List.take_append_of_le_length (by omega), List.take_of_length_le (by omega), c6, hp]; rfl))
      · have : k = xs.length := by omega
        subst this; unfold compP; rw [hk3, List.take_length])
def con63 : RCon := sortFCon 45 yPL 42 (fun a b => pltC a b)
theorem c63 : RCtrOk Tryz.prog 63 con63.rctr := sort_func (e := 45) (t := yPL) Tryz.sortP (by decide) Tryz.isAgg45 Tryz.sizeOf45 (hS := by unfold StrictP; rw [← Array.all_toList]; kernel_rfl) (c := fun (a b : Plt) => pltC a b) c42 has42 pltC_cmp.swo
end Go.Proofs.YtkjpbhkldioggaaGreat

namespace Go.Ev
open Go.RowKit
abbrev EncSl := Nat → (Nat → List Value) → Nat → Array Value
def encValues (ag : Bool) : EncSl := fun _ cs j => #[mkV ag (cs j)]
def encAll (ag : Bool) : EncSl := fun _ cs j => #[.int .i64 (j : Int), mkV ag (cs j)]
def encBack (ag : Bool) : EncSl := fun len cs j => #[.int .i64 ((len : Int) - 1 - j), mkV ag (cs (len - 1 - j))]
def RunsSl (P : Program) (f : Nat) (n : Nat) (y : EncSl) : Prop :=
 ∀ (l Bs : Nat) (a : Option Addr) (len cap : Nat) (cs : Nat → List Value) (bs : List Nat) (J Jx : List Nat → World → Prop), len ≤ maxLen → (∀ k, (cs k).length = n) → Bs ∈ bs → (0 < len → ∃ b off, a = some ⟨b, off, none⟩ ∧ b ∈ bs) →
   (∀ (pre : List Nat) (j : Nat) (W : World), Pfx (fun q => q = List.range len) (pre ++ [j]) → J pre W → YieldAt Fence.wide 1 P l (y len cs j) W fun e W' =>
     (e = .returned (.bool true) ∧ J (pre ++ [j]) W' ∧ KpB bs W W' ∧ KeepN W W') ∨ (e = .returned (.bool false) ∧ Jx (pre ++ [j]) W')) →
   ∀ W : World, W.cell? ⟨Bs, 0, none⟩ = some (.slice a len cap) → (∀ b off, a = some ⟨b, off, none⟩ → ∀ k, k < len → ∀ i u, (cs k)[i]? = some u → W.cell? ⟨b, off + k * n + i, none⟩ = some u) → J [] W →
   CallsIn Fence.wide 2 P f #[.func (.yield l) #[] #[], .pointer (some ⟨Bs, 0, none⟩)] W fun e W' => (∃ v, e = .returned v) ∧
    ((∃ ys, ys = List.range len ∧ J ys W') ∨ (∃ pre, Pfx (fun q => q = List.range len) pre ∧ Jx pre W'))
def RunsSl1 (P : Program) (f : Nat) (n : Nat) (y : EncSl) : Prop :=
 ∀ (l Bs : Nat) (a : Option Addr) (len cap : Nat) (cs : Nat → List Value) (bs : List Nat) (J Jx : List Nat → World → Prop), (∀ k, k < len → ∀ u ∈ cs k, u.oneCell' = true) → len ≤ maxLen → (∀ k, (cs k).length = n) → Bs ∈ bs → (0 < len → ∃ b off, a = some ⟨b, off, none⟩ ∧ b ∈ bs) →
   (∀ (pre : List Nat) (j : Nat) (W : World), Pfx (fun q => q = List.range len) (pre ++ [j]) → J pre W → YieldAt Fence.wide 1 P l (y len cs j) W fun e W' =>
     (e = .returned (.bool true) ∧ J (pre ++ [j]) W' ∧ KpB bs W W' ∧ KeepN W W') ∨ (e = .returned (.bool false) ∧ Jx (pre ++ [j]) W')) →
   ∀ W : World, (∀ b ∈ bs, b < W.heap.size) → (∀ s A B, J s A → GrowN W.heap.size A B → J s B) → W.cell? ⟨Bs, 0, none⟩ = some (.slice a len cap) → (∀ b off, a = some ⟨b, off, none⟩ → ∀ k, k < len → ∀ i u, (cs k)[i]? = some u → W.cell? ⟨b, off + k * n + i, none⟩ = some u) → J [] W →
   CallsIn Fence.wide 2 P f #[.func (.yield l) #[] #[], .pointer (some ⟨Bs, 0, none⟩)] W fun e W' => (∃ v, e = .returned v) ∧
    ((∃ ys, ys = List.range len ∧ J ys W') ∨ (∃ pre, Pfx (fun q => q = List.range len) pre ∧ Jx pre W'))
theorem RunsSl.one {P : Program} {f n : Nat} {y : EncSl} (h : RunsSl P f n y) : RunsSl1 P f n y := fun l Bs a len cap cs bs J Jx _ h1 h2 h3 h4 h5 W _ _ => h l Bs a len cap cs bs J Jx h1 h2 h3 h4 h5 W
theorem GrowN.keep2 {A C W : World} {b : Nat} (h : GrowN (b + 1) A C) (e : A.heap[b]? = W.heap[b]?) (hb : b < W.heap.size) : C.heap[b]? = W.heap[b]? := by
 have h1 : W.heap[b]? = some W.heap[b] := Array.getElem?_eq_getElem hb; rw [h1]; exact h.keep (e.trans h1) (Nat.lt_succ_self b)
theorem pfx_range {k len : Nat} (h : k < len) : Pfx (fun q => q = List.range len) (List.range k ++ [k]) := by
 refine ⟨(List.range len).drop (k + 1), ?_⟩; rw [← List.range_succ]; have : List.range (k + 1) = (List.range len).take (k + 1) := by rw [List.take_range]; congr 1; omega
 rw [this, List.take_append_drop]
theorem pfx_at {len j : Nat} {p : List Nat} (h : Pfx (fun q => q = List.range len) (p ++ [j])) : p = List.range j ∧ j < len := by
 obtain ⟨q, h⟩ := h; have hl := congrArg List.length h; simp only [List.length_append, List.length_cons, List.length_nil, List.length_range] at hl; have e1 : p.length < len := by omega
 have hj : (List.range len)[p.length]? = some j := by rw [← h]; simp
 rw [List.getElem?_range e1] at hj; cases hj; refine ⟨?_, e1⟩; have e2 := congrArg (List.take p.length) h; simp only [List.append_assoc, List.take_left, List.take_range] at e2; rw [Nat.min_eq_left (by omega)] at e2; exact e2
theorem wrap64_sub1 {len : Nat} (h : len ≤ maxLen) : wrap64 ((len : Int) - 1) = (len : Int) - 1 := by
 unfold maxLen at h; unfold wrap64; omega
theorem wrap64_back {len k : Nat} (h : len ≤ maxLen) (hk : k ≤ len) : Value.int .i64 (wrap64 ((len : Int) - 1 - k - 1)) = .int .i64 ((len : Int) - 1 - ((k + 1 : Nat) : Int)) := by
 unfold maxLen at h; congr 1; unfold wrap64; omega
theorem wrap64_fwd {len k : Nat} (h : len ≤ maxLen) (hk : k < len) : Value.int .i64 (wrap64 ((k : Int) + 1)) = .int .i64 (((k + 1 : Nat) : Int)) := by
 unfold maxLen at h; congr 1; unfold wrap64; omega
inductive SlK where
 | back | vals | all
def SlK.enc (ag : Bool) : SlK → EncSl
 | .back => encBack ag
 | .vals => encValues ag
 | .all => encAll ag
def SlK.ar : SlK → Nat
 | .vals => 1
 | _ => 2
def SlK.ix (len j : Nat) : SlK → Nat
 | .back => len - 1 - j
 | _ => j
def SlK.y (t : Ty) (ag : Bool) (xs : List t.den) (j : Nat) : SlK → List AV
 | .back => [.one (.int .i64 ((xs.length : Int) - 1 - j)), avOf ag (expl t (xs.getD (xs.length - 1 - j) t.dflt))]
 | .vals => [avOf ag (expl t (xs.getD j t.dflt))]
 | .all => [.one (.int .i64 (j : Int)), avOf ag (expl t (xs.getD j t.dflt))]
def slG (K : SlK) (t : Ty) (ag : Bool) (u : Heap) (xs : List t.den) : ItE :=
 ⟨True, fun j => K.y t ag xs j, K.ar, u, fun q => q = List.range xs.length, fun j => j < xs.length ∧ Wf t (xs.getD (K.ix xs.length j) t.dflt)⟩
def itSlO (K : SlK) (t : Ty) (ag : Bool) (u : Heap) : Option (List t.den) → ItE
 | some xs => slG K t ag u xs
 | none => ItE.bad
def itSl (K : SlK) (e : TypeId) (t : Ty) (ag : Bool) : ItC := fun caps m => match caps with
 | [.loc id 0] => (match m id with
   | .cells e' [c] => if e' = e then itSlO K t ag ((rowsOf [c]).map (settle m) ++ [(id, .dead)]) (view m t c) else ItE.bad
   | _ => ItE.bad)
 | _ => ItE.bad
attribute [go_sem] slG SlK.y SlK.ar SlK.ix
theorem repCs_one {x : Rx} {c : C1} {vs : List Value} (h : repCs x [c] vs) : ∃ v, vs = [v] ∧ repC x c v := by
 obtain ⟨v, r, e, h1, h2⟩ := repCs_cons.1 h; rw [repCs_nil.1 h2] at e; exact ⟨v, e, h1⟩
theorem repAs_one {x : Rx} {a : AV} {v : Value} (h : repA x a v) : repAs x [a] [v] := by
 unfold repAs; exact ⟨v, [], rfl, h, by unfold repAs; rfl⟩
theorem repAs_two {x : Rx} {a b : AV} {v u : Value} (h : repA x a v) (k : repA x b u) : repAs x [a, b] [v, u] := by
 unfold repAs; exact ⟨v, [u], rfl, h, repAs_one k⟩
theorem roAll_cut {α : Type} {r : α → List Value → Prop} {n : Nat} (hn : ∀ x c, r x c → c.length = n) {xs : List α} {vs : List Value} (h : roAll r xs vs) {i : Nat} (hi : i < xs.length) : r xs[i] ((vs.drop (i * n)).take n) := by
 obtain ⟨pre, c, post, e, hl, hc, _, _⟩ := roAll_at hn h hi; rw [e, ← hl, List.drop_left, ← hn _ _ hc, List.take_left]; exact hc
theorem itSl_ok1 {P : Program} {f : FuncId} {K : SlK} {e : TypeId} {t : Ty} {ag : Bool} (hrun : RunsSl1 P f t.n (K.enc ag)) (hn : 0 < t.n) (h1 : ag = false → t.n = 1) : ItOk P f (itSl K e t ag) := by
 intro cx σ N m w caps lb h hcaps hpre; unfold itSl at hpre ⊢; split at hpre
 case h_2 => exact hpre.elim
 rename_i id; split at hpre
 case h_2 => exact hpre.elim
 rename_i e' c hmid; split at hpre
 case isFalse => exact hpre.elim
 rename_i he; subst he; rw [if_pos rfl]
 cases hv : view m t c with
 | none => rw [hv] at hpre; exact hpre.elim
 | some xs =>
   simp only [itSlO, slG]; obtain ⟨v, rfl, hr⟩ := repCs_one hcaps; unfold repC at hr; obtain ⟨hNid, b0, hσ, rfl⟩ := hr; have hσ : σ id = .pointer (some ⟨b0, 0, none⟩) := hσ; have hb := h.blk id; rw [hmid] at hb; obtain ⟨b1, vs, e1, e2, e3, _⟩ := hb; have hb01 : b1 = b0 := by have e1 : σ id = .pointer (some ⟨b1, 0, none⟩) := e1; rw [hσ] at e1; cases e1; rfl
   subst hb01; obtain ⟨u, rfl, hu⟩ := repCs_one e3; have hcell0 : w.cell? ⟨b1, 0, none⟩ = some u := by
    have e2 : w.heap[b1]? = some (.cells #[u] e' (0, 0)) := e2; simp [World.cell?, e2]
   obtain ⟨hM1, k1⟩ := h.settles (rowsOf [c]); obtain ⟨hM2, k2⟩ := hM1.drop id; have hupd : updM (updM m ((rowsOf [c]).map (settle m))) [(id, .dead)] = updM m ((rowsOf [c]).map (settle m) ++ [(id, .dead)]) := (updM_append ..).symm; rw [hupd] at hM2 k2; have hO1 : ∀ b, Owned cx σ (updM m ((rowsOf [c]).map (settle m) ++ [(id, .dead)])) b → Owned cx σ (updM m ((rowsOf [c]).map (settle m))) b := by
    rintro b (hf | ⟨i, h1, h2⟩)
    · exact .inl hf
    · rw [← hupd] at h1; by_cases ei : id = i
      · subst ei; simp [updM, own] at h1
      · simp only [updM, if_neg ei] at h1; exact .inr ⟨i, h1, h2⟩
   have hro : ro w (Owned cx σ (updM m ((rowsOf [c]).map (settle m) ++ [(id, .dead)]))) (.sl t) xs [u] :=
    data_in h (rowsOf [c]) ⟨w, Owned cx σ (updM m ((rowsOf [c]).map (settle m) ++ [(id, .dead)])), σ, N⟩ rfl hO1 (t := .sl t) (cs := [c]) (vs := [u]) (by simpa [impl, implL] using hv) (fun i hi => hi) e3
   have hbox : ¬ Owned cx σ (updM m ((rowsOf [c]).map (settle m) ++ [(id, .dead)])) b1 := by
    have hbid : hb (σ id) b1 := by rw [hσ]; exact .inl rfl
    rintro (hf | ⟨i, h3, h4⟩)
    · exact h.notF id b1 (by rw [hmid]; rfl) hbid hf
    · rw [← hupd] at h3; by_cases ei : id = i
      · subst ei; simp [updM, own] at h3
      · simp only [updM, if_neg ei] at h3; have h5 : own (m i) = true := by
         rw [updM_settle m _ m i (fun i _ => .inl rfl)] at h3; split at h3
         · exact settle_not_own m i h3
         · exact h3
        exact ei (h.inj id i b1 (by rw [hmid]; rfl) h5 hbid h4)
   have hwf := ro_wf (.sl t) xs [u] hro; obtain ⟨a, len, cap, hu2, hlen, hlc, hcm, hdat⟩ := hro; cases hu2; subst hlen; have hmx : xs.length ≤ maxLen := Nat.le_trans hlc hcm; obtain ⟨flat, hflat⟩ : ∃ flat : List Value, 0 < xs.length → ∃ b o, a = some ⟨b, o, none⟩ ∧ roAll (ro w (Owned cx σ (updM m ((rowsOf [c]).map (settle m) ++ [(id, .dead)]))) t) xs flat ∧ CellsAt w (Owned cx σ (updM m ((rowsOf [c]).map (settle m) ++ [(id, .dead)]))) b o flat := by
    rcases hdat with h0 | ⟨b, o, flat, q1, q2, q3⟩
    · exact ⟨[], fun hp => by omega⟩
    · exact ⟨flat, fun _ => ⟨b, o, q1, q2, q3⟩⟩
   let cs : Nat → List Value := fun k => if k < xs.length then (flat.drop (k * t.n)).take t.n else List.replicate t.n undef
   have hel : ∀ k (hk : k < xs.length), ro w (Owned cx σ (updM m ((rowsOf [c]).map (settle m) ++ [(id, .dead)]))) t xs[k] (cs k) := fun k hk => by
    obtain ⟨b, o, q1, q2, q3⟩ := hflat (by omega); simp only [cs, if_pos hk]; exact roAll_cut (fun x c hx => ro_len t x c hx) q2 hk
   have hcs : ∀ k, (cs k).length = t.n := fun k => by
    by_cases hk : k < xs.length
    · exact ro_len t _ _ (hel k hk)
    · simp only [cs, if_neg hk, List.length_replicate]
   have hget : ∀ k (hk : k < xs.length), xs.getD k t.dflt = xs[k] := fun k hk => by simp [hk]
   have hixl : ∀ j, j < xs.length → K.ix xs.length j < xs.length := fun j hj => by cases K <;> simp only [SlK.ix] <;> omega
   have hbs : ∀ b ∈ (b1 :: (match a with | some ad => if 0 < xs.length then [ad.block] else [] | none => [])), b < w.heap.size ∧ ¬ Owned cx σ (updM m ((rowsOf [c]).map (settle m) ++ [(id, .dead)])) b := fun b hb => by
    rcases List.mem_cons.1 hb with rfl | hb
    · exact ⟨(Array.getElem?_eq_some_iff.1 e2).1, hbox⟩
    · split at hb
      · split at hb
        · rename_i ad hp; obtain ⟨b', o', q1, q2, q3⟩ := hflat hp; cases q1; simp only [List.mem_singleton] at hb; subst hb; have hl := hcs 0; have h0 : (cs 0)[0]? = some ((cs 0)[0]'(by omega)) := List.getElem?_eq_getElem (by omega); simp only [cs, if_pos hp, Nat.zero_mul, List.drop_zero] at h0; rw [List.getElem?_take_of_lt hn] at h0; obtain ⟨g1, g2⟩ := q3 0 _ h0; exact ⟨block_lt_of_cell g2, g1⟩
        · cases hb
      · cases hb
   refine ⟨K.enc ag xs.length cs, b1 :: (match a with | some ad => if 0 < xs.length then [ad.block] else [] | none => []), hM2, ⟨k1.k.trans k2.k (Nat.le_refl _), fun id hid => rfl, fun id hid => hid⟩, fun p j hp => ?_, hbs, ?_⟩
   · obtain ⟨_, hj⟩ := pfx_at hp; have hix := hixl j hj; refine ⟨⟨hj, ?_⟩, by cases K <;> rfl, fun y hy => ?_⟩
     · rw [hget _ hix]; exact ro_wf t _ _ (hel _ hix)
     · have hE : ∀ k (hk : k < xs.length), repA y (avOf ag (expl t (xs.getD k t.dflt))) (mkV ag (cs k)) := fun k hk => by
        rw [hget k hk]; exact avOf_mkV (ro_keep hy t _ _ (hel k hk)) h1
       have hI : ∀ z : Int, InR .i64 z → repA y (.one (.int .i64 z)) (.int .i64 z) := fun z hz => repA_int hz; unfold maxLen at hmx
       cases K with
       | back => exact repAs_two (hI _ (by unfold InR IntKind.min IntKind.max; simp only [IntKind.signed, IntKind.bits]; constructor <;> simp <;> omega)) (hE _ hix)
       | vals => exact repAs_one (hE _ hix)
       | all => exact repAs_two (hI _ (by unfold InR IntKind.min IntKind.max; simp only [IntKind.signed, IntKind.bits]; constructor <;> simp <;> omega)) (hE _ hix)
   · intro l J Jx W hW hJ hJx hY hj0; refine hrun l b1 a xs.length cap cs _ J Jx (fun k hk u hu => ro_one t _ _ (hel k hk) u hu) hmx hcs List.mem_cons_self (fun hp => ?_) hY W (fun b hb => Nat.lt_of_lt_of_le (hbs b hb).1 hW.size) hJ ?_ (fun b o hab k hk i u hu => ?_) hj0
     · obtain ⟨b', o', q1, _⟩ := hflat hp; refine ⟨b', o', q1, ?_⟩; subst q1; simp [hp]
     · rw [hW.cell (p := ⟨b1, 0, none⟩) (Array.getElem?_eq_some_iff.1 e2).1]; exact hcell0
     · obtain ⟨b', o', q1, q2, q3⟩ := hflat (by omega); rw [hab] at q1; cases q1; simp only [cs, if_pos hk] at hu; have hi : i < t.n := by
        have := (List.getElem?_eq_some_iff.1 hu).1; simp only [List.length_take] at this; omega
       rw [List.getElem?_take_of_lt hi, List.getElem?_drop] at hu; obtain ⟨g1, g2⟩ := q3 _ _ hu; rw [show o + k * t.n + i = o + (k * t.n + i) by omega, hW.cell (p := ⟨b, o + (k * t.n + i), none⟩) (block_lt_of_cell g2)]; exact g2
theorem itSl_ok {P : Program} {f : FuncId} {K : SlK} {e : TypeId} {t : Ty} {ag : Bool} (hrun : RunsSl P f t.n (K.enc ag)) (hn : 0 < t.n) (h1 : ag = false → t.n = 1) : ItOk P f (itSl K e t ag) := itSl_ok1 hrun.one hn h1
end Go.Ev

namespace Go.Proofs.YtkjpbhkldioggaaGreat
open Go.Ev Go.RowKit Go.Shelf
attribute [local go_sem] Oper.semAt_some
theorem list_3_78 {l : List Value} (h : l.length = 3) : ∃ c0 c1 c2, l = [c0, c1, c2] := by
 match l, h with | [c0, c1, c2], _ => exact ⟨c0, c1, c2, rfl⟩
theorem fwd_measure78 {len k : Nat} (hm : len ≤ maxLen) (hk : k < len) : len - (intOf (Value.int .i64 (wrap64 ((k : Int) + 1)))).toNat < len - (intOf (Value.int .i64 (k : Int))).toNat := by
 have e : wrap64 ((k : Int) + 1) = (k : Int) + 1 := by unfold maxLen at hm; unfold wrap64; omega
 rw [e]; show len - ((k : Int) + 1).toNat < len - ((k : Int)).toNat; omega
set_option maxRecDepth 100000 in
set_option maxHeartbeats 4000000 in
theorem run78 : RunsSl1 Tryz.prog 78 3 (encValues true) := by
 intro l Bs a len cap cs bs J Jx hone hm hcs hB hab hY W hbs hJst hBs hcell0 h0; refine callsIn_of_wp Tryz.func78 rfl trivial ?_; simp only [Tryz.ntmps78, List.size_toArray, List.length_cons, List.length_nil, Nat.reduceAdd, Nat.reduceSub, Array.replicate_succ, Array.replicate_zero, List.push_toArray, List.append_toArray, List.nil_append, List.cons_append]
 gi_wp2
 gi_loopw [7] (fun i wr => ∃ k : Nat, k ≤ len ∧ i = .int .i64 ((k : Int)) ∧ J (List.range k) wr ∧ KpB bs W wr) (fun i _ => len - (intOf i).toNat)
 case atStart => exact ⟨0, Nat.zero_le _, by simp; try (rw [wrap64_sub1 hm]), h0, fun _ _ => rfl⟩
 case round =>
  obtain ⟨k, hk, rfl, hJs, hnx⟩ := hrel; have hBs' : wr.cell? ⟨Bs, 0, none⟩ = some (.slice a len cap) := (World.cell?_of_block (a := ⟨Bs, 0, none⟩) (hnx Bs hB)).trans hBs; by_cases hlt : k < len
  · obtain ⟨b, off, rfl, hb⟩ := hab (by omega); have hlen := hcs k; have hcell : ∀ i u, (cs k)[i]? = some u → wr.cell? ⟨b, off + k * 3 + i, none⟩ = some u := fun i u hu => (World.cell?_of_block (a := ⟨b, off + k * 3 + i, none⟩) (hnx b hb)).trans (hcell0 b off rfl k (by omega) i u hu); obtain ⟨c0, c1, c2, hcse⟩ := list_3_78 hlen; rw [hcse] at hcell; have h1c := hone k hlt; rw [hcse] at h1c; have s0 : ∀ ad m w, (store ad c0 m).run Tryz.prog w = stored Tryz.prog w ad c0 m := fun ad m w => run_store _ _ _ _ _ (h1c c0 (by simp)); have s1 : ∀ ad m w, (store ad c1 m).run Tryz.prog w = stored Tryz.prog w ad c1 m := fun ad m w => run_store _ _ _ _ _ (h1c c1 (by simp)); have s2 : ∀ ad m w, (store ad c2 m).run Tryz.prog w = stored Tryz.prog w ad c2 m := fun ad m w => run_store _ _ _ _ _ (h1c c2 (by simp)); obtain ⟨fn, tmps, assign, body, hy, hR⟩ := hY (List.range k) k (wr.alloc (Obj.cells #[c0, c1, c2] 45)) (pfx_range hlt) (hJst _ _ _ hJs (GrowN.alloc _ _ _)); unfold encValues at hy; rw [hcse] at hy; have hc0 : wr.cell? ⟨b, off + k * 3, none⟩ = some c0 := hcell 0 c0 rfl; have hc1 : wr.cell? ⟨b, off + k * 3 + 1, none⟩ = some c1 := hcell 1 c1 rfl; have hc2 : wr.cell? ⟨b, off + k * 3 + 2, none⟩ = some c2 := hcell 2 c2 rfl; simp only [mkV, if_true, if_false, Bool.false_eq_true, List.getD_cons_zero] at hy
    gi_wp2
    refine hR.mono ?_; rintro e W3 (⟨rfl, hJ3, hk3, _⟩ | ⟨rfl, hJx3⟩)
    · gi_wp2
      go_roundw
      case rel => exact ⟨k + 1, by omega, wrap64_fwd hm hlt, by rw [List.range_succ]; exact hJ3, fun bb h => (hk3 bb h).trans ((GrowN.alloc (bb + 1) wr _).keep2 (hnx bb h) (hbs bb h))⟩
      case measure => exact fwd_measure78 hm hlt
    · gi_wp2
      refine bodyPost_ret (results_none rfl _ _ _) rfl ?_; exact ⟨⟨_, rfl⟩, .inr ⟨_, pfx_range hlt, hJx3⟩⟩
  · obtain rfl : k = len := by omega
    gi_wp2
    go_end0
    exact ⟨⟨_, rfl⟩, .inl ⟨_, rfl, hJs⟩⟩
theorem list_10_95 {l : List Value} (h : l.length = 10) : ∃ c0 c1 c2 c3 c4 c5 c6 c7 c8 c9, l = [c0, c1, c2, c3, c4, c5, c6, c7, c8, c9] := by
 match l, h with | [c0, c1, c2, c3, c4, c5, c6, c7, c8, c9], _ => exact ⟨c0, c1, c2, c3, c4, c5, c6, c7, c8, c9, rfl⟩
set_option maxRecDepth 100000 in
set_option maxHeartbeats 4000000 in
theorem run95 : RunsSl Tryz.prog 95 10 (encBack true) := by
 intro l Bs a len cap cs bs J Jx hm hcs hB hab hY W hBs hcell0 h0; refine callsIn_of_wp Tryz.func95 rfl trivial ?_; simp only [Tryz.ntmps95, List.size_toArray, List.length_cons, List.length_nil, Nat.reduceAdd, Nat.reduceSub, Array.replicate_succ, Array.replicate_zero, List.push_toArray, List.append_toArray, List.nil_append, List.cons_append]
 gi_wp2
 gi_loopw [3] (fun i wr => ∃ k : Nat, k ≤ len ∧ i = .int .i64 ((len : Int) - 1 - k) ∧ J (List.range k) wr ∧ KpB bs W wr) (fun i _ => (intOf i + 1).toNat)
 case atStart => exact ⟨0, Nat.zero_le _, by simp; try (rw [wrap64_sub1 hm]), h0, fun _ _ => rfl⟩
 case round =>
  obtain ⟨k, hk, rfl, hJs, hnx⟩ := hrel; have hBs' : wr.cell? ⟨Bs, 0, none⟩ = some (.slice a len cap) := (World.cell?_of_block (a := ⟨Bs, 0, none⟩) (hnx Bs hB)).trans hBs; by_cases hlt : k < len
  · obtain ⟨b, off, rfl, hb⟩ := hab (by omega); have hlen := hcs (len - 1 - k); have hcell : ∀ i u, (cs (len - 1 - k))[i]? = some u → wr.cell? ⟨b, off + (len - 1 - k) * 10 + i, none⟩ = some u := fun i u hu => (World.cell?_of_block (a := ⟨b, off + (len - 1 - k) * 10 + i, none⟩) (hnx b hb)).trans (hcell0 b off rfl (len - 1 - k) (by omega) i u hu); obtain ⟨fn, tmps, assign, body, hy, hR⟩ := hY (List.range k) k wr (pfx_range hlt) hJs; unfold encBack at hy; obtain ⟨c0, c1, c2, c3, c4, c5, c6, c7, c8, c9, hcse⟩ := list_10_95 hlen; rw [hcse] at hcell hy; have hc0 : wr.cell? ⟨b, off + (len - 1 - k) * 10, none⟩ = some c0 := hcell 0 c0 rfl; have hc1 : wr.cell? ⟨b, off + (len - 1 - k) * 10 + 1, none⟩ = some c1 := hcell 1 c1 rfl; have hc2 : wr.cell? ⟨b, off + (len - 1 - k) * 10 + 2, none⟩ = some c2 := hcell 2 c2 rfl; have hc3 : wr.cell? ⟨b, off + (len - 1 - k) * 10 + 3, none⟩ = some c3 := hcell 3 c3 rfl; have hc4 : wr.cell? ⟨b, off + (len - 1 - k) * 10 + 4, none⟩ = some c4 := hcell 4 c4 rfl; have hc5 : wr.cell? ⟨b, off + (len - 1 - k) * 10 + 5, none⟩ = some c5 := hcell 5 c5 rfl; have hc6 : wr.cell? ⟨b, off + (len - 1 - k) * 10 + 6, none⟩ = some c6 := hcell 6 c6 rfl; have hc7 : wr.cell? ⟨b, off + (len - 1 - k) * 10 + 7, none⟩ = some c7 := hcell 7 c7 rfl; have hc8 : wr.cell? ⟨b, off + (len - 1 - k) * 10 + 8, none⟩ = some c8 := hcell 8 c8 rfl; have hc9 : wr.cell? ⟨b, off + (len - 1 - k) * 10 + 9, none⟩ = some c9 := hcell 9 c9 rfl; simp only [mkV, if_true, if_false, Bool.false_eq_true, List.getD_cons_zero] at hy
    gi_wp2
    refine hR.mono ?_; rintro e W3 (⟨rfl, hJ3, hk3, _⟩ | ⟨rfl, hJx3⟩)
    · gi_wp2
      go_roundw
      case rel => exact ⟨k + 1, by omega, wrap64_back hm hk, by rw [List.range_succ]; exact hJ3, fun bb h => (hk3 bb h).trans (hnx bb h)⟩
      case measure => unfold maxLen at hm; simp [intOf, wrap64]; omega
    · gi_wp2
      refine bodyPost_ret (results_none rfl _ _ _) rfl ?_; exact ⟨⟨_, rfl⟩, .inr ⟨_, pfx_range hlt, hJx3⟩⟩
  · obtain rfl : k = len := by omega
    gi_wp2
    go_end0
    exact ⟨⟨_, rfl⟩, .inl ⟨_, rfl, hJs⟩⟩
end Go.Proofs.YtkjpbhkldioggaaGreat

set_option maxRecDepth 100000
set_option maxHeartbeats 4000000
namespace Go.Proofs.YtkjpbhkldioggaaGreat
open Go.Ev
def it78 : ItC := itSl .vals 43 yPL true
theorem i78 : ItOk Tryz.prog 78 it78 := itSl_ok1 (K := .vals) (t := yPL) run78 (by decide) (fun h => by cases h)
def con41 : Con := { ps := [.d false (.sl yPL)], rs := [.cl 78 43 (.sl yPL)], pre := fun x => True, out := fun x => (x.1, ()), nw := id }
theorem c41 : CtrOk Tryz.prog 41 con41.ctr :=
 con_sound (G := ⟨[], [], [], [], []⟩) tab_ok EnvOk.nil rfl Tryz.func41 rfl con41 7 (by kernel_rfl) (by decide) (by decide) rfl (by decide) rfl (by
  rintro ⟨(xs : List Plt), _⟩ hpre hwf X hT hG hk hK
  (simp -implicitDefEqProofs only [go_sem, bP, con41, hT, hG, hk, hK, Tryz.results41] at hwf ⊢)
  skip)
def con99 : Con := { ps := [.nl, .cl 78 [.po 43 (.sl yPL)]], rs := [.o 45 yPL], pre := fun (x : Unit × (List Plt × Unit) × Unit) => x.2.1.1.length ≤ 10000000, out := fun (x : Unit × (List Plt × Unit) × Unit) => (x.2.1.1, ()), nw := id }
theorem c99 : CtrOk Tryz.prog 99 con99.ctr :=
 con_sound (G := ⟨[], [], [(4, 2)], [(78, it78)], []⟩) tab_ok (EnvOk.icons i78 has78 EnvOk.nil) rfl Tryz.func99 rfl con99 247 (by kernel_rfl) (by decide) (by decide) rfl (by decide) rfl (by
  rintro ⟨_, ⟨(xs : List Plt), _⟩, _⟩ hpre hwf X hT hG hk hK; have hl : xs.length ≤ 10000000 := hpre
  (simp -implicitDefEqProofs only [go_sem, bP, con99, hT, hG, hk, hK, Tryz.results99] at hwf ⊢)
  refine evk_range (I := it78) (E := slG .vals yPL true _ xs) ⟨fun p => { u : Unit // True }, 1000, [(2, .one (.loc 64 0))], fun p _ => if p.length = 0 then [(64, .cells 43 [.nilsl])] else [(64, .cells 43 [.row 65]), (65, .row 45 yPL (xs.take p.length))]⟩ ⟨(), trivial⟩ rfl ?_ rfl trivial rfl ?_ (by kernel_rfl) (by kernel_rfl) rfl ?_ ?_
  · rw [hG]; rfl
  · simp only [List.length_nil, if_true]; simp only [go_sem]
    try (first | rfl | exact ⟨rfl, rfl⟩)
  · rintro p j ⟨_, _⟩ hpf hasm; obtain ⟨rfl, hj⟩ := pfx_at hpf; have hml : (xs.take (List.range j).length).length ≤ 10000000 := by simp; omega
    have hst : xs.take ((List.range j ++ [j]).length) = xs.take (List.range j).length ++ [xs.getD j (0, 0, 0)] := by
     rw [List.length_append, List.length_range, List.length_singleton, tsE (by simpa using hj)]; simp [gdE, hj]
    have hne : ((List.range j ++ [j]).length = 0) = False := by simp
    by_cases hj0 : (List.range j).length = 0
    · simp only [hj0, if_true]
      (simp -implicitDefEqProofs only [go_sem, bP, con99, hT, hG, hk, hK, Tryz.results99])
      refine fin_rf ⟨(), trivial⟩ ?_; simp only [hne, if_false]; simp only [go_sem]; rw [hst, hj0]
      first | done | rfl
    · simp only [hj0, if_false]
      (simp -implicitDefEqProofs only [go_sem, bP, con99, hT, hG, hk, hK, Tryz.results99])
      refine ⟨by omega, ?_⟩; refine fin_rf ⟨(), trivial⟩ ?_; simp only [hne, if_false]; simp only [go_sem]; rw [hst]
      first | done | rfl
  · rintro p ⟨_, _⟩ hp; have hpl : p.length = xs.length := by rw [show p = List.range xs.length from hp, List.length_range]
    by_cases hj0 : p.length = 0
    · have hx0 : xs = [] := List.eq_nil_of_length_eq_zero (by omega); subst hx0; simp only [hj0, if_true]
      (simp -implicitDefEqProofs only [go_sem, bP, con99, hT, hG, hk, hK, Tryz.results99])
    · simp only [hj0, if_false]
      (simp -implicitDefEqProofs only [go_sem, bP, con99, hT, hG, hk, hK, Tryz.results99])
      rw [hpl, List.take_length])
def con77 : Con := { ps := [.cl 78 [.po 43 (.sl yPL)]], rs := [.o 45 yPL], pre := fun (x : (List Plt × Unit) × Unit) => x.1.1.length ≤ 10000000, out := fun (x : (List Plt × Unit) × Unit) => (x.1.1, ()), nw := id }
theorem c77 : CtrOk Tryz.prog 77 con77.ctr :=
 con_sound (G := ⟨[(99, con99.ctr)], [], [], [], []⟩) tab_ok (EnvOk.cons c99 has99 EnvOk.nil) rfl Tryz.func77 rfl con77 5 (by kernel_rfl) (by decide) (by decide) rfl (by decide) rfl (by
  rintro ⟨⟨(xs : List Plt), _⟩, _⟩ hpre hwf X hT hG hk hK; have hl : xs.length ≤ 10000000 := hpre
  (simp -implicitDefEqProofs only [go_sem, bP, con77, con99, hT, hG, hk, hK, Tryz.results77] at hwf ⊢)
  exact hl)
def con40 : Con := { ps := [.cl 78 [.po 43 (.sl yPL)], .cl 42 []], rs := [.o 45 yPL], pre := fun (x : (List Plt × Unit) × Unit × Unit) => x.1.1.length ≤ 10000000, out := fun (x : (List Plt × Unit) × Unit × Unit) => (sortBy pltC x.1.1, ()), nw := id }
theorem c40 : CtrOk Tryz.prog 40 con40.ctr :=
 con_sound (G := ⟨[(77, con77.ctr)], [(63, con63.rctr)], [], [], []⟩) tab_ok (EnvOk.cons c77 has77 (EnvOk.rcons c63 has63 EnvOk.nil)) rfl Tryz.func40 rfl con40 51 (by kernel_rfl) (by decide) (by decide) rfl (by decide) rfl (by
  rintro ⟨⟨(xs : List Plt), _⟩, _, _⟩ hpre hwf X hT hG hk hK; have hl : xs.length ≤ 10000000 := hpre
  (simp -implicitDefEqProofs only [go_sem, bP, con40, con77, con63, hT, hG, hk, hK, Tryz.results40, sortFCon] at hwf ⊢)
  exact ⟨hl, fun _ => ⟨by omega, fun a ha => sortBy_eq pltC_cmp ha.1 ha.2⟩⟩)
def wantE (w : List Plt) : Int := if w.any (fun p => !okPl p) = true then 1 else if (compP (sortBy pltC w)).length < w.length then 5 else 0
def con39 : Con := { ps := [.d false (.sl yPL)], rs := [.d false yI], pre := fun (x : List Plt × Unit) => x.1.length ≤ 1000000, out := fun (x : List Plt × Unit) => (wantE x.1, ()), nw := id }
theorem c39 : CtrOk Tryz.prog 39 con39.ctr :=
 con_sound (G := ⟨[(76, con76.ctr), (41, con41.ctr), (40, con40.ctr), (71, con71.ctr)], [], [], [], []⟩) tab_ok (EnvOk.cons c76 has76 (EnvOk.cons c41 has41 (EnvOk.cons c40 has40 (EnvOk.cons c71 has71 EnvOk.nil)))) rfl Tryz.func39 rfl con39 16794613 (by kernel_rfl) (by decide) (by decide) rfl (by decide) rfl (by
  rintro ⟨(l : List Plt), _⟩ hpre hwf X hT hG hk hK; have hl : l.length ≤ 1000000 := hpre
  (simp -implicitDefEqProofs only [go_sem, bP, con39, con76, con41, con40, con71, hT, hG, hk, hK, Tryz.results39] at hwf ⊢)
  clear hwf; refine fun _ => evk_loop ⟨{ i : Nat // i ≤ l.length ∧ ∀ k, k < i → okPl (l.getD k pl0) = true }, 1000, fun q => [(0, .one (.sl yPL l false)), (6, .one (.sl yPL l false)), (7, .one (.int .i64 l.length)), (8, .one (.int .i64 q.1))], fun q => [], fun q => l.length - q.1⟩ ⟨0, Nat.zero_le _, fun k hk => by omega⟩ ?_ ?_
  · simp only [go_sem]
    try first | rfl | (and_intros <;> first | trivial | rfl | omega)
  · rintro ⟨i, (hi : i ≤ l.length), hz⟩
    (simp -implicitDefEqProofs only [go_sem, bP, con39, con76, con41, con40, con71, hT, hG, hk, hK, Tryz.results39])
    obtain ⟨o, ho⟩ : ∃ o, l.getD i pl0 = o := ⟨_, rfl⟩; have eo : l.getD (i : Int).toNat (0, 0, 0) = o := ho
    try simp only [eo]
    have hsl := (sortBy_perm pltC l).length_eq; have hall : i = l.length → l.any (fun p => !okPl p) = false := fun e => by
     rw [List.any_eq_false]; intro x hx; obtain ⟨k, hk, rfl⟩ := List.mem_iff_getElem.1 hx; have := hz k (by omega); rw [getD_lt (d := pl0) hk] at this; rw [this]; simp
    (repeat' with_reducible first | refine And.intro ?_ ?_ | intro _) <;> try first | with_reducible (first | assumption | omega | contradiction) | decide
    all_goals first
     | (have h : okPl o = false := by assumption
        have h2 : l.any (fun p => !okPl p) = true := List.any_eq_true.2 ⟨o, by rw [← ho]; exact getD_mem (by omega), by rw [h]; rfl⟩
        unfold wantE; rw [if_pos h2])
     | (have h : okPl o = true := by assumption
        refine fin_lp ⟨i + 1, by omega, lt_succ hz (by rw [ho]; exact h)⟩ ?_ (by dsimp only; omega); simp only [go_sem]
        try first | rfl | (and_intros <;> first | trivial | rfl | omega)
        done)
     | omega
     | (have h2 := hall (by omega)
        unfold wantE; rw [if_neg (by rw [h2]; simp), if_pos (by omega)])
     | (have h2 := hall (by omega)
        unfold wantE; rw [if_neg (by rw [h2]; simp), if_neg (by omega)]))
end Go.Proofs.YtkjpbhkldioggaaGreat
