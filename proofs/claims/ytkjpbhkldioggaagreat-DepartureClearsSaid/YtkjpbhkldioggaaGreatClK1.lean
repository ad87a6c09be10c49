/- Part. -/
import Derived.Test.YtkjpbhkldioggaaGreatClKDToKT
import Derived.Test.YtkjpbhkldioggaaGreatClKOToKS
set_option linter.all false
set_option maxRecDepth 100000
set_option maxHeartbeats 8000000
namespace Go.Proofs.YtkjpbhkldioggaaGreat
open Go.Ev
def con65 : Con := { ps := [.o 3 yI], rs := [], pre := fun x => x.1.length < 4611686018427387904, out := fun _ => (), nw := fun x => (sortI x.1, ()) }
theorem c65 : CtrOk Tryz.prog 65 con65.ctr := sort_int Tryz.sortA 3
def abK (l : List Opn) : List Plt := l.foldl (fun ks o => kput (kt := yPL) o.plate ks) []
def abG (l : List Opn) : List (List Opn) := (abK l).map (fun k => l.filter (fun o => decide (o.plate = k)))
theorem pl_eq (a b : Plt) : keyEq yPL a b = decide (a = b) := by
 obtain ⟨a1, a2, a3⟩ := a; obtain ⟨b1, b2, b3⟩ := b; simp only [keyEq, Prod.mk.injEq]; rw [Bool.eq_iff_iff]; simp only [Bool.and_eq_true, decide_eq_true_eq]
theorem kidx_lt {k : Plt} : ∀ {ks : List Plt}, kidx (kt := yPL) k ks < ks.length ↔ k ∈ ks
 | [] => by simp [kidx]
 | a :: l => by
   unfold kidx; rw [pl_eq]; by_cases h : k = a
   · rw [if_pos (by simpa using h)]; simp [h]
   · rw [if_neg (by simpa using h), List.length_cons, Nat.succ_lt_succ_iff, kidx_lt, List.mem_cons]; exact ⟨.inr, fun q => q.resolve_left h⟩
theorem kidx_get {k : Plt} {ks : List Plt} (h : k ∈ ks) : ks[kidx (kt := yPL) k ks]? = some k := by
 obtain ⟨a, h1, h2⟩ := kidx_at (kt := yPL) k ks (kidx_lt.2 h); rw [pl_eq, decide_eq_true_eq] at h2; rw [h1, h2]
theorem kidx_end {k : Plt} {ks : List Plt} (h : ¬ k ∈ ks) : kidx (kt := yPL) k ks = ks.length := by
 have h1 := kidx_le (kt := yPL) k ks; have h2 : ¬ kidx (kt := yPL) k ks < ks.length := fun q => h (kidx_lt.1 q); have h3 : (kidx (kt := yPL) k ks) ≤ ks.length := h1; omega
theorem kput_mem {k a : Plt} {ks : List Plt} : a ∈ kput (kt := yPL) k ks ↔ a = k ∨ a ∈ ks := by
 unfold kput; split
 · rename_i h; have := kidx_lt.1 h; exact ⟨.inr, fun q => q.elim (fun e => e ▸ this) id⟩
 · rw [List.mem_append, List.mem_singleton]; exact ⟨fun q => q.elim .inr .inl, fun q => q.elim .inr .inl⟩
theorem abK_snoc (l : List Opn) (o : Opn) : abK (l ++ [o]) = kput (kt := yPL) o.plate (abK l) := by simp [abK]
theorem abK_mem (k : Plt) : ∀ l : List Opn, k ∈ abK l ↔ ∃ o ∈ l, o.plate = k := by
 intro l; have key : ∀ (l : List Opn) (acc : List Plt), k ∈ l.foldl (fun ks o => kput (kt := yPL) o.plate ks) acc ↔ k ∈ acc ∨ ∃ o ∈ l, o.plate = k := by
  intro l
  induction l with
  | nil => intro acc; simp
  | cons x l ih =>
    intro acc; rw [List.foldl_cons, ih, kput_mem]; constructor
    · rintro ((h | h) | ⟨o, ho, h⟩)
      · exact .inr ⟨x, by simp, h.symm⟩
      · exact .inl h
      · exact .inr ⟨o, by simp [ho], h⟩
    · rintro (h | ⟨o, ho, h⟩)
      · exact .inl (.inr h)
      · rcases List.mem_cons.1 ho with rfl | ho
        · exact .inl (.inl h.symm)
        · exact .inr ⟨o, ho, h⟩
 have := key l []; rw [show abK l = l.foldl (fun ks o => kput (kt := yPL) o.plate ks) [] from rfl, this]; exact ⟨fun h => h.resolve_left (by simp), .inr⟩
theorem kput_nodup {k : Plt} {ks : List Plt} (h : ks.Nodup) : (kput (kt := yPL) k ks).Nodup := by
 unfold kput; split
 · exact h
 · rename_i q; have hn : ¬ k ∈ ks := fun e => q (kidx_lt.2 e); rw [List.nodup_append]; exact ⟨h, by simp, fun a ha b hb e => hn (by rw [List.mem_singleton] at hb; rw [← hb, ← e]; exact ha)⟩
theorem abK_nodup (l : List Opn) : (abK l).Nodup := by
 have key : ∀ (l : List Opn) (acc : List Plt), acc.Nodup → (l.foldl (fun ks o => kput (kt := yPL) o.plate ks) acc).Nodup := by
  intro l
  induction l with
  | nil => intro acc h; exact h
  | cons x l ih => intro acc h; exact ih _ (kput_nodup h)
 exact key l [] List.nodup_nil
theorem kput_len {k : Plt} {ks : List Plt} : (kput (kt := yPL) k ks).length ≤ ks.length + 1 := by
 unfold kput; split <;> simp
theorem abK_len (l : List Opn) : (abK l).length ≤ l.length := by
 have key : ∀ (l : List Opn) (acc : List Plt), (l.foldl (fun ks o => kput (kt := yPL) o.plate ks) acc).length ≤ acc.length + l.length := by
  intro l
  induction l with
  | nil => intro acc; simp
  | cons x l ih =>
    intro acc; have h1 := ih (kput (kt := yPL) x.plate acc); have h2 := kput_len (k := x.plate) (ks := acc); rw [List.foldl_cons, List.length_cons]; omega
 have := key l []; simpa [abK] using this
theorem abG_len (l : List Opn) : (abG l).length = (abK l).length := by simp [abG]
theorem abG_at {l : List Opn} {k : Plt} (h : k ∈ abK l) : (abG l).getD (kidx (kt := yPL) k (abK l)) [] = l.filter (fun o => decide (o.plate = k)) := by
 have hg := kidx_get h; unfold abG; rw [List.getD, List.getElem?_map, hg]; rfl
theorem abG_end {l : List Opn} {k : Plt} (h : ¬ k ∈ abK l) : (abG l).getD (kidx (kt := yPL) k (abK l)) [] = [] := by
 rw [kidx_end h, List.getD, List.getElem?_eq_none (by rw [abG_len]; exact Nat.le_refl _)]; rfl
theorem abG_zero {l : List Opn} {k : Plt} : (abG l).getD (kidx (kt := yPL) k (abK l)) [] = [] ↔ ¬ k ∈ abK l := by
 constructor
 · intro h hk; rw [abG_at hk] at h; obtain ⟨o, ho, hp⟩ := (abK_mem k l).1 hk; have : o ∈ l.filter (fun o => decide (o.plate = k)) := List.mem_filter.2 ⟨ho, by simpa using hp⟩; rw [h] at this; cases this
 · exact abG_end
theorem abG_snoc (l : List Opn) (o : Opn) : (hset (abG l) (kidx (kt := yPL) o.plate (abK l)) []).set (kidx (kt := yPL) o.plate (abK l)) ((abG l).getD (kidx (kt := yPL) o.plate (abK l)) [] ++ [o]) = abG (l ++ [o]) := by
 have hlen := abG_len l; have hnd := abK_nodup l; by_cases h : o.plate ∈ abK l
 · have hlt := kidx_lt.2 h; have hlt2 : kidx (kt := yPL) o.plate (abK l) < (abG l).length := by rw [hlen]; exact hlt
   have hk : kput (kt := yPL) o.plate (abK l) = abK l := by unfold kput; rw [if_pos hlt]
   rw [abG_at h]; unfold hset; rw [if_pos hlt2, List.set_set]; apply List.ext_getElem?; intro i; have hget := kidx_get h
   conv => rhs; unfold abG
   rw [abK_snoc, hk, List.getElem?_set, List.getElem?_map]; by_cases hi : kidx (kt := yPL) o.plate (abK l) = i
   · rw [if_pos hi, if_pos hlt2, ← hi, hget]; simp
   · rw [if_neg hi]; unfold abG; rw [List.getElem?_map]
     cases hq : (abK l)[i]? with
     | none => rfl
     | some q =>
       have hne : ¬ o.plate = q := fun e => by
        subst e; obtain ⟨h1, h2⟩ := List.getElem?_eq_some_iff.1 hq; obtain ⟨h3, h4⟩ := List.getElem?_eq_some_iff.1 hget; exact hi ((List.getElem_inj hnd).1 (h4.trans h2.symm))
       simp [hne]
 · have he := kidx_end h; have hk : kput (kt := yPL) o.plate (abK l) = abK l ++ [o.plate] := by
    unfold kput; rw [if_neg (fun q => h (kidx_lt.1 q))]
   rw [abG_end h, he]; unfold hset; rw [if_neg (by omega), List.nil_append, ← hlen, List.set_append_right _ _ (Nat.le_refl _), Nat.sub_self, List.set_cons_zero]; have hf : l.filter (fun x => decide (x.plate = o.plate)) = [] := by
    rw [List.filter_eq_nil_iff]; intro x hx hp; exact h ((abK_mem _ _).2 ⟨x, hx, by simpa using hp⟩)
   have e1 : abG (l ++ [o]) = (abK l).map (fun k => (l ++ [o]).filter (fun o => decide (o.plate = k))) ++ [(l ++ [o]).filter (fun x => decide (x.plate = o.plate))] := by
    conv => lhs; unfold abG
    rw [abK_snoc, hk, List.map_append]; rfl
   have e2 : (abK l).map (fun k => (l ++ [o]).filter (fun o => decide (o.plate = k))) = abG l := by
    unfold abG; refine List.map_congr_left fun k hk => ?_; rw [List.filter_append]; have : ¬ o.plate = k := fun e => h (e ▸ hk); simp [this]
   rw [e1, e2, List.filter_append, hf]; simp
def con30 : Con := { ps := [.d false (.sl yOP)], rs := [.mp yPL (.sl yOP) true false, .o 45 yPL], pre := fun (x : List Opn × Unit) => x.1.length ≤ 1000000, out := fun (x : List Opn × Unit) => ((abK x.1).zip (abG x.1), sortBy pltC (abK x.1), ()), nw := id }
theorem c30 : CtrOk Tryz.prog 30 con30.ctr :=
 con_sound (G := ⟨[], [(63, con63.rctr)], [(8, 3), (19, 3), (41, 1)], [], []⟩) tab_ok (EnvOk.rcons c63 has63 EnvOk.nil) rfl Tryz.func30 rfl con30 2105021 (by kernel_rfl) (by decide) (by decide) rfl (by decide) rfl (by
  rintro ⟨(l : List Opn), _⟩ hpre hwf X hT hG hk hK; have hl : l.length ≤ 1000000 := hpre
  (simp -implicitDefEqProofs only [go_sem, bP, con30, con63, hT, hG, hk, hK, Tryz.results30] at hwf ⊢)
  intro _; refine evk_loop ⟨{ i : Nat // i ≤ l.length }, 1000,
   fun i => [(4, .one (.map 66)), (5, .one (.row 68)), (9, .one (.sl yOP l false)), (10, .one (.int .i64 l.length)), (11, .one (.int .i64 i.1))],
   fun i => [(66, .mapg yPL true 67 (abK (l.take i.1)) none), (67, .fam 61 yOP (abG (l.take i.1))), (68, .row 45 yPL (abK (l.take i.1)))], fun i => l.length - i.1⟩ ⟨0, by simp⟩ ?_ ?_
  · simp only [go_sem]; exact ⟨rfl, rfl, rfl, rfl⟩
  · rintro ⟨i, (hi : i ≤ l.length)⟩
    (simp -implicitDefEqProofs only [go_sem, bP, con30, con63, hT, hG, hk, hK, Tryz.results30, sortFCon])
    refine ⟨fun hlt => ?_, fun hge => ?_⟩
    · have hi' : i < l.length := by omega
      have ek : ∀ z, l.getD (i : Int).toNat z = l[i] := fun z => by simp [hi']
      have hp : l[i].2.2.2.2.2.1 = Opn.plate l[i] := rfl; simp only [ek, hp]; have hkl := abK_len (l.take i); rw [List.length_take] at hkl; have hgl := abG_len (l.take i); have hsk : abK (l.take (i + 1)) = kput (kt := yPL) (Opn.plate l[i]) (abK (l.take i)) := by rw [tsE hi', abK_snoc]
      have hsg := abG_snoc (l.take i) l[i]; rw [← tsE hi'] at hsg; have hin : kidx (kt := yPL) (Opn.plate l[i]) (abK (l.take i)) < (kput (kt := yPL) (Opn.plate l[i]) (abK (l.take i))).length := by
       unfold kput; split
       · assumption
       · have := kidx_le (kt := yPL) (Opn.plate l[i]) (abK (l.take i)); simp; exact Nat.lt_succ_of_le this
      have hz := abG_zero (l := l.take i) (k := Opn.plate l[i]); have hgd : ((abG (l.take i)).getD (kidx (kt := yPL) (Opn.plate l[i]) (abK (l.take i))) []).length ≤ l.length := by
       by_cases hk : Opn.plate l[i] ∈ abK (l.take i)
       · rw [abG_at hk]; refine Nat.le_trans (List.length_filter_le _ _) ?_; rw [List.length_take]; omega
       · rw [abG_end hk]; exact Nat.zero_le _
      generalize hR : (abG (l.take i)).getD (kidx (kt := yPL) (Opn.plate l[i]) (abK (l.take i))) [] = R at hz hsg hgd ⊢
      (repeat' with_reducible first | refine And.intro ?_ ?_ | intro _) <;> try first | with_reducible (first | assumption | omega | contradiction) | decide
      · have h : (R.length : Int) = 0 := by assumption
        have hR0 : R = [] := List.eq_nil_of_length_eq_zero (by omega); have hk2 : kput (kt := yPL) (Opn.plate l[i]) (abK (l.take i)) = abK (l.take i) ++ [Opn.plate l[i]] := by
         unfold kput; rw [if_neg (fun q => hz.1 hR0 (kidx_lt.1 q))]
        refine fin_lp ⟨i + 1, by omega⟩ ?_ (by dsimp only; omega); simp only [go_sem]; rw [hsk, hsg]; refine ⟨?_, rfl, ?_, by omega⟩ <;> first | rfl | exact hk2.symm | exact hk2
      · have h : ¬ (R.length : Int) = 0 := by assumption
        have hk2 : kput (kt := yPL) (Opn.plate l[i]) (abK (l.take i)) = abK (l.take i) := by
         have : Opn.plate l[i] ∈ abK (l.take i) := Classical.byContradiction fun q => h (by rw [hz.2 q]; rfl); unfold kput; rw [if_pos (kidx_lt.2 this)]
        refine fin_lp ⟨i + 1, by omega⟩ ?_ (by dsimp only; omega); simp only [go_sem]; rw [hsk, hsg]; refine ⟨?_, rfl, ?_, by omega⟩ <;> first | rfl | exact hk2.symm | exact hk2
    · rw [List.take_of_length_le (by omega)]; have hkl := abK_len l
      (repeat' with_reducible first | refine And.intro ?_ ?_ | intro _) <;> try first | with_reducible (first | assumption | omega | contradiction) | decide
      · rename_i h; exact sortBy_eq pltC_cmp h.1 h.2
      · rfl)
def ddU (xs : List Int) : Nat → List Int
 | 0 => []
 | i + 1 => ddU xs i ++ if i ≠ 0 ∧ xs.getD i 0 = xs.getD (i - 1) 0 then [] else [xs.getD i 0]
def compV (xs : List Int) : List Int := ddU xs xs.length
theorem ddU_len (xs : List Int) : ∀ i, (ddU xs i).length ≤ i
 | 0 => Nat.le_refl _
 | i + 1 => by
   have := ddU_len xs i; rw [ddU, List.length_append]; split <;> simp <;> omega
def con66 : Con := { ps := [.oc 3 yI], rs := [.o 3 yI], pre := fun x => True, out := fun x => (compV x.1, ()), nw := id }
theorem c66 : CtrOk Tryz.prog 66 con66.ctr :=
 con_sound (G := ⟨[], [], [(9, 2), (28, 1), (56, 1), (59, 2), (60, 2)], [], []⟩) tab_ok EnvOk.nil rfl Tryz.func66 rfl con66 17596514574653 (by kernel_rfl) (by decide) (by decide) rfl (by decide) rfl (by
  rintro ⟨(xs : List Int), _⟩ hpre hwf X hT hG hk hK
  (simp -implicitDefEqProofs only [go_sem, bP, con66, hT, hG, hk, hK, Tryz.results66] at hwf ⊢); (try simp (disch := decide +kernel) only [drawn, true_and, and_true])
  refine fun hln => ⟨fun h2 => ?_, fun h2 => ?_⟩
  · match xs, h2 with
    | [], _ => rfl
    | [a], _ => rfl
    | a :: b :: l, h2 => simp at h2; omega
  · refine evk_loop ⟨{ k : Nat // 1 ≤ k ∧ k ≤ xs.length ∧ ddU xs k = xs.take k }, 1000, fun k => [(0, .one (.row 0)), (3, .one (.int .i64 k.1))], fun k => [(0, .row 3 yI xs)], fun k => xs.length - k.1⟩ ⟨1, by omega, by omega, by simp [ddU]; match xs, h2 with | [], h2 => simp at h2 | a :: l, _ => rfl⟩ ?_ ?_
    · simp only [go_sem]; rfl
    · rintro ⟨k, (hk1 : 1 ≤ k), (hk2 : k ≤ xs.length), (hk3 : ddU xs k = xs.take k)⟩
      (simp -implicitDefEqProofs only [go_sem, bP, con66, hT, hG, hk, hK, Tryz.results66]); (try simp (disch := decide +kernel) only [drawn, true_and, and_true])
      refine fun _ => ⟨fun hlt => ?_, fun hge => ?_⟩
      · have hkl : k < xs.length := by omega
        have e1 : ∀ z, xs.getD (k : Int).toNat z = xs[k] := fun z => by simp [hkl]
        have e2 : ∀ z, xs.getD ((k : Int) - 1).toNat z = xs[k - 1] := fun z => by
         rw [show ((k : Int) - 1).toNat = k - 1 by omega]; simp [show k - 1 < xs.length by omega]
        have f1 : ∀ i (h : i < xs.length), xs.getD i 0 = xs[i] := fun i h => by simp [h]
        simp only [e1, e2]; refine ⟨⟨by omega, by omega⟩, fun _ => ⟨⟨by omega, by omega⟩, fun _ => ⟨⟨by omega, by omega⟩, ⟨by omega, by omega⟩, fun _ => ⟨⟨by omega, by omega⟩, fun _ => ⟨fun heq => ⟨⟨by omega, by omega, by omega⟩, ?_⟩, fun hne => ?_⟩⟩⟩⟩⟩
        · have b0 : ddU xs (k + 1) = xs.take k := by
           rw [ddU, f1 k hkl, f1 (k - 1) (by omega), if_pos ⟨by omega, heq⟩, List.append_nil, hk3]
          have g1 : (k : Int).toNat = k := by omega
          have g2 : ((xs.length : Int) - (k : Int)).toNat = xs.length - k := by omega
          rw [g1, g2]; refine evk_loop ⟨{ q : Nat × Nat × List Int // k ≤ q.1 ∧ q.1 ≤ k + q.2.1 - 1 ∧ 1 ≤ q.2.1 ∧ q.2.1 ≤ xs.length - k ∧ q.2.2.length = xs.length ∧ q.2.2.take q.1 = ddU xs (k + q.2.1) ∧ q.2.2.drop (k + q.2.1 - 1) = xs.drop (k + q.2.1 - 1) }, 2000, fun q => [(0, .one (.row 0)), (3, .one (.int .i64 q.1.1)), (4, .one (.win 0 1 k (xs.length - k))), (5, .one (.int .i64 q.1.2.1))], fun q => [(0, .row 3 yI q.1.2.2)], fun q => xs.length - q.1.2.1⟩ ⟨(k, 1, xs), by dsimp only; omega, by dsimp only; omega, by dsimp only; omega, by dsimp only; omega, rfl, b0.symm, rfl⟩ ?_ ?_
          · simp only [go_sem]; rfl
          · rintro ⟨⟨a, p, R⟩, (c1 : k ≤ a), (c2 : a ≤ k + p - 1), (c3 : 1 ≤ p), (c4 : p ≤ xs.length - k), (c5 : R.length = xs.length), (c6 : R.take a = ddU xs (k + p)), (c7 : R.drop (k + p - 1) = xs.drop (k + p - 1))⟩; have hw : (k + (xs.length - k) ≤ R.length) = True := by rw [eq_iff_iff, iff_true]; omega
            (simp -implicitDefEqProofs only [go_sem, bP, con66, hT, hG, hk, hK, Tryz.results66, hw]); (try simp (disch := decide +kernel) only [drawn, true_and, and_true])
            have at_ : ∀ i, k + p - 1 ≤ i → ∀ z, R.getD i z = xs.getD i z := fun i hi z => by
             have h := congrArg (fun l : List Int => l[i - (k + p - 1)]?) c7; simp only [List.getElem?_drop] at h; rw [show k + p - 1 + (i - (k + p - 1)) = i by omega] at h; rw [gdE, gdE, h]
            have f2 : ((k : Int) + (p : Int)).toNat = k + p := by omega
            have f3 : ((k : Int) + ((p : Int) - 1)).toNat = k + p - 1 := by omega
            have f4 : (a : Int).toNat = a := by omega
            simp only [f2, f3, f4]; rw [at_ (k + p) (by omega) 0, at_ (k + p - 1) (Nat.le_refl _) 0]; have hst : ddU xs (k + p + 1) = ddU xs (k + p) ++ if xs.getD (k + p) 0 = xs.getD (k + p - 1) 0 then [] else [xs.getD (k + p) 0] := by
             rw [ddU]; by_cases h : xs.getD (k + p) 0 = xs.getD (k + p - 1) 0
             · rw [if_pos ⟨by omega, h⟩, if_pos h]
             · rw [if_neg (fun q => h q.2), if_neg h]
            refine fun _ => ⟨fun hlt2 => ⟨⟨by omega, by omega⟩, fun _ => ⟨⟨by omega, by omega⟩, fun _ => ⟨⟨by omega, by omega⟩, ⟨by omega, by omega⟩, fun _ => ⟨⟨by omega, by omega⟩, fun _ => ⟨fun hne => ⟨⟨by omega, by omega⟩, fun _ => ⟨⟨by omega, by omega⟩, fun _ => ⟨⟨by omega, by omega⟩, fun _ => ⟨⟨by omega, by omega⟩, ⟨by omega, by omega⟩, ⟨by omega, by omega⟩, ?_⟩⟩⟩⟩, fun heq2 => ⟨⟨by omega, by omega⟩, ?_⟩⟩⟩⟩⟩⟩, fun hge2 => ?_⟩
            · rw [if_neg hne] at hst; refine fin_lp ⟨(a + 1, p + 1, R.set a (xs.getD (k + p) 0)), by dsimp only; omega, by dsimp only; omega, by dsimp only; omega, by dsimp only; omega, by dsimp only; rw [List.length_set]; exact c5, ?_, ?_⟩ ?_ (by dsimp only; omega)
              · dsimp only; rw [← Nat.add_assoc, hst, ← c6, tsE (by rw [List.length_set]; omega), List.take_set_of_le (Nat.le_refl _), List.getElem_set_self]
              · dsimp only; rw [List.drop_set_of_lt (by omega)]; have := congrArg (List.drop 1) c7; rw [List.drop_drop, List.drop_drop, show k + p - 1 + 1 = k + (p + 1) - 1 by omega] at this; exact this
              · simp only [go_sem]
                and_intros <;> first | rfl | omega
            · rw [if_pos (by omega)] at hst; refine fin_lp ⟨(a, p + 1, R), by dsimp only; omega, by dsimp only; omega, by dsimp only; omega, by dsimp only; omega, c5, ?_, ?_⟩ ?_ (by dsimp only; omega)
              · dsimp only; rw [← Nat.add_assoc, hst, List.append_nil, c6]
              · dsimp only; have := congrArg (List.drop 1) c7; rw [List.drop_drop, List.drop_drop, show k + p - 1 + 1 = k + (p + 1) - 1 by omega] at this; exact this
              · simp only [go_sem]
                and_intros <;> first | rfl | omega
            · have hp : k + p = xs.length := by omega
              have g3 : ((R.length : Int) - (a : Int)).toNat = R.length - a := by omega
              have g4 : (a + (R.length - a) ≤ R.length) = True := by rw [eq_iff_iff, iff_true]; omega
              refine ⟨⟨by omega, by omega, by omega⟩, ?_⟩; rw [g3]
              (simp -implicitDefEqProofs only [go_sem, bP, con66, hT, hG, hk, hK, Tryz.results66, g4]); (try simp (disch := decide +kernel) only [drawn, true_and, and_true])
              have e5 : (R.take a).length = a := by rw [List.length_take]; omega
              refine ⟨⟨by omega, by rw [List.length_append, e5]; omega⟩, ?_⟩; rw [show (a : Int).toNat = a by omega, List.take_append_of_le_length (by omega), List.take_of_length_le (by omega), c6, hp]; rfl
        · refine ⟨⟨by omega, by omega⟩, ?_⟩; refine fin_lp ⟨k + 1, by omega, by omega, ?_⟩ ?_ (by dsimp only; omega)
          · rw [ddU, f1 k hkl, f1 (k - 1) (by omega), if_neg (fun q => hne q.2), hk3, tsE hkl]
          · simp only [go_sem]
            and_intros <;> first | rfl | omega
      · have : k = xs.length := by omega
        subst this; unfold compV; rw [hk3, List.take_length])
def it95 : ItC := itSl .back 28 yOP true
theorem i95 : ItOk Tryz.prog 95 it95 := itSl_ok (K := .back) (t := yOP) run95 (by decide) (fun h => by cases h)
def con64 : Con := { ps := [.d false (.sl yOP)], rs := [.cl 95 28 (.sl yOP)], pre := fun x => True, out := fun x => (x.1, ()), nw := id }
theorem c64 : CtrOk Tryz.prog 64 con64.ctr :=
 con_sound (G := ⟨[], [], [], [], []⟩) tab_ok EnvOk.nil rfl Tryz.func64 rfl con64 7 (by kernel_rfl) (by decide) (by decide) rfl (by decide) rfl (by
  rintro ⟨(xs : List Opn), _⟩ hpre hwf X hT hG hk hK
  (simp -implicitDefEqProofs only [go_sem, bP, con64, hT, hG, hk, hK, Tryz.results64] at hwf ⊢)
  skip)
def trail (l : List Opn) : List Int := (l.reverse.takeWhile (fun o => decide (o.kind = 1))).map Opn.box
abbrev Plc := Pce × Int × List Int
def o0 : Opn := (0, 0, 0, 0, 0, (0, 0, 0), 0, 0)
def placeV (l : List Opn) : Plc := ((l.getD (l.length - 1) o0).2.2.2.2.2, if (l.getD (l.length - 1) o0).kind = 1 then (l.getD (l.length - 1) o0).box else 0, compV (sortI (trail l)))
def TrN (l : List Opn) (n : Nat) : Prop := n ≤ l.length ∧ ∀ i, i < n → (l.reverse.getD i o0).kind = 1
theorem TrN.zero (l : List Opn) : TrN l 0 := ⟨Nat.zero_le _, fun i h => by omega⟩
theorem TrN.tw : ∀ {r : List Opn} {n : Nat}, n ≤ r.length → (∀ i, i < n → (r.getD i o0).kind = 1) → (n < r.length → (r.getD n o0).kind ≠ 1) → r.takeWhile (fun o => decide (o.kind = 1)) = r.take n
 | [], n, h, _, _ => by simp at h; subst h; rfl
 | a :: r, 0, _, _, h => by
   have : a.kind ≠ 1 := by simpa using h (by simp)
   simp [this]
 | a :: r, n + 1, h, k, q => by
   have h1 : a.kind = 1 := by simpa using k 0 (by omega)
   have := TrN.tw (r := r) (n := n) (by simpa using h) (fun i hi => by simpa using k (i + 1) (by omega)) (fun hi => by simpa using q (by simpa using hi)); simp [h1, this]
theorem TrN.trail {l : List Opn} {n : Nat} (h : TrN l n) (q : n < l.length → (l.reverse.getD n o0).kind ≠ 1) : trail l = (l.reverse.take n).map Opn.box := by
 unfold Proofs.YtkjpbhkldioggaaGreat.trail; rw [TrN.tw (by simpa using h.1) h.2 (fun hi => q (by simpa using hi))]
theorem rev_at {l : List Opn} {j : Nat} (hj : j < l.length) (z : Opn) : l.getD (l.length - 1 - j) z = l.reverse.getD j o0 := by
 have h1 : l.length - 1 - j < l.length := by omega
 simp [gdE, List.getElem?_reverse hj, h1]
theorem sortI_len (l : List Int) : (sortI l).length = l.length := (List.mergeSort_perm l _).length_eq
theorem compV_le (l : List Int) : (compV l).length ≤ l.length := ddU_len l _
def con31 : Con := { ps := [.d false (.sl yOP)], rs := [.d true yPM], pre := fun (x : List Opn × Unit) => x.1 ≠ [] ∧ x.1.length ≤ 1048576, out := fun (x : List Opn × Unit) => (placeV x.1, ()), nw := id }
theorem c31 : CtrOk Tryz.prog 31 con31.ctr :=
 con_sound (G := ⟨[(64, con64.ctr), (65, con65.ctr), (66, con66.ctr)], [], [], [(95, it95)], []⟩) tab_ok (EnvOk.cons c64 has64 (EnvOk.cons c65 has65 (EnvOk.cons c66 has66 (EnvOk.icons i95 has95 EnvOk.nil)))) rfl Tryz.func31 rfl con31 327417949 (by kernel_rfl) (by decide) (by decide) rfl (by decide) rfl (by
  rintro ⟨(l : List Opn), _⟩ hpre hwf X hT hG hk hK
  (simp -implicitDefEqProofs only [go_sem, bP, con31, con64, con65, con66, hT, hG, hk, hK, Tryz.results31] at hwf ⊢)
  obtain ⟨hne, hlen⟩ : l ≠ [] ∧ l.length ≤ 1048576 := hpre; have hpos : 0 < l.length := List.length_pos_iff.2 hne; have hidx : ((l.length : Int) - 1).toNat = l.length - 1 := by omega
  rw [hidx]; have hlast : ∃ z, l.getD (l.length - 1) o0 = z := ⟨_, rfl⟩; obtain ⟨z, hz⟩ := hlast; have hz2 : l.getD (l.length - 1) (0, 0, 0, 0, 0, (0, 0, 0), 0, 0) = z := hz; rw [hz2]; have hpv : ∀ n, TrN l n → (n < l.length → (l.reverse.getD n o0).kind ≠ 1) → placeV l = (z.2.2.2.2.2, if z.kind = 1 then z.box else 0, compV (sortI ((l.reverse.take n).map Opn.box))) := fun n h1 h2 => by
   unfold placeV; rw [hz, h1.trail h2]
  refine fun _ => ⟨⟨by omega, by omega⟩, ⟨by omega, by omega⟩, fun _ _ => ⟨fun hk1 _ => ?_, fun hk1 _ => ?_⟩⟩
  · have hcv : (if z.kind = 1 then z.box else 0) = z.2.2.2.2.1 := if_pos hk1; refine evk_range (I := it95) (E := slG .back yOP true _ l) ⟨fun p => { u : Unit // TrN l p.length }, 1000, [(2, .one (.loc 70 0)), (4, .one (.loc 72 0))], fun p _ => [(70, .cells 81 [.int .i64 0, .int .i64 0, .int .i64 0, .int .i64 0, .int .i64 0, .int .i64 0, .row 71]), (71, .row 3 yI []), (72, .cells 81 [.int .i64 z.2.2.2.2.2.1.1, .int .i64 z.2.2.2.2.2.1.2.1, .int .i64 z.2.2.2.2.2.1.2.2, .int .i64 z.2.2.2.2.2.2.1, .int .i64 z.2.2.2.2.2.2.2, .int .i64 (z.2.2.2.2.1), .row 73]), (73, .row 3 yI ((l.reverse.take p.length).map Opn.box))]⟩ ⟨(), TrN.zero l⟩ rfl ?_ rfl trivial rfl ?_ (by kernel_rfl) (by kernel_rfl) rfl ?_ ?_
    · rw [hG]; rfl
    · simp only [go_sem]
    · rintro p j ⟨_, (htr : TrN l p.length)⟩ hpf hasm; obtain ⟨rfl, hj⟩ := pfx_at hpf; have hml : ((l.reverse.take (List.range j).length).map Opn.box).length ≤ 1048576 := by simp; omega
      have hev := rev_at hj (0, 0, 0, 0, 0, (0, 0, 0), 0, 0); obtain ⟨y, hy⟩ : ∃ y, l.getD (l.length - 1 - j) (0, 0, 0, 0, 0, (0, 0, 0), 0, 0) = y := ⟨_, rfl⟩
      (simp -implicitDefEqProofs only [go_sem, bP, con31, con64, con65, con66, hT, hG, hk, hK, Tryz.results31])
      rw [hy]; rw [hy] at hev; refine ⟨fun hkn => ⟨by omega, fun _ => ?_⟩, fun hkn => ⟨by omega, ?_⟩⟩
      · rw [hpv (List.range j).length htr (fun _ => by rw [List.length_range, ← hev]; exact hkn), hcv]; exact ⟨rfl, rfl, rfl, rfl, rfl, rfl, rfl⟩
      · have hst : (l.reverse.take ((List.range j ++ [j]).length)).map Opn.box = (l.reverse.take (List.range j).length).map Opn.box ++ [y.box] := by
         rw [List.length_append, List.length_range, List.length_singleton, tsE (by simpa using hj), List.map_append]; congr 1; rw [hev]; simp [gdE, hj]
        have htn : TrN l (List.range j ++ [j]).length := by
         rw [List.length_range] at htr; rw [List.length_append, List.length_range, List.length_singleton]; refine ⟨by omega, fun i hi => ?_⟩; by_cases e : i = j
         · subst e; rw [← hev]; exact hkn
         · exact htr.2 i (by omega)
        refine fin_rf ⟨(), htn⟩ ?_; simp only [go_sem]; rw [hst]; rfl
    · rintro p ⟨_, (htr : TrN l p.length)⟩ hp; have hml : ((l.reverse.take p.length).map Opn.box).length ≤ 1048576 := by simp; omega
      have hpl : p.length = l.length := by rw [show p = List.range l.length from hp, List.length_range]
      (simp -implicitDefEqProofs only [go_sem, bP, con31, con64, con65, con66, hT, hG, hk, hK, Tryz.results31])
      refine ⟨by omega, fun _ => ?_⟩; rw [hpv p.length htr (fun h => by omega), hcv]; exact ⟨rfl, rfl, rfl, rfl, rfl, rfl, rfl⟩
  · have hcv : (if z.kind = 1 then z.box else 0) = (0 : Int) := if_neg hk1; refine evk_range (I := it95) (E := slG .back yOP true _ l) ⟨fun p => { u : Unit // TrN l p.length }, 1000, [(2, .one (.loc 70 0)), (4, .one (.loc 72 0))], fun p _ => [(70, .cells 81 [.int .i64 0, .int .i64 0, .int .i64 0, .int .i64 0, .int .i64 0, .int .i64 0, .row 71]), (71, .row 3 yI []), (72, .cells 81 [.int .i64 z.2.2.2.2.2.1.1, .int .i64 z.2.2.2.2.2.1.2.1, .int .i64 z.2.2.2.2.2.1.2.2, .int .i64 z.2.2.2.2.2.2.1, .int .i64 z.2.2.2.2.2.2.2, .int .i64 ((0 : Int)), .row 73]), (73, .row 3 yI ((l.reverse.take p.length).map Opn.box))]⟩ ⟨(), TrN.zero l⟩ rfl ?_ rfl trivial rfl ?_ (by kernel_rfl) (by kernel_rfl) rfl ?_ ?_
    · rw [hG]; rfl
    · simp only [go_sem]
    · rintro p j ⟨_, (htr : TrN l p.length)⟩ hpf hasm; obtain ⟨rfl, hj⟩ := pfx_at hpf; have hml : ((l.reverse.take (List.range j).length).map Opn.box).length ≤ 1048576 := by simp; omega
      have hev := rev_at hj (0, 0, 0, 0, 0, (0, 0, 0), 0, 0); obtain ⟨y, hy⟩ : ∃ y, l.getD (l.length - 1 - j) (0, 0, 0, 0, 0, (0, 0, 0), 0, 0) = y := ⟨_, rfl⟩
      (simp -implicitDefEqProofs only [go_sem, bP, con31, con64, con65, con66, hT, hG, hk, hK, Tryz.results31])
      rw [hy]; rw [hy] at hev; refine ⟨fun hkn => ⟨by omega, fun _ => ?_⟩, fun hkn => ⟨by omega, ?_⟩⟩
      · rw [hpv (List.range j).length htr (fun _ => by rw [List.length_range, ← hev]; exact hkn), hcv]; exact ⟨rfl, rfl, rfl, rfl, rfl, rfl, rfl⟩
      · have hst : (l.reverse.take ((List.range j ++ [j]).length)).map Opn.box = (l.reverse.take (List.range j).length).map Opn.box ++ [y.box] := by
         rw [List.length_append, List.length_range, List.length_singleton, tsE (by simpa using hj), List.map_append]; congr 1; rw [hev]; simp [gdE, hj]
        have htn : TrN l (List.range j ++ [j]).length := by
         rw [List.length_range] at htr; rw [List.length_append, List.length_range, List.length_singleton]; refine ⟨by omega, fun i hi => ?_⟩; by_cases e : i = j
         · subst e; rw [← hev]; exact hkn
         · exact htr.2 i (by omega)
        refine fin_rf ⟨(), htn⟩ ?_; simp only [go_sem]; rw [hst]; rfl
    · rintro p ⟨_, (htr : TrN l p.length)⟩ hp; have hml : ((l.reverse.take p.length).map Opn.box).length ≤ 1048576 := by simp; omega
      have hpl : p.length = l.length := by rw [show p = List.range l.length from hp, List.length_range]
      (simp -implicitDefEqProofs only [go_sem, bP, con31, con64, con65, con66, hT, hG, hk, hK, Tryz.results31])
      refine ⟨by omega, fun _ => ?_⟩; rw [hpv p.length htr (fun h => by omega), hcv]; exact ⟨rfl, rfl, rfl, rfl, rfl, rfl, rfl⟩)
def con89 : Con := { ps := [.d false yI, .d false yI, .d false yI], rs := [.d false .bool], pre := fun _ => True, out := fun x => (inV x.1 x.2.1 x.2.2.1, ()), nw := id }
theorem c89 : CtrOk Tryz.prog 89 con89.ctr :=
 con_sound (G := ⟨[], [], [], [], []⟩) tab_ok EnvOk.nil rfl Tryz.func89 rfl con89 71 (by kernel_rfl) (by decide) (by decide) rfl (by decide) rfl (by
  rintro ⟨(n : Int), (a : Int), (b : Int), _⟩ hpre hwf X hT hG hk hK
  (simp -implicitDefEqProofs only [go_sem, bP, con89, hT, hG, hk, hK, Tryz.results89] at hwf ⊢)
  (repeat' with_reducible first | refine And.intro ?_ ?_ | intro _) <;> try first | with_reducible (first | assumption | omega | contradiction) | decide
  rfl)
def con90 : Con := { ps := [.d true yPC], rs := [.d false .bool], pre := fun _ => True, out := fun (x : Pce × Unit) => (okPc x.1, ()), nw := id }
theorem c90 : CtrOk Tryz.prog 90 con90.ctr :=
 con_sound (G := ⟨[(89, con89.ctr), (76, con76.ctr)], [], [], [], []⟩) tab_ok (EnvOk.cons c89 has89 (EnvOk.cons c76 has76 EnvOk.nil)) rfl Tryz.func90 rfl con90 7 (by kernel_rfl) (by decide) (by decide) rfl (by decide) rfl (by
  rintro ⟨⟨⟨(a : Int), (b : Int), (c : Int)⟩, (d : Int), (e : Int)⟩, _⟩ hpre hwf X hT hG hk hK
  (simp -implicitDefEqProofs only [go_sem, bP, con90, con89, con76, hT, hG, hk, hK, Tryz.results90] at hwf ⊢)
  unfold okPc; generalize okPl (a, b, c) = q1; generalize inV d 1 999 = q2; generalize inV e 0 4 = q3; cases q1 <;> cases q2 <;> cases q3 <;> simp)
def con58 : Con := { ps := [.d true yOP], rs := [.d false .bool], pre := fun _ => True, out := fun (x : Opn × Unit) => (okOp x.1, ()), nw := id }
theorem c58 : CtrOk Tryz.prog 58 con58.ctr :=
 con_sound (G := ⟨[(89, con89.ctr), (90, con90.ctr)], [], [], [], []⟩) tab_ok (EnvOk.cons c89 has89 (EnvOk.cons c90 has90 EnvOk.nil)) rfl Tryz.func58 rfl con58 262151 (by kernel_rfl) (by decide) (by decide) rfl (by decide) rfl (by
  rintro ⟨⟨(a : Int), (b : Int), (c : Int), (d : Int), (e : Int), ⟨(f1 : Int), (f2 : Int), (f3 : Int)⟩, (f4 : Int), (f5 : Int)⟩, _⟩ hpre hwf X hT hG hk hK
  (simp -implicitDefEqProofs only [go_sem, bP, con58, con89, con90, hT, hG, hk, hK, Tryz.results58] at hwf ⊢)
  unfold okOp; dsimp only; clear hwf hpre hT hG hk hK; generalize inV a 0 1048576 = q1; generalize inV b 1 6 = q2; generalize inV c 1 1048576 = q3; generalize decide (d = 1) = q4; generalize decide (d = 2) = q5; generalize inV e 1 999 = q6; generalize okPc ((f1, f2, f3), f4, f5) = q7
  revert q1 q2 q3 q4 q5 q6 q7
  decide)
def bfV (a b : Opn) : Bool := decide (a.1 < b.1 ∨ a.1 = b.1 ∧ (a.2.1 < b.2.1 ∨ a.2.1 = b.2.1 ∧ a.2.2.1 < b.2.2.1))
def cmpO (a b : Opn) : Int := orV [cmpV a.1 b.1, cmpV a.2.1 b.2.1, cmpV a.2.2.1 b.2.2.1]
def con86 : Con := { ps := [.d true yOP, .d true yOP], rs := [.d false yI], pre := fun _ => True, out := fun (x : Opn × Opn × Unit) => (cmpO x.1 x.2.1, ()), nw := id }
theorem c86 : CtrOk Tryz.prog 86 con86.ctr :=
 con_sound (G := ⟨[(79, con79.ctr), (49, con49.ctr)], [], [], [], []⟩) tab_ok (EnvOk.cons c79 has79 (EnvOk.cons c49 has49 EnvOk.nil)) rfl Tryz.func86 rfl con86 31 (by kernel_rfl) (by decide) (by decide) rfl (by decide) rfl (by
  rintro ⟨⟨(a : Int), (b : Int), (c : Int), (d : Int), (e : Int), ⟨(f1 : Int), (f2 : Int), (f3 : Int)⟩, (f4 : Int), (f5 : Int)⟩, ⟨(a' : Int), (b' : Int), (c' : Int), (d' : Int), (e' : Int), ⟨(f1' : Int), (f2' : Int), (f3' : Int)⟩, (f4' : Int), (f5' : Int)⟩, _⟩ hpre hwf X hT hG hk hK
  (simp -implicitDefEqProofs only [go_sem, bP, con86, con79, con49, hT, hG, hk, hK, Tryz.results86] at hwf ⊢); (try simp (disch := decide +kernel) only [drawn, true_and, and_true])
  (repeat' with_reducible first | refine And.intro ?_ ?_ | intro _) <;> try first | with_reducible (first | assumption | omega | contradiction) | decide
  rfl)
def con52 : Con := { ps := [.d true yOP, .d true yOP], rs := [.d false .bool], pre := fun _ => True, out := fun (x : Opn × Opn × Unit) => (bfV x.1 x.2.1, ()), nw := id }
theorem c52 : CtrOk Tryz.prog 52 con52.ctr :=
 con_sound (G := ⟨[(86, con86.ctr)], [], [], [], []⟩) tab_ok (EnvOk.cons c86 has86 EnvOk.nil) rfl Tryz.func52 rfl con52 31 (by kernel_rfl) (by decide) (by decide) rfl (by decide) rfl (by
  rintro ⟨⟨(a : Int), (b : Int), (c : Int), (d : Int), (e : Int), ⟨(f1 : Int), (f2 : Int), (f3 : Int)⟩, (f4 : Int), (f5 : Int)⟩, ⟨(a' : Int), (b' : Int), (c' : Int), (d' : Int), (e' : Int), ⟨(f1' : Int), (f2' : Int), (f3' : Int)⟩, (f4' : Int), (f5' : Int)⟩, _⟩ hpre hwf X hT hG hk hK
  (simp -implicitDefEqProofs only [go_sem, bP, con52, con86, hT, hG, hk, hK, Tryz.results52] at hwf ⊢)
  unfold bfV cmpO cmpV; simp only [orV]; rw [Bool.eq_iff_iff]; simp only [decide_eq_true_eq]
  (repeat' split) <;> omega)
def stepErr (l : List Opn) (i : Nat) : Int :=
 if okOp (l.getD i o0) = false then 1 else if 0 < i ∧ bfV (l.getD (i - 1) o0) (l.getD i o0) = false then 9
 else if ∃ k, k < i ∧ (l.getD k o0).2.1 = (l.getD i o0).2.1 ∧ (l.getD i o0).2.2.1 ≤ (l.getD k o0).2.2.1 then 5 else 0
def valV (l : List Opn) : Int := if 360 < l.length then 2 else (((List.range l.length).map (stepErr l)).find? (fun e => decide (e ≠ 0))).getD 0
theorem valV_err {l : List Opn} {i : Nat} (hl : ¬ 360 < l.length) (h : ∀ k, k < i → stepErr l k = 0) (hi : i < l.length) (he : stepErr l i ≠ 0) : valV l = stepErr l i := by
 unfold valV; rw [if_neg hl]; have e0 : List.range l.length = List.range i ++ (i :: (List.range l.length).drop (i + 1)) :=
  (List.take_append_drop i (List.range l.length)).symm.trans (by rw [List.take_range, Nat.min_eq_left (by omega), List.drop_eq_getElem_cons (i := i) (by simpa using hi), List.getElem_range])
 obtain ⟨D, hD⟩ : ∃ D, (List.range l.length).drop (i + 1) = D := ⟨_, rfl⟩; rw [hD] at e0; have e : (List.range l.length).map (stepErr l) = (List.range i).map (stepErr l) ++ (stepErr l i :: D.map (stepErr l)) := by
  rw [e0, List.map_append, List.map_cons]
 rw [e, List.find?_append]; have e2 : ((List.range i).map (stepErr l)).find? (fun e => decide (e ≠ 0)) = none := by
  rw [List.find?_eq_none]; intro x hx; obtain ⟨k, hk, rfl⟩ := List.mem_map.1 hx; rw [h k (List.mem_range.1 hk)]; simp
 rw [e2]; simp [he]
theorem valV_ok {l : List Opn} (hl : ¬ 360 < l.length) (h : ∀ k, k < l.length → stepErr l k = 0) : valV l = 0 := by
 unfold valV; rw [if_neg hl]; have e2 : ((List.range l.length).map (stepErr l)).find? (fun e => decide (e ≠ 0)) = none := by
  rw [List.find?_eq_none]; intro x hx; obtain ⟨k, hk, rfl⟩ := List.mem_map.1 hx; rw [h k (List.mem_range.1 hk)]; simp
 rw [e2]; rfl
def lastU (l : List Opn) : Nat → Int → Int
 | 0, _ => 0
 | i + 1, d => if (l.getD i o0).2.1 = d then (l.getD i o0).2.2.1 else lastU l i d
theorem stepErr_zero {l : List Opn} {i : Nat} (h : stepErr l i = 0) : okOp (l.getD i o0) = true ∧ (0 < i → bfV (l.getD (i - 1) o0) (l.getD i o0) = true) ∧ ∀ k, k < i → (l.getD k o0).2.1 = (l.getD i o0).2.1 → (l.getD k o0).2.2.1 < (l.getD i o0).2.2.1 := by
 unfold stepErr at h; split at h
 · omega
 · rename_i h1; split at h
   · omega
   · rename_i h2; split at h
     · omega
     · rename_i h3; refine ⟨by simpa using h1, fun hi => ?_, fun k hk hd => ?_⟩
       · cases hb : bfV (l.getD (i - 1) o0) (l.getD i o0) with
         | true => rfl
         | false => exact absurd ⟨hi, hb⟩ h2
       · exact Int.not_le.1 fun hle => h3 ⟨k, hk, hd, hle⟩
theorem okOp_bd {o : Opn} (h : okOp o = true) : (0 ≤ o.1 ∧ o.1 ≤ 1048576) ∧ (1 ≤ o.2.1 ∧ o.2.1 ≤ 6) ∧ (1 ≤ o.2.2.1 ∧ o.2.2.1 ≤ 1048576) := by
 unfold okOp inV at h; simp only [Bool.and_eq_true, decide_eq_true_eq] at h; omega
theorem lastU_spec {l : List Opn} : ∀ {i : Nat} {d s : Int}, (∀ k, k < i → stepErr l k = 0) → 1 ≤ s → ((∃ k, k < i ∧ (l.getD k o0).2.1 = d ∧ s ≤ (l.getD k o0).2.2.1) ↔ s ≤ lastU l i d)
 | 0, d, s, _, hs => ⟨fun ⟨k, hk, _⟩ => by omega, fun h => by simp only [lastU] at h; omega⟩
 | i + 1, d, s, h, hs => by
   have ih := lastU_spec (l := l) (i := i) (d := d) (s := s) (fun k hk => h k (by omega)) hs; obtain ⟨_, _, h3⟩ := stepErr_zero (h i (by omega)); simp only [lastU]; split
   · rename_i hd; constructor
     · rintro ⟨k, hk, h1, h2⟩; by_cases e : k = i
       · subst e; exact h2
       · have := h3 k (by omega) (h1.trans hd.symm); omega
     · exact fun hl => ⟨i, by omega, hd, hl⟩
   · rename_i hd; rw [← ih]; constructor
     · rintro ⟨k, hk, h1, h2⟩; by_cases e : k = i
       · subst e; exact absurd h1 hd
       · exact ⟨k, by omega, h1, h2⟩
     · rintro ⟨k, hk, h1, h2⟩; exact ⟨k, by omega, h1, h2⟩
def lastA (l : List Opn) (i : Nat) : List Int := (List.range 7).map (fun (d : Nat) => lastU l i (d : Int))
theorem lastA_len (l : List Opn) (i : Nat) : (lastA l i).length = 7 := by unfold lastA; rw [List.length_map, List.length_range]
theorem lastA_zero (l : List Opn) : List.replicate 7 0 = lastA l 0 := by unfold lastA; simp [List.range, List.range.loop, lastU, List.replicate]
theorem lastA_at (l : List Opn) (i : Nat) {d : Int} (h0 : 0 ≤ d) (h6 : d < 7) (z : Int) : (lastA l i).getD d.toNat z = lastU l i d := by
 unfold lastA; have hd : d.toNat < 7 := by omega
 rw [gdE, List.getElem?_map, List.getElem?_range hd]; show lastU l i (d.toNat : Int) = _; congr 1; omega
theorem lastA_set (l : List Opn) (i : Nat) {d : Int} (h0 : 0 ≤ d) (h6 : d < 7) (hd : (l.getD i o0).2.1 = d) : (lastA l i).set d.toNat (l.getD i o0).2.2.1 = lastA l (i + 1) := by
 unfold lastA; refine List.ext_getElem (by simp) fun k h1 h2 => ?_; rw [List.getElem_set]; simp only [List.getElem_map, List.getElem_range, lastU]; by_cases e : d.toNat = k
 · rw [if_pos e, if_pos (by omega)]
 · rw [if_neg e, if_neg (by omega)]
theorem stepErr_1 {l : List Opn} {i : Nat} (h : okOp (l.getD i o0) = false) : stepErr l i = 1 := by unfold stepErr; rw [if_pos h]
theorem stepErr_9 {l : List Opn} {i : Nat} (h : okOp (l.getD i o0) = true) (hi : 0 < i) (hb : bfV (l.getD (i - 1) o0) (l.getD i o0) = false) : stepErr l i = 9 := by
 unfold stepErr; rw [if_neg (by rw [h]; exact fun q => by cases q), if_pos ⟨hi, hb⟩]
theorem stepErr_5 {l : List Opn} {i : Nat} (h : okOp (l.getD i o0) = true) (hb : 0 < i → bfV (l.getD (i - 1) o0) (l.getD i o0) = true) (he : ∃ k, k < i ∧ (l.getD k o0).2.1 = (l.getD i o0).2.1 ∧ (l.getD i o0).2.2.1 ≤ (l.getD k o0).2.2.1) : stepErr l i = 5 := by
 unfold stepErr; rw [if_neg (by rw [h]; exact fun q => by cases q), if_neg (fun q => by rw [hb q.1] at q; cases q.2), if_pos he]
theorem stepErr_0 {l : List Opn} {i : Nat} (h : okOp (l.getD i o0) = true) (hb : 0 < i → bfV (l.getD (i - 1) o0) (l.getD i o0) = true) (he : ¬ ∃ k, k < i ∧ (l.getD k o0).2.1 = (l.getD i o0).2.1 ∧ (l.getD i o0).2.2.1 ≤ (l.getD k o0).2.2.1) : stepErr l i = 0 := by
 unfold stepErr; rw [if_neg (by rw [h]; exact fun q => by cases q), if_neg (fun q => by rw [hb q.1] at q; cases q.2), if_neg he]
def con23 : Con := { ps := [.d false (.sl yOP)], rs := [.d false yI], pre := fun _ => True, out := fun (x : List Opn × Unit) => (valV x.1, ()), nw := id }
theorem c23 : CtrOk Tryz.prog 23 con23.ctr :=
 con_sound (G := ⟨[(52, con52.ctr), (58, con58.ctr)], [], [], [], []⟩) tab_ok (EnvOk.cons c52 has52 (EnvOk.cons c58 has58 EnvOk.nil)) rfl Tryz.func23 rfl con23 138512965437 (by kernel_rfl) (by decide) (by decide) rfl (by decide) rfl (by
  rintro ⟨(l : List Opn), _⟩ hpre hwf X hT hG hk hK
  (simp -implicitDefEqProofs only [go_sem, bP, con23, con52, con58, hT, hG, hk, hK, Tryz.results23] at hwf ⊢); (try simp (disch := decide +kernel) only [drawn, true_and, and_true])
  refine fun _ => ⟨fun h => ?_, fun h _ => ?_⟩
  · unfold valV; rw [if_pos (by omega)]
  · have hl : ¬ 360 < l.length := by omega
    refine evk_loop ⟨{ i : Nat // i ≤ l.length ∧ ∀ k, k < i → stepErr l k = 0 }, 1000, fun i => [(0, .one (.sl yOP l false)), (2, .one (.int .i64 0)), (3, .one (.ep 70 1 0 0)), (9, .one (.sl yOP l false)), (10, .one (.int .i64 l.length)), (11, .one (.int .i64 i.1))], fun i => [(70, .row 135 yI (lastA l i.1))], fun i => l.length - i.1⟩ ⟨0, by omega, fun k hk => by omega⟩ ?_ ?_
    · simp only [go_sem]; exact ⟨lastA_zero l, rfl⟩
    · rintro ⟨i, (hi : i ≤ l.length), (hz : ∀ k, k < i → stepErr l k = 0)⟩; have he := valV_err (i := i) hl hz
      (simp -implicitDefEqProofs only [go_sem, bP, con23, con52, con58, hT, hG, hk, hK, Tryz.results23]); (try simp (disch := decide +kernel) only [drawn, true_and, and_true])
      obtain ⟨o, ho⟩ : ∃ o, l.getD i o0 = o := ⟨_, rfl⟩; obtain ⟨p, hp⟩ : ∃ p, l.getD (i - 1) o0 = p := ⟨_, rfl⟩; have eo : l.getD (i : Int).toNat (0, 0, 0, 0, 0, (0, 0, 0), 0, 0) = o := ho; have ep : l.getD ((i : Int) - 1).toNat (0, 0, 0, 0, 0, (0, 0, 0), 0, 0) = p := by rw [show ((i : Int) - 1).toNat = i - 1 by omega]; exact hp
      rw [eo, ep]; simp only [lastA_len]; refine ⟨fun hlt => ⟨⟨by omega, by omega⟩, fun _ _ => ⟨fun h1 => ?_, fun h1 => ?_⟩⟩, fun hge => ?_⟩
      · have hs : stepErr l i = 1 := stepErr_1 (ho ▸ h1); rw [he (by omega) (by omega), hs]
      · have hbd := okOp_bd h1; refine ⟨fun _ => ⟨by omega, by omega⟩, fun _ => ⟨by omega, by omega⟩, fun _ _ => ⟨fun hb => ?_, fun hb => ?_⟩⟩
        · have hs : stepErr l i = 9 := stepErr_9 (ho ▸ h1) (by omega) (by rw [hp, ho]; exact hb.2); rw [he (by omega) (by omega), hs]
        · have hb' : 0 < i → bfV (l.getD (i - 1) o0) (l.getD i o0) = true := fun hi0 => by
           rw [hp, ho]
           rcases hb with hb | hb
           · omega
           · exact hb
          have hsp := lastU_spec (l := l) (i := i) (d := o.2.1) (s := o.2.2.1) hz (by omega); simp only [lastA_at l i (show 0 ≤ o.2.1 by omega) (show o.2.1 < 7 by omega)]; refine ⟨⟨by omega, by omega⟩, fun _ => ⟨⟨by omega, by omega⟩, fun _ => ⟨fun hle => ?_, fun hnl => ⟨⟨by omega, by omega⟩, fun _ => ⟨⟨by omega, by omega⟩, ⟨by omega, by omega⟩, ?_⟩⟩⟩⟩⟩
          · have hs : stepErr l i = 5 := stepErr_5 (ho ▸ h1) hb' (by rw [ho]; exact hsp.2 hle); rw [he (by omega) (by omega), hs]
          · have hs : stepErr l i = 0 := stepErr_0 (ho ▸ h1) hb' (by rw [ho]; exact fun q => hnl (hsp.1 q)); have hset := lastA_set l i (d := o.2.1) (by omega) (by omega) (by rw [ho]); rw [ho] at hset; refine fin_lp ⟨i + 1, by omega, fun k hk => ?_⟩ ?_ (by dsimp only; omega)
            · by_cases e : k = i
              · subst e; exact hs
              · exact hz k (by omega)
            · simp only [go_sem]; rw [hset]; exact ⟨rfl, by omega⟩
      · rw [valV_ok hl (fun k hk => hz k (by omega))])
end Go.Proofs.YtkjpbhkldioggaaGreat
