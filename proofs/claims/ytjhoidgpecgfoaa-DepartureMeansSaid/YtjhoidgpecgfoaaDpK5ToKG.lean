/- Operations: the reference's places. -/
import Derived.Test.YtjhoidgpecgfoaaDpK1ToK4
import Derived.Test.YtjhoidgpecgfoaaDpKOToKC
set_option linter.unusedSimpArgs false
set_option linter.unusedVariables false
set_option maxRecDepth 100000
set_option maxHeartbeats 8000000
namespace Go.Proofs.Ytjhoidgpecgfoaa
open Go.Ev

/-- A sorted list without repetitions. -/
theorem ddU_spec (xs : List Int) (hs : xs.Pairwise (· ≤ ·)) : ∀ i, i ≤ xs.length → (ddU xs i).Pairwise (fun a b => cmpV a b < 0) ∧ ∀ x, x ∈ ddU xs i ↔ x ∈ xs.take i
 | 0, _ => by simp [ddU]
 | i + 1, h => by
   obtain ⟨ih1, ih2⟩ := ddU_spec xs hs i (by omega)
   have hi : i < xs.length := by omega
   have g1 : xs.getD i 0 = xs[i] := by simp [hi]
   have ht : xs.take (i + 1) = xs.take i ++ [xs[i]] := List.take_succ_eq_append_getElem hi
   have hle : ∀ x ∈ xs.take i, x ≤ xs.getD (i - 1) 0 ∧ xs.getD (i - 1) 0 ∈ xs.take i := fun x hx => by
    obtain ⟨j, hj, rfl⟩ := List.getElem_of_mem hx
    have hj2 : j < i := by simp at hj; omega
    have g2 : xs.getD (i - 1) 0 = xs[i - 1] := by simp [show i - 1 < xs.length by omega]
    rw [g2, List.getElem_take]
    refine ⟨?_, ?_⟩
    · by_cases e : j = i - 1
      · subst e; exact Int.le_refl _
      · exact List.pairwise_iff_getElem.1 hs j (i - 1) (by omega) (by omega) (by omega)
    · have : (xs.take i)[i - 1]'(by simp; omega) = xs[i - 1] := List.getElem_take
      rw [← this]; exact List.getElem_mem _
   rw [ddU, ht, g1]
   split
   · rename_i e
     rw [List.append_nil]
     refine ⟨ih1, fun x => ?_⟩
     rw [ih2, List.mem_append]
     refine ⟨.inl, fun k => k.elim id fun k => ?_⟩
     have k : x = xs[i] := by simpa using k
     rw [k, e.2]
     have h0 : xs[0]'(by omega) ∈ xs.take i := by
      have : (xs.take i)[0]'(by simp; omega) = xs[0]'(by omega) := List.getElem_take
      rw [← this]; exact List.getElem_mem _
     exact (hle _ h0).2
   · rename_i e
     refine ⟨List.pairwise_append.2 ⟨ih1, by simp, fun x hx y hy => ?_⟩, fun x => by simp only [List.mem_append, ih2]⟩
     have hy : y = xs[i] := by simpa using hy
     subst hy
     have hx2 := (ih2 x).1 hx
     have h3 := hle x hx2
     have hi0 : i ≠ 0 := fun q => by subst q; simp at hx2
     have h4 : xs.getD (i - 1) 0 ≤ xs[i] := by
      have g2 : xs.getD (i - 1) 0 = xs[i - 1] := by simp [show i - 1 < xs.length by omega]
      rw [g2]
      exact List.pairwise_iff_getElem.1 hs (i - 1) i (by omega) (by omega) (by omega)
     have h5 : xs[i] ≠ xs.getD (i - 1) 0 := fun q => e ⟨hi0, q⟩
     rw [cmpV_lt]
     omega
theorem compV_spec (t : List Int) : (compV (sortI t)).Pairwise (fun a b => cmpV a b < 0) ∧ ∀ x, x ∈ compV (sortI t) ↔ x ∈ t := by
 obtain ⟨h1, h2⟩ := ddU_spec (sortI t) (sortI_sorted t) (sortI t).length (Nat.le_refl _)
 refine ⟨h1, fun x => ?_⟩
 unfold compV
 rw [h2, List.take_length]
 exact (sortI_perm t).mem_iff
/-- A placement, step by step. -/
def stepP (x : Plc) (o : Opn) : Plc := if o.2.2.2.1 = 2 then (o.2.2.2.2.2, 0, []) else (o.2.2.2.2.2, o.2.2.2.2.1, insC cmpV x.2.2 o.2.2.2.2.1)
def z0 : Plc := (((0, 0, 0), 0, 0), 0, [])
theorem trail_snoc (m : List Opn) (o : Opn) : trail (m ++ [o]) = if o.kind = 1 then o.box :: trail m else [] := by
 unfold trail
 rw [List.reverse_append, List.reverse_singleton, List.singleton_append, List.takeWhile_cons]
 by_cases h : o.kind = 1
 · simp [h]
 · simp [h]
theorem placeR_spec (m : List Opn) : (∀ o ∈ m, o.kind = 1 ∨ o.kind = 2) → ((m.foldl stepP z0).2.2.Pairwise (fun a b => cmpV a b < 0) ∧ (∀ x, x ∈ (m.foldl stepP z0).2.2 ↔ x ∈ trail m) ∧ (m ≠ [] → (m.foldl stepP z0).1 = (m.getD (m.length - 1) o0).2.2.2.2.2 ∧ (m.foldl stepP z0).2.1 = if (m.getD (m.length - 1) o0).kind = 1 then (m.getD (m.length - 1) o0).box else 0)) := by
 refine snoc_ind (P := fun m => (∀ o ∈ m, o.kind = 1 ∨ o.kind = 2) → ((m.foldl stepP z0).2.2.Pairwise (fun a b => cmpV a b < 0) ∧ (∀ x, x ∈ (m.foldl stepP z0).2.2 ↔ x ∈ trail m) ∧ (m ≠ [] → (m.foldl stepP z0).1 = (m.getD (m.length - 1) o0).2.2.2.2.2 ∧ (m.foldl stepP z0).2.1 = if (m.getD (m.length - 1) o0).kind = 1 then (m.getD (m.length - 1) o0).box else 0))) ?_ ?_ m
 · intro _
   exact ⟨by simp [z0], fun x => by simp [z0, trail], fun h => absurd rfl h⟩
 · intro m o ih hk
   obtain ⟨i1, i2, _⟩ := ih fun u hu => hk u (List.mem_append_left _ hu)
   have ho := hk o (by simp)
   have hl : (m ++ [o]).getD ((m ++ [o]).length - 1) o0 = o := by simp [List.getD_eq_getElem?_getD]
   rw [List.foldl_append, List.foldl_cons, List.foldl_nil, trail_snoc, hl]
   generalize m.foldl stepP z0 = x at i1 i2 ⊢
   have hko : o.kind = o.2.2.2.1 := rfl
   have hkb : o.box = o.2.2.2.2.1 := rfl
   unfold stepP
   rcases ho with e | e
   · rw [if_neg (by rw [← hko, e]; decide), if_pos e]
     refine ⟨insC_srt cmpV_cmp _ i1, fun y => ?_, fun _ => ⟨rfl, by rw [if_pos e]; rfl⟩⟩
     rw [insC_mem cmpV_cmp, i2, List.mem_cons]; rfl
   · rw [if_pos (by rw [← hko, e]), if_neg (by rw [e]; decide)]
     exact ⟨List.Pairwise.nil, fun y => Iff.rfl, fun _ => ⟨rfl, by rw [if_neg (by rw [e]; decide)]⟩⟩
theorem placeR_eq {m : List Opn} (hk : ∀ o ∈ m, o.kind = 1 ∨ o.kind = 2) (hm : m ≠ []) : m.foldl stepP z0 = placeV m := by
 obtain ⟨h1, h2, h3⟩ := placeR_spec m hk
 obtain ⟨h3, h4⟩ := h3 hm
 obtain ⟨c1, c2⟩ := compV_spec (trail m)
 unfold placeV
 refine Prod.ext h3 (Prod.ext h4 ?_)
 exact strict_ext (fun x y => Cmp.as cmpV_cmp x y) h1 c1 fun x => (h2 x).trans (c2 x).symm
theorem placeR_len (m : List Opn) : (m.foldl stepP z0).2.2.length ≤ m.length := by
 refine snoc_ind (P := fun m => (m.foldl stepP z0).2.2.length ≤ m.length) (by simp [z0]) (fun m o ih => ?_) m
 rw [List.foldl_append, List.foldl_cons, List.foldl_nil, List.length_append, List.length_singleton]
 generalize m.foldl stepP z0 = x at ih ⊢
 unfold stepP
 split
 · simp
 · have := insC_len (c := cmpV) o.2.2.2.2.1 x.2.2
   simp only
   omega
/-- The plates, inserted one after the other. -/
def platesR (l : List Opn) : List Plt := l.foldl (fun ks o => insC pltC ks o.plate) []
theorem platesR_snoc (l : List Opn) (o : Opn) : platesR (l ++ [o]) = insC pltC (platesR l) o.plate := by simp [platesR]
theorem platesR_spec (l : List Opn) : (platesR l).Pairwise (fun a b => pltC a b < 0) ∧ ∀ x, x ∈ platesR l ↔ ∃ o ∈ l, o.plate = x := by
 refine snoc_ind (P := fun l => (platesR l).Pairwise (fun a b => pltC a b < 0) ∧ ∀ x, x ∈ platesR l ↔ ∃ o ∈ l, o.plate = x) (by simp [platesR]) (fun l o ih => ?_) l
 rw [platesR_snoc]
 refine ⟨insC_srt pltC_cmp _ ih.1, fun x => ?_⟩
 rw [insC_mem pltC_cmp, ih.2]
 constructor
 · rintro (h | ⟨u, hu, e⟩)
   · exact ⟨o, by simp, h.symm⟩
   · exact ⟨u, List.mem_append_left _ hu, e⟩
 · rintro ⟨u, hu, e⟩
   rcases List.mem_append.1 hu with h | h
   · exact .inr ⟨u, h, e⟩
   · have : u = o := by simpa using h
     subst this; exact .inl e.symm
theorem platesR_len (l : List Opn) : (platesR l).length ≤ l.length := by
 refine snoc_ind (P := fun l => (platesR l).length ≤ l.length) (by simp [platesR]) (fun l o ih => ?_) l
 rw [platesR_snoc, List.length_append, List.length_singleton]
 have := insC_len (c := pltC) o.plate (platesR l)
 omega
theorem platesR_eq (l : List Opn) : platesR l = sortBy pltC (abK l) := by
 obtain ⟨h1, h2⟩ := platesR_spec l
 have hp := sortBy_perm pltC (abK l)
 have hn : (sortBy pltC (abK l)).Nodup := hp.nodup_iff.2 (abK_nodup l)
 have hs : (sortBy pltC (abK l)).Pairwise (fun a b => pltC a b < 0) := by
  have := (sortBy_sorted pltC_cmp (abK l)).and hn
  refine this.imp fun {a b} h => ?_
  have : pltC a b ≠ 0 := fun q => h.2 ((pltC_cmp.eq _ _).1 q)
  omega
 refine strict_ext (fun x y => Cmp.as pltC_cmp x y) h1 hs fun x => ?_
 rw [h2, hp.mem_iff, abK_mem]
theorem okOp_kind {o : Opn} (h : okOp o = true) : o.kind = 1 ∨ o.kind = 2 := by
 unfold okOp at h
 simp only [Bool.and_eq_true, Bool.or_eq_true, decide_eq_true_eq] at h
 exact h.1.1.2
/-- The places that the specification builds. -/
def placesR (l : List Opn) : List Plc := if valV l ≠ 0 then [] else (platesR l).map (fun p => (aboutP l p).foldl stepP z0)
theorem placesR_eq (l : List Opn) : placesR l = placesV l := by
 unfold placesR placesV
 by_cases h : valV l ≠ 0
 · rw [if_pos h, if_pos h]
 · rw [if_neg h, if_neg h, platesR_eq]
   refine List.map_congr_left fun p hp => ?_
   have ok := OkL.of (l := l) (by simpa using h)
   exact placeR_eq (fun o ho => okOp_kind (ok.ok o (List.mem_filter.1 ho).1)) (about_ne hp)
def con38 : Con := { ps := [.d false (.sl (.int .i64)), .d false (.int .i64)], rs := [.d false (.sl (.int .i64))], pre := fun (x : List Int × Int × Unit) => x.1.length ≤ 100000, out := fun (x : List Int × Int × Unit) => (insC cmpV x.1 x.2.1, ()), nw := id }
theorem c38 : CtrOk Try.prog 38 con38.ctr :=
 con_sound (G := ⟨[], [], [], []⟩) tab_ok EnvOk.nil rfl Try.func38 rfl con38 4295229555 (by kernel_rfl) (by decide) (by decide) rfl (by decide) rfl (by
  rintro ⟨(l : List Int), (n : Int), _⟩ hpre hwf X hT hG hk hK
  (simp -implicitDefEqProofs only [go_sem, Prod.eta, Option.isSome_none, Option.isSome_some, Int.toNat_zero, Nat.reduceAdd, Nat.reduceMul, Nat.reduceSub, Nat.reduceEqDiff, Nat.reduceLT, Nat.reduceLeDiff, Nat.reduceShiftRight, Nat.reduceMod, Nat.reduceBEq, reduceCtorEq, reduceIte, reduceDIte, Int.reduceNeg, Bool.not_eq_true', Bool.not_eq_false', Bool.or_eq_true, Bool.or_eq_false_iff, Bool.and_eq_true, Bool.and_eq_false_iff, decide_eq_true_eq, decide_eq_false_iff_not, Classical.not_not, not_or, maxLen, con38, hT, hG, hk, hK, Try.results38] at hwf ⊢); (try simp (disch := decide +kernel) only [drawn, true_and, and_true])
  have h1 : l.length ≤ 100000 := hpre
  refine evk_loop ⟨{ k : Nat // k ≤ l.length ∧ ∀ j, j < k → l.getD j 0 < n }, 1000, fun q => [(0, .one (.sl (.int .i64) l false)), (1, .one (.int .i64 n)), (5, .one (.int .i64 q.1))], fun q => [], fun q => l.length - q.1⟩ ⟨0, by omega, fun j hj => by omega⟩ ?_ ?_
  · simp only [go_sem, Prod.eta, Option.isSome_none, Option.isSome_some, Int.toNat_zero, Nat.reduceAdd, Nat.reduceMul, Nat.reduceSub, Nat.reduceEqDiff, Nat.reduceLT, Nat.reduceLeDiff, Nat.reduceShiftRight, Nat.reduceMod, Nat.reduceBEq, reduceCtorEq, reduceIte, reduceDIte, Int.reduceNeg]
    try (first | rfl | exact ⟨rfl, rfl⟩)
  · rintro ⟨k, (hkl : k ≤ l.length), (hlt : ∀ j, j < k → l.getD j 0 < n)⟩
    (simp -implicitDefEqProofs only [go_sem, Prod.eta, Option.isSome_none, Option.isSome_some, Int.toNat_zero, Nat.reduceAdd, Nat.reduceMul, Nat.reduceSub, Nat.reduceEqDiff, Nat.reduceLT, Nat.reduceLeDiff, Nat.reduceShiftRight, Nat.reduceMod, Nat.reduceBEq, reduceCtorEq, reduceIte, reduceDIte, Int.reduceNeg, Bool.not_eq_true', Bool.not_eq_false', Bool.or_eq_true, Bool.or_eq_false_iff, Bool.and_eq_true, Bool.and_eq_false_iff, decide_eq_true_eq, decide_eq_false_iff_not, Classical.not_not, not_or, maxLen, con38, hT, hG, hk, hK, Try.results38]); (try simp (disch := decide +kernel) only [drawn, true_and, and_true])
    have e4 : (k : Int).toNat = k := by omega
    simp only [e4]
    obtain ⟨v, hv⟩ : ∃ v, l.getD k 0 = v := ⟨_, rfl⟩
    have hat := insC_at (c := cmpV) n 0 hkl (fun j hj => (cmpV_lt _ _).2 (hlt j hj))
    simp only [cmpV_lt, cmpV_eq, hv] at hat ⊢
    refine fun _ => ⟨by omega, fun _ _ => ⟨fun hc => ⟨by omega, ?_⟩, fun hc _ => ⟨by omega, fun _ _ => ⟨fun he => ?_, fun he => ?_⟩⟩⟩⟩
    · refine fin_lp ⟨k + 1, by omega, fun j hj => ?_⟩ ?_ (by dsimp only; omega)
      · by_cases e : j = k
        · subst e; omega
        · exact hlt j (by omega)
      · simp only [go_sem, Prod.eta, Option.isSome_none, Option.isSome_some, Int.toNat_zero, Nat.reduceAdd, Nat.reduceMul, Nat.reduceSub, Nat.reduceEqDiff, Nat.reduceLT, Nat.reduceLeDiff, Nat.reduceShiftRight, Nat.reduceMod, Nat.reduceBEq, reduceCtorEq, reduceIte, reduceDIte, Int.reduceNeg]
        try (first | rfl | exact ⟨rfl, rfl⟩ | (and_intros <;> first | rfl | omega))
    · rw [hat (by omega), if_pos ⟨by omega, he.2⟩]
    · rw [hat (by omega), if_neg (by omega)]
      simp only [Int.toNat_natCast, List.take_length, List.append_assoc, List.singleton_append, List.length_append, List.length_take, List.length_drop, List.length_singleton]
      and_intros <;> first | omega | trivial | rfl)
def con23 : Con := { ps := [.d false (.sl yOP)], rs := [.d false (.sl yPL)], pre := fun (x : List Opn × Unit) => x.1.length ≤ 100000, out := fun (x : List Opn × Unit) => (platesR x.1, ()), nw := id }
theorem c23 : CtrOk Try.prog 23 con23.ctr :=
 con_sound (G := ⟨[(37, con37.ctr)], [], [(53, 1), (56, 1)], []⟩) tab_ok (EnvOk.cons c37 has37 EnvOk.nil) rfl Try.func23 rfl con23 35186519573629 (by kernel_rfl) (by decide) (by decide) rfl (by decide) rfl (by
  rintro ⟨(l : List Opn), _⟩ hpre hwf X hT hG hk hK
  (simp -implicitDefEqProofs only [go_sem, Prod.eta, Option.isSome_none, Option.isSome_some, Int.toNat_zero, Nat.reduceAdd, Nat.reduceMul, Nat.reduceSub, Nat.reduceEqDiff, Nat.reduceLT, Nat.reduceLeDiff, Nat.reduceShiftRight, Nat.reduceMod, Nat.reduceBEq, reduceCtorEq, reduceIte, reduceDIte, Int.reduceNeg, Bool.not_eq_true', Bool.not_eq_false', Bool.or_eq_true, Bool.or_eq_false_iff, Bool.and_eq_true, Bool.and_eq_false_iff, decide_eq_true_eq, decide_eq_false_iff_not, Classical.not_not, not_or, maxLen, con23, con37, hT, hG, hk, hK, Try.results23] at hwf ⊢); (try simp (disch := decide +kernel) only [drawn, true_and, and_true])
  have h1 : l.length ≤ 100000 := hpre
  refine evk_loop ⟨{ i : Nat // i ≤ l.length }, 1000, fun q => [(0, .one (.sl yOP l false)), (3, .one (.row 64)), (4, .one (.int .i64 q.1))], fun q => [(64, .row 35 yPL (platesR (l.take q.1)))], fun q => l.length - q.1⟩ ⟨0, by omega⟩ ?_ ?_
  · simp only [go_sem, Prod.eta, Option.isSome_none, Option.isSome_some, Int.toNat_zero, Nat.reduceAdd, Nat.reduceMul, Nat.reduceSub, Nat.reduceEqDiff, Nat.reduceLT, Nat.reduceLeDiff, Nat.reduceShiftRight, Nat.reduceMod, Nat.reduceBEq, reduceCtorEq, reduceIte, reduceDIte, Int.reduceNeg]
    try (first | rfl | exact ⟨rfl, rfl⟩)
  · rintro ⟨i, (hi : i ≤ l.length)⟩
    (simp -implicitDefEqProofs only [go_sem, Prod.eta, Option.isSome_none, Option.isSome_some, Int.toNat_zero, Nat.reduceAdd, Nat.reduceMul, Nat.reduceSub, Nat.reduceEqDiff, Nat.reduceLT, Nat.reduceLeDiff, Nat.reduceShiftRight, Nat.reduceMod, Nat.reduceBEq, reduceCtorEq, reduceIte, reduceDIte, Int.reduceNeg, Bool.not_eq_true', Bool.not_eq_false', Bool.or_eq_true, Bool.or_eq_false_iff, Bool.and_eq_true, Bool.and_eq_false_iff, decide_eq_true_eq, decide_eq_false_iff_not, Classical.not_not, not_or, maxLen, con23, con37, hT, hG, hk, hK, Try.results23]); (try simp (disch := decide +kernel) only [drawn, true_and, and_true])
    have hlen := platesR_len (l.take i)
    have hlt : (l.take i).length ≤ i := by simp; omega
    refine fun _ => ⟨fun hc => ?_, fun hc => ?_⟩
    · have hil : i < l.length := by omega
      obtain ⟨o, ho⟩ : ∃ o, l[i] = o := ⟨_, rfl⟩
      have eo : l.getD (i : Int).toNat (0, 0, 0, 0, 0, (0, 0, 0), 0, 0) = o := by rw [← ho]; simp [hil]
      have hts : platesR (l.take (i + 1)) = insC pltC (platesR (l.take i)) o.plate := by rw [List.take_succ_eq_append_getElem hil, ho, platesR_snoc]
      rw [eo]
      generalize platesR (l.take i) = ks at hlen hts ⊢
      refine ⟨by omega, fun _ _ => ?_⟩
      refine evk_loop ⟨{ k : Nat // k ≤ ks.length ∧ ∀ j, j < k → pltC (ks.getD j (0, 0, 0)) o.plate < 0 }, 1000, fun q => [(0, .one (.sl yOP l false)), (3, .one (.row 64)), (4, .one (.int .i64 i)), (5, .one (.loc 71 0)), (6, .one (.int .i64 q.1))], fun q => [(64, .row 35 yPL ks), (71, .cells 35 [.int .i64 o.2.2.2.2.2.1.1, .int .i64 o.2.2.2.2.2.1.2.1, .int .i64 o.2.2.2.2.2.1.2.2])], fun q => ks.length - q.1⟩ ⟨0, by omega, fun j hj => by omega⟩ ?_ ?_
      · simp only [go_sem, Prod.eta, Option.isSome_none, Option.isSome_some, Int.toNat_zero, Nat.reduceAdd, Nat.reduceMul, Nat.reduceSub, Nat.reduceEqDiff, Nat.reduceLT, Nat.reduceLeDiff, Nat.reduceShiftRight, Nat.reduceMod, Nat.reduceBEq, reduceCtorEq, reduceIte, reduceDIte, Int.reduceNeg]
        try (first | rfl | exact ⟨rfl, rfl⟩)
      · rintro ⟨k, (hkl : k ≤ ks.length), (hlt : ∀ j, j < k → pltC (ks.getD j (0, 0, 0)) o.plate < 0)⟩
        (simp -implicitDefEqProofs only [go_sem, Prod.eta, Option.isSome_none, Option.isSome_some, Int.toNat_zero, Nat.reduceAdd, Nat.reduceMul, Nat.reduceSub, Nat.reduceEqDiff, Nat.reduceLT, Nat.reduceLeDiff, Nat.reduceShiftRight, Nat.reduceMod, Nat.reduceBEq, reduceCtorEq, reduceIte, reduceDIte, Int.reduceNeg, Bool.not_eq_true', Bool.not_eq_false', Bool.or_eq_true, Bool.or_eq_false_iff, Bool.and_eq_true, Bool.and_eq_false_iff, decide_eq_true_eq, decide_eq_false_iff_not, Classical.not_not, not_or, maxLen, con23, con37, hT, hG, hk, hK, Try.results23]); (try simp (disch := decide +kernel) only [drawn, true_and, and_true])
        have e4 : (k : Int).toNat = k := by omega
        obtain ⟨v, hv⟩ : ∃ v, ks.getD k (0, 0, 0) = v := ⟨_, rfl⟩
        have hat := insC_at (c := pltC) o.plate (0, 0, 0) hkl hlt
        have hpl : o.plate = o.2.2.2.2.2.1 := rfl
        simp only [e4, hv] at hat ⊢
        refine fun _ => ⟨by omega, fun _ => ⟨by omega, fun _ _ => ⟨fun hc => ⟨by omega, ?_⟩, fun hc => ?_⟩⟩⟩
        · refine fin_lp ⟨k + 1, by omega, fun j hj => ?_⟩ ?_ (by dsimp only; omega)
          · by_cases e : j = k
            · subst e; rw [hv]; exact hc.2
            · exact hlt j (by omega)
          · simp only [go_sem, Prod.eta, Option.isSome_none, Option.isSome_some, Int.toNat_zero, Nat.reduceAdd, Nat.reduceMul, Nat.reduceSub, Nat.reduceEqDiff, Nat.reduceLT, Nat.reduceLeDiff, Nat.reduceShiftRight, Nat.reduceMod, Nat.reduceBEq, reduceCtorEq, reduceIte, reduceDIte, Int.reduceNeg]
            try (first | rfl | exact ⟨rfl, rfl⟩ | (and_intros <;> first | rfl | omega))
        · have hat := hat (fun h q => by rw [hpl] at q; omega)
          simp only [pltC_cmp.eq] at hat
          have hlks : ks.length ≤ 100000 := by omega
          refine fun _ => ⟨by omega, fun _ => ⟨by omega, fun _ => ⟨fun hc2 => ⟨by omega, ?_⟩, fun hc2 => ?_⟩⟩⟩
          · have hvo : v = o.plate := Prod.ext hc2.2.1 (Prod.ext hc2.2.2.1 hc2.2.2.2)
            rw [if_pos ⟨by omega, hvo⟩] at hat
            rw [hat] at hts
            refine fin_lp ⟨i + 1, by omega⟩ ?_ (by dsimp only; omega)
            simp only [go_sem, Prod.eta, Option.isSome_none, Option.isSome_some, Int.toNat_zero, Nat.reduceAdd, Nat.reduceMul, Nat.reduceSub, Nat.reduceEqDiff, Nat.reduceLT, Nat.reduceLeDiff, Nat.reduceShiftRight, Nat.reduceMod, Nat.reduceBEq, reduceCtorEq, reduceIte, reduceDIte, Int.reduceNeg]
            rw [hts]
            try (first | rfl | exact ⟨rfl, rfl⟩ | (and_intros <;> first | rfl | omega))
          · have hvo : ¬ (k < ks.length ∧ v = o.plate) := fun q => by
             have q2 := q.2
             subst q2
             rcases hc2 with h | h | h | h
             · omega
             · exact h rfl
             · exact h rfl
             · exact h rfl
            rw [if_neg hvo] at hat
            rw [hat] at hts
            have ll : (ks ++ [((0, 0, 0) : Plt)]).length = ks.length + 1 := by simp
            have e1 : ((k : Int) + 1).toNat = k + 1 := by omega
            have e2 : ((ks.length + 1 : Nat) - ((k : Int) + 1)).toNat = ks.length - k := by omega
            have e3 : ((ks.length + 1 : Nat) - (k : Int)).toNat = ks.length + 1 - k := by omega
            have w1 : (k + 1) + (ks.length - k) ≤ ks.length + 1 := by omega
            have w2 : k + (ks.length + 1 - k) ≤ ks.length + 1 := by omega
            simp only [ll, e1, e2, e3, e4]
            refine ⟨by omega, by omega, by omega, by omega, ?_⟩
            (simp -implicitDefEqProofs only [go_sem, Prod.eta, Option.isSome_none, Option.isSome_some, Int.toNat_zero, Nat.reduceAdd, Nat.reduceMul, Nat.reduceSub, Nat.reduceEqDiff, Nat.reduceLT, Nat.reduceLeDiff, Nat.reduceShiftRight, Nat.reduceMod, Nat.reduceBEq, reduceCtorEq, reduceIte, reduceDIte, Int.reduceNeg, Bool.not_eq_true', Bool.not_eq_false', Bool.or_eq_true, Bool.or_eq_false_iff, Bool.and_eq_true, Bool.and_eq_false_iff, decide_eq_true_eq, decide_eq_false_iff_not, Classical.not_not, not_or, maxLen, con23, con37, hT, hG, hk, hK, Try.results23, w1, w2, ll]); (try simp (disch := decide +kernel) only [drawn, true_and, and_true])
            obtain ⟨i1, i2⟩ := ins_shiftG ks ((0, 0, 0) : Plt) (o.2.2.2.2.2.1.1, o.2.2.2.2.2.1.2.1, o.2.2.2.2.2.1.2.2) k hkl
            try rw [e4]
            rw [i1, i2]
            refine ⟨by omega, fun _ => ⟨by omega, by omega, ?_⟩⟩
            refine fin_lp ⟨i + 1, by omega⟩ ?_ (by dsimp only; omega)
            simp only [go_sem, Prod.eta, Option.isSome_none, Option.isSome_some, Int.toNat_zero, Nat.reduceAdd, Nat.reduceMul, Nat.reduceSub, Nat.reduceEqDiff, Nat.reduceLT, Nat.reduceLeDiff, Nat.reduceShiftRight, Nat.reduceMod, Nat.reduceBEq, reduceCtorEq, reduceIte, reduceDIte, Int.reduceNeg]
            rw [hts]
            try (first | rfl | exact ⟨rfl, rfl⟩ | (and_intros <;> first | rfl | omega))
    · rw [List.take_of_length_le (by omega)])
theorem aboutP_succ {l : List Opn} {p : Plt} {i : Nat} {o : Opn} (h : i < l.length) (ho : l[i] = o) : (aboutP (l.take (i + 1)) p).foldl stepP z0 = if o.plate = p then stepP ((aboutP (l.take i) p).foldl stepP z0) o else (aboutP (l.take i) p).foldl stepP z0 := by
 rw [List.take_succ_eq_append_getElem h, ho]
 unfold aboutP
 rw [List.filter_append, List.foldl_append]
 by_cases e : o.plate = p <;> simp [e]
def con24 : Con := { ps := [.d false (.sl yOP), .d true yPL], rs := [.d true yPM], pre := fun (x : List Opn × Plt × Unit) => x.1.length ≤ 100000, out := fun (x : List Opn × Plt × Unit) => ((aboutP x.1 x.2.1).foldl stepP z0, ()), nw := id }
theorem c24 : CtrOk Try.prog 24 con24.ctr :=
 con_sound (G := ⟨[(38, con38.ctr)], [], [], []⟩) tab_ok (EnvOk.cons c38 has38 EnvOk.nil) rfl Try.func24 rfl con24 8590984315 (by kernel_rfl) (by decide) (by decide) rfl (by decide) rfl (by
  rintro ⟨(l : List Opn), ⟨(p1 : Int), (p2 : Int), (p3 : Int)⟩, _⟩ hpre hwf X hT hG hk hK
  (simp -implicitDefEqProofs only [go_sem, Prod.eta, Option.isSome_none, Option.isSome_some, Int.toNat_zero, Nat.reduceAdd, Nat.reduceMul, Nat.reduceSub, Nat.reduceEqDiff, Nat.reduceLT, Nat.reduceLeDiff, Nat.reduceShiftRight, Nat.reduceMod, Nat.reduceBEq, reduceCtorEq, reduceIte, reduceDIte, Int.reduceNeg, Bool.not_eq_true', Bool.not_eq_false', Bool.or_eq_true, Bool.or_eq_false_iff, Bool.and_eq_true, Bool.and_eq_false_iff, decide_eq_true_eq, decide_eq_false_iff_not, Classical.not_not, not_or, maxLen, con24, con38, hT, hG, hk, hK, Try.results24] at hwf ⊢); (try simp (disch := decide +kernel) only [drawn, true_and, and_true])
  have h1 : l.length ≤ 100000 := hpre
  obtain ⟨V, hV⟩ : ∃ V : Nat → Plc, V = fun i => (aboutP (l.take i) (p1, p2, p3)).foldl stepP z0 := ⟨_, rfl⟩
  have hVl : ∀ i, i ≤ l.length → (V i).2.2.length ≤ i := fun i hi => by
   rw [hV]
   refine Nat.le_trans (placeR_len _) (Nat.le_trans (about_len _ _) ?_)
   simp; omega
  have hV0 : V 0 = z0 := by rw [hV]; rfl
  refine evk_loop ⟨{ i : Nat // i ≤ l.length }, 1000, fun q => [(0, .one (.sl yOP l false)), (3, .one (.loc 70 0)), (4, .one (.loc 71 0)), (5, .one (.loc 72 0)), (6, .one (.int .i64 q.1))], fun q => [(70, .cells 35 [.int .i64 p1, .int .i64 p2, .int .i64 p3]), (71, .cells 60 [.undef, .undef, .undef, .undef, .undef, .undef, .undef]), (72, .cells 60 [.int .i64 (V q.1).1.1.1, .int .i64 (V q.1).1.1.2.1, .int .i64 (V q.1).1.1.2.2, .int .i64 (V q.1).1.2.1, .int .i64 (V q.1).1.2.2, .int .i64 (V q.1).2.1, .sl (.int .i64) (V q.1).2.2 false])], fun q => l.length - q.1⟩ ⟨0, by omega⟩ ?_ ?_
  · simp only [go_sem, Prod.eta, Option.isSome_none, Option.isSome_some, Int.toNat_zero, Nat.reduceAdd, Nat.reduceMul, Nat.reduceSub, Nat.reduceEqDiff, Nat.reduceLT, Nat.reduceLeDiff, Nat.reduceShiftRight, Nat.reduceMod, Nat.reduceBEq, reduceCtorEq, reduceIte, reduceDIte, Int.reduceNeg]
    simp only [hV0, z0]
    try (first | rfl | exact ⟨rfl, rfl⟩ | (and_intros <;> first | trivial | rfl))
  · rintro ⟨i, (hi : i ≤ l.length)⟩
    (simp -implicitDefEqProofs only [go_sem, Prod.eta, Option.isSome_none, Option.isSome_some, Int.toNat_zero, Nat.reduceAdd, Nat.reduceMul, Nat.reduceSub, Nat.reduceEqDiff, Nat.reduceLT, Nat.reduceLeDiff, Nat.reduceShiftRight, Nat.reduceMod, Nat.reduceBEq, reduceCtorEq, reduceIte, reduceDIte, Int.reduceNeg, Bool.not_eq_true', Bool.not_eq_false', Bool.or_eq_true, Bool.or_eq_false_iff, Bool.and_eq_true, Bool.and_eq_false_iff, decide_eq_true_eq, decide_eq_false_iff_not, Classical.not_not, not_or, maxLen, con24, con38, hT, hG, hk, hK, Try.results24]); (try simp (disch := decide +kernel) only [drawn, true_and, and_true])
    refine fun _ => ⟨fun hc => ?_, fun hc => ?_⟩
    · have hil : i < l.length := by omega
      obtain ⟨o, ho⟩ : ∃ o, l[i] = o := ⟨_, rfl⟩
      have eo : l.getD (i : Int).toNat (0, 0, 0, 0, 0, (0, 0, 0), 0, 0) = o := by rw [← ho]; simp [hil]
      have hst : V (i + 1) = if o.plate = (p1, p2, p3) then stepP (V i) o else V i := by rw [hV]; exact aboutP_succ hil ho
      have hli := hVl i (by omega)
      rw [eo]
      have hA : (¬o.2.2.2.2.2.1.1 = p1 ∨ ¬o.2.2.2.2.2.1.2.1 = p2 ∨ ¬o.2.2.2.2.2.1.2.2 = p3) → V (i + 1) = V i := fun q => by
       rw [hst, if_neg]
       intro e
       have e1 : o.2.2.2.2.2.1 = (p1, p2, p3) := e
       rw [e1] at q
       simp at q
      have hP : (o.2.2.2.2.2.1.1 = p1 ∧ o.2.2.2.2.2.1.2.1 = p2 ∧ o.2.2.2.2.2.1.2.2 = p3) → o.plate = (p1, p2, p3) := fun q => Prod.ext q.1 (Prod.ext q.2.1 q.2.2)
      have hB : (o.2.2.2.2.2.1.1 = p1 ∧ o.2.2.2.2.2.1.2.1 = p2 ∧ o.2.2.2.2.2.1.2.2 = p3) → o.2.2.2.1 = 2 → V (i + 1) = (o.2.2.2.2.2, 0, []) := fun q h => by
       rw [hst, if_pos (hP q), stepP, if_pos h]
      have hC : (o.2.2.2.2.2.1.1 = p1 ∧ o.2.2.2.2.2.1.2.1 = p2 ∧ o.2.2.2.2.2.1.2.2 = p3) → ¬ o.2.2.2.1 = 2 → V (i + 1) = (o.2.2.2.2.2, o.2.2.2.2.1, insC cmpV (V i).2.2 o.2.2.2.2.1) := fun q h => by
       rw [hst, if_pos (hP q), stepP, if_neg h]
      clear hst hP
      (repeat' (with_reducible (first | refine And.intro ?_ ?_ | intro _))) <;> (try (first | with_reducible (first | done | assumption | omega | contradiction) | decide))
      · have e := hA (by assumption)
        refine fin_lp ⟨i + 1, by omega⟩ ?_ (by dsimp only; omega)
        simp only [go_sem, Prod.eta, Option.isSome_none, Option.isSome_some, Int.toNat_zero, Nat.reduceAdd, Nat.reduceMul, Nat.reduceSub, Nat.reduceEqDiff, Nat.reduceLT, Nat.reduceLeDiff, Nat.reduceShiftRight, Nat.reduceMod, Nat.reduceBEq, reduceCtorEq, reduceIte, reduceDIte, Int.reduceNeg]
        simp only [e]
        try (first | rfl | exact ⟨rfl, rfl⟩ | (and_intros <;> first | trivial | rfl | omega))
      · have e := hB (by first | assumption | (and_intros <;> assumption)) (by assumption)
        refine fin_lp ⟨i + 1, by omega⟩ ?_ (by dsimp only; omega)
        simp only [go_sem, Prod.eta, Option.isSome_none, Option.isSome_some, Int.toNat_zero, Nat.reduceAdd, Nat.reduceMul, Nat.reduceSub, Nat.reduceEqDiff, Nat.reduceLT, Nat.reduceLeDiff, Nat.reduceShiftRight, Nat.reduceMod, Nat.reduceBEq, reduceCtorEq, reduceIte, reduceDIte, Int.reduceNeg]
        simp only [e]
        try (first | rfl | exact ⟨rfl, rfl⟩ | (and_intros <;> first | trivial | rfl | omega))
      · have e := hC (by first | assumption | (and_intros <;> assumption)) (by assumption)
        refine fin_lp ⟨i + 1, by omega⟩ ?_ (by dsimp only; omega)
        simp only [go_sem, Prod.eta, Option.isSome_none, Option.isSome_some, Int.toNat_zero, Nat.reduceAdd, Nat.reduceMul, Nat.reduceSub, Nat.reduceEqDiff, Nat.reduceLT, Nat.reduceLeDiff, Nat.reduceShiftRight, Nat.reduceMod, Nat.reduceBEq, reduceCtorEq, reduceIte, reduceDIte, Int.reduceNeg]
        simp only [e]
        try (first | rfl | exact ⟨rfl, rfl⟩ | (and_intros <;> first | trivial | rfl | omega))
    · have e : V i = (aboutP l (p1, p2, p3)).foldl stepP z0 := by rw [hV]; dsimp only; rw [List.take_of_length_le (by omega)]
      rw [← e]
      try (first | rfl | exact ⟨rfl, rfl⟩ | (and_intros <;> first | trivial | rfl | omega)))
def con9 : Con := { ps := [.d false (.sl yOP)], rs := [.d false (.sl yPM)], pre := fun _ => True, out := fun (x : List Opn × Unit) => (placesV x.1, ()), nw := id }
theorem c9 : CtrOk Try.prog 9 con9.ctr :=
 con_sound (G := ⟨[(22, con22.ctr), (23, con23.ctr), (24, con24.ctr)], [], [], []⟩) tab_ok (EnvOk.cons c22 has22 (EnvOk.cons c23 has23 (EnvOk.cons c24 has24 EnvOk.nil))) rfl Try.func9 rfl con9 16701 (by kernel_rfl) (by decide) (by decide) rfl (by decide) rfl (by
  rintro ⟨(l : List Opn), _⟩ hpre hwf X hT hG hk hK
  (simp -implicitDefEqProofs only [go_sem, Prod.eta, Option.isSome_none, Option.isSome_some, Int.toNat_zero, Nat.reduceAdd, Nat.reduceMul, Nat.reduceSub, Nat.reduceEqDiff, Nat.reduceLT, Nat.reduceLeDiff, Nat.reduceShiftRight, Nat.reduceMod, Nat.reduceBEq, reduceCtorEq, reduceIte, reduceDIte, Int.reduceNeg, Bool.not_eq_true', Bool.not_eq_false', Bool.or_eq_true, Bool.or_eq_false_iff, Bool.and_eq_true, Bool.and_eq_false_iff, decide_eq_true_eq, decide_eq_false_iff_not, Classical.not_not, not_or, maxLen, con9, con22, con23, con24, hT, hG, hk, hK, Try.results9] at hwf ⊢); (try simp (disch := decide +kernel) only [drawn, true_and, and_true])
  rw [← placesR_eq]
  refine fun _ => ⟨fun h => ?_, fun h => ?_⟩
  · unfold placesR; rw [if_pos h]
  · obtain ⟨hl, _⟩ := valV_zero h
    have hpl := platesR_len l
    refine ⟨by omega, fun _ => ?_⟩
    refine evk_loop ⟨{ i : Nat // i ≤ (platesR l).length }, 1000, fun q => [(0, .one (.sl yOP l false)), (3, .one (.row 64)), (4, .one (.sl yPL (platesR l) false)), (5, .one (.int .i64 q.1))], fun q => [(64, .row 60 yPM (((platesR l).take q.1).map (fun p => (aboutP l p).foldl stepP z0)))], fun q => (platesR l).length - q.1⟩ ⟨0, by omega⟩ ?_ ?_
    · simp only [go_sem, Prod.eta, Option.isSome_none, Option.isSome_some, Int.toNat_zero, Nat.reduceAdd, Nat.reduceMul, Nat.reduceSub, Nat.reduceEqDiff, Nat.reduceLT, Nat.reduceLeDiff, Nat.reduceShiftRight, Nat.reduceMod, Nat.reduceBEq, reduceCtorEq, reduceIte, reduceDIte, Int.reduceNeg]
      try (first | rfl | exact ⟨rfl, rfl⟩)
    · rintro ⟨i, (hi : i ≤ (platesR l).length)⟩
      (simp -implicitDefEqProofs only [go_sem, Prod.eta, Option.isSome_none, Option.isSome_some, Int.toNat_zero, Nat.reduceAdd, Nat.reduceMul, Nat.reduceSub, Nat.reduceEqDiff, Nat.reduceLT, Nat.reduceLeDiff, Nat.reduceShiftRight, Nat.reduceMod, Nat.reduceBEq, reduceCtorEq, reduceIte, reduceDIte, Int.reduceNeg, Bool.not_eq_true', Bool.not_eq_false', Bool.or_eq_true, Bool.or_eq_false_iff, Bool.and_eq_true, Bool.and_eq_false_iff, decide_eq_true_eq, decide_eq_false_iff_not, Classical.not_not, not_or, maxLen, con9, con22, con23, con24, hT, hG, hk, hK, Try.results9]); (try simp (disch := decide +kernel) only [drawn, true_and, and_true])
      refine fun _ => ⟨fun hc => ?_, fun hc => ?_⟩
      · have hil : i < (platesR l).length := by omega
        obtain ⟨p, hp⟩ : ∃ p, (platesR l)[i] = p := ⟨_, rfl⟩
        have ep : (platesR l).getD (i : Int).toNat (0, 0, 0) = p := by rw [← hp]; simp [hil]
        have hst : ((platesR l).take (i + 1)).map (fun p => (aboutP l p).foldl stepP z0) = ((platesR l).take i).map (fun p => (aboutP l p).foldl stepP z0) ++ [(aboutP l p).foldl stepP z0] := by
         rw [List.take_succ_eq_append_getElem hil, List.map_append, hp]; rfl
        have hml : (((platesR l).take i).map (fun p => (aboutP l p).foldl stepP z0)).length ≤ 360 := by simp; omega
        rw [ep]
        (repeat' (with_reducible (first | refine And.intro ?_ ?_ | intro _))) <;> (try (first | with_reducible (first | done | assumption | omega | contradiction) | decide))
        refine fin_lp ⟨i + 1, by omega⟩ ?_ (by dsimp only; omega)
        simp only [go_sem, Prod.eta, Option.isSome_none, Option.isSome_some, Int.toNat_zero, Nat.reduceAdd, Nat.reduceMul, Nat.reduceSub, Nat.reduceEqDiff, Nat.reduceLT, Nat.reduceLeDiff, Nat.reduceShiftRight, Nat.reduceMod, Nat.reduceBEq, reduceCtorEq, reduceIte, reduceDIte, Int.reduceNeg]
        rw [hst]
        try (first | rfl | exact ⟨rfl, rfl⟩ | (and_intros <;> first | trivial | rfl | omega))
      · rw [← placesR_eq]
        unfold placesR
        rw [if_neg (by simp [h]), List.take_of_length_le (by omega)])
end Go.Proofs.Ytjhoidgpecgfoaa

/- Containers: lists of them, continued. -/
set_option linter.unusedSimpArgs false
set_option linter.unusedVariables false
set_option maxRecDepth 100000
set_option maxHeartbeats 4000000
namespace Go.Proofs.Ytjhoidgpecgfoaa
open Go.Ev

instance kdPlt : DecidableEq Plt := instDecidableEqProd
instance kdPce : DecidableEq Pce := instDecidableEqProd
instance kdF1 : DecidableEq (ByteArray × Int) := instDecidableEqProd
instance kdF2 : DecidableEq (Int × ByteArray × Int) := instDecidableEqProd
instance kdFlt : DecidableEq Flt := instDecidableEqProd
instance kdC1 : DecidableEq (Int × List Pce) := instDecidableEqProd
instance kdC2 : DecidableEq (Int × Int × List Pce) := instDecidableEqProd
instance kdC3 : DecidableEq (Int × Int × Int × List Pce) := instDecidableEqProd
instance kdC4 : DecidableEq (Int × Int × Int × Int × List Pce) := instDecidableEqProd
instance kdC5 : DecidableEq (Int × Int × Int × Int × Int × List Pce) := instDecidableEqProd
instance kdC6 : DecidableEq (Flt × Int × Int × Int × Int × Int × List Pce) := instDecidableEqProd
instance kdCnt : DecidableEq Cnt := instDecidableEqProd
end Go.Proofs.Ytjhoidgpecgfoaa

/- Valid containers, in plain words. -/
set_option linter.unusedSimpArgs false
set_option linter.unusedVariables false
set_option maxRecDepth 100000
set_option maxHeartbeats 4000000
namespace Go.Proofs.Ytjhoidgpecgfoaa
open Go.Ev

theorem pw_getD {α : Type} {R : α → α → Prop} (d : α) {l : List α} : l.Pairwise R ↔ ∀ i j, i < j → j < l.length → R (l.getD i d) (l.getD j d) := by
 rw [List.pairwise_iff_getElem]
 constructor
 · intro h i j hij hj
   have := h i j (by omega) hj hij
   simpa [List.getD_eq_getElem?_getD, hj, (by omega : i < l.length)] using this
 · intro h i j hi hj hij
   have := h i j hij hj
   simpa [List.getD_eq_getElem?_getD, hj, hi] using this
structure PcsOk (l : List Pce) : Prop where
 ok : ∀ x ∈ l, okPc x = true
 srt : l.Pairwise (fun a b => pltC a.1 b.1 < 0)
structure CtsOk (l : List Cnt) : Prop where
 len : l.length ≤ 24
 ok : ∀ c ∈ l, propC c = true ∧ c.pcs.length ≤ 60 ∧ PcsOk c.pcs
 num : l.Pairwise (fun a b => a.num < b.num)
 pos : l.Pairwise (fun a b => b.pos ≠ 0 → a.pos = b.pos → a.flt ≠ b.flt)
 pl : l.Pairwise (fun a b => ∀ x ∈ a.pcs, ∀ y ∈ b.pcs, x.1 ≠ y.1)
/-- Containers with other pieces. -/
def setPcs (c : Cnt) (p : List Pce) : Cnt := (c.1, c.2.1, c.2.2.1, c.2.2.2.1, c.2.2.2.2.1, c.2.2.2.2.2.1, c.2.2.2.2.2.2.1, p)
theorem putSls_ct (xs : List Cnt) (yss : List (List Pce)) : putSls yPC yCT xs yss = (xs.zip yss).map (fun q => setPcs q.1 q.2) := by
 unfold putSls
 refine congrArg (fun f => List.map f (xs.zip yss)) (funext fun q => ?_)
 obtain ⟨⟨n, ⟨a1, a2, a3, a4⟩, c, lm, t, p, r, l⟩, ys⟩ := q
 rfl
theorem fltsV_ok (n : Int) : fltOk (fltsV n) = true := by
 have hb := goMod_bd n 27 (by omega)
 have key : ∀ k : Nat, k < 27 → fltOk (strs3.getD ((k : Int) / 9).toNat ByteArray.empty, 1 + (k : Int) / 3 % 3, ByteArray.empty, 1 + (k : Int) % 3) = true := by decide +kernel
 have := key (goMod n 27).toNat (by omega)
 unfold fltsV
 rw [show ((goMod n 27).toNat : Int) = goMod n 27 by omega] at this
 exact this
theorem platesV_lt {a b : Int} (h0 : 0 ≤ a) (h1 : a < b) (h2 : b < 1000) : pltC (platesV a) (platesV b) < 0 := by
 have e : ∀ x : Int, 0 ≤ x → x < 1000 → goMod x 1000 = x := fun x hx hx2 => by
  unfold goMod
  rw [if_neg (by omega), Int.tmod_eq_emod_of_nonneg hx, if_neg (by omega)]; omega
 unfold platesV
 rw [e a h0 (by omega), e b (by omega) h2]
 have ea1 : a.tdiv 500 = a / 500 := Int.tdiv_eq_ediv_of_nonneg h0
 have ea2 : a.tdiv 100 = a / 100 := Int.tdiv_eq_ediv_of_nonneg h0
 have ea3 : a.tmod 100 = a % 100 := Int.tmod_eq_emod_of_nonneg h0
 have ea4 : (a / 100).tmod 5 = a / 100 % 5 := Int.tmod_eq_emod_of_nonneg (by omega)
 have eb1 : b.tdiv 500 = b / 500 := Int.tdiv_eq_ediv_of_nonneg (by omega)
 have eb2 : b.tdiv 100 = b / 100 := Int.tdiv_eq_ediv_of_nonneg (by omega)
 have eb3 : b.tmod 100 = b % 100 := Int.tmod_eq_emod_of_nonneg (by omega)
 have eb4 : (b / 100).tmod 5 = b / 100 % 5 := Int.tmod_eq_emod_of_nonneg (by omega)
 rw [ea1, ea2, ea3, ea4, eb1, eb2, eb3, eb4]
 unfold pltC lexC cmpV
 dsimp only
 (repeat' split) <;> omega
end Go.Proofs.Ytjhoidgpecgfoaa

/- The generator of containers. -/
set_option linter.unusedSimpArgs false
set_option linter.unusedVariables false
set_option maxRecDepth 100000
set_option maxHeartbeats 8000000
namespace Go.Proofs.Ytjhoidgpecgfoaa
open Go.Ev

attribute [local go_sem] List.set_cons_succ List.set_cons_zero List.getD_cons_succ List.getD_cons_zero List.set_nil
/-- What Containers gives. -/
structure CtsR (most n : Int) (l : List Cnt) : Prop where
 ok : CtsOk l
 len : (l.length : Int) ≤ most
 pl : ∀ c ∈ l, ∀ x ∈ c.pcs, ∃ j : Nat, (j : Int) < n ∧ x.1 = platesV j
 fl : ∀ c ∈ l, ∃ j : Nat, j < 3 ∧ c.flt = fltsV j
structure CtA (most k nm : Int) (xs : List Cnt) : Prop where
 len : (xs.length : Int) + k ≤ most
 n0 : 0 ≤ nm
 n1 : nm ≤ 2 * xs.length
 ok : ∀ c ∈ xs, propC c = true ∧ c.pcs = [] ∧ c.num ≤ nm ∧ ∃ j : Nat, j < 3 ∧ c.flt = fltsV j
 num : xs.Pairwise (fun a b => a.num < b.num)
 pos : ∀ i, i < xs.length → (xs.getD i ct0).pos = 0 ∨ (xs.getD i ct0).pos = i + 1
theorem CtA.push {most k nm : Int} {xs : List Cnt} (h : CtA most k nm xs) (hm : most ≤ 24) (hk : 0 < k) {v f c l m p r : Int} (hv : 1 ≤ v ∧ v ≤ 2) (hf : 0 ≤ f ∧ f < 3) (hc : 0 ≤ c ∧ c ≤ 31) (hl : 0 ≤ l ∧ l ≤ 20000) (hmo : 0 ≤ m ∧ m ≤ 60) (hp : p = 0 ∨ p = xs.length + 1) (hr : -50 ≤ r ∧ r ≤ 50) : CtA most (k - 1) (nm + v) (xs ++ [(nm + v, fltsV f, c, l, m, p, r, [])]) := by
 obtain ⟨il, in0, in1, iok, inum, ipos⟩ := h
 refine ⟨by simp; omega, by omega, by simp; omega, fun x hx => ?_, ?_, fun i hi => ?_⟩
 · rcases List.mem_append.1 hx with hx | hx
   · obtain ⟨h1, h2, h3, h4⟩ := iok x hx
     exact ⟨h1, h2, by omega, h4⟩
   · rw [List.mem_singleton.1 hx]
     refine ⟨?_, rfl, Int.le_refl _, f.toNat, by omega, by rw [show ((f.toNat : Nat) : Int) = f by omega]⟩
     unfold propC inV
     simp only [Cnt.num, Cnt.flt, Cnt.cats, Cnt.lim, Cnt.most, Cnt.pos, Cnt.arm, fltsV_ok, Bool.and_eq_true, decide_eq_true_eq, and_true]
     rcases hp with hp | hp <;> subst hp <;> omega
 · rw [List.pairwise_append]
   refine ⟨inum, List.pairwise_singleton _ _, fun x hx y hy => ?_⟩
   rw [List.mem_singleton.1 hy]
   have := (iok x hx).2.2.1
   show x.num < nm + v
   omega
 · by_cases e : i < xs.length
   · have := ipos i e
     rw [List.getD_eq_getElem?_getD, List.getElem?_append_left e, ← List.getD_eq_getElem?_getD]; exact this
   · have e : i = xs.length := by simp at hi; omega
     subst e
     rw [List.getD_eq_getElem?_getD, List.getElem?_append_right (Nat.le_refl _), Nat.sub_self]
     exact hp
structure CtB (i N : Nat) (yss : List (List Pce)) : Prop where
 len : yss.length = N
 c20 : ∀ p ∈ yss, p.length ≤ 20
 ok : ∀ p ∈ yss, PcsOk p
 pl : ∀ p ∈ yss, ∀ x ∈ p, ∃ j : Nat, j < i ∧ x.1 = platesV j
 ap : yss.Pairwise (fun a b => ∀ x ∈ a, ∀ y ∈ b, x.1 ≠ y.1)
theorem CtB.nil (N : Nat) : CtB 0 N (List.replicate N []) := by
 refine ⟨by simp, fun p hp => ?_, fun p hp => ?_, fun p hp => ?_, ?_⟩
 · rw [List.eq_of_mem_replicate hp]; simp
 · rw [List.eq_of_mem_replicate hp]; exact ⟨fun _ h => (by cases h), .nil⟩
 · rw [List.eq_of_mem_replicate hp]; intro x hx; cases hx
 · rw [List.pairwise_replicate]; right; intro x hx; cases hx
theorem CtB.step {i N : Nat} {yss : List (List Pce)} (h : CtB i N yss) : CtB (i + 1) N yss :=
 ⟨h.len, h.c20, h.ok, fun p hp x hx => (h.pl p hp x hx).imp fun j hj => ⟨by omega, hj.2⟩, h.ap⟩
theorem platesV_ne {a b : Nat} (h : a < b) (hb : b < 1000) : platesV a ≠ platesV b := fun e => by
 have := platesV_lt (a := a) (b := b) (by omega) (by omega) (by omega)
 rw [e, (pltC_cmp.eq _ _).2 rfl] at this
 omega
theorem set_getD {α : Type} (l : List α) (k : Nat) (v d : α) (j : Nat) (hj : j < l.length) : (l.set k v).getD j d = if k = j then v else l.getD j d := by
 rw [List.getD_eq_getElem?_getD, List.getD_eq_getElem?_getD, List.getElem?_set]
 split
 · rename_i e; subst e; simp [hj]
 · rfl
theorem CtB.put {i N k : Nat} {yss : List (List Pce)} (h : CtB i N yss) (hi : i < 1000) (hk : k < N) (h20 : (yss.getD k []).length < 20) {w c : Int} (hw : 1 ≤ w ∧ w ≤ 999) (hc : 0 ≤ c ∧ c ≤ 4) : CtB (i + 1) N (yss.set k (yss.getD k [] ++ [(platesV i, w, c)])) := by
 obtain ⟨h1, h2, h3, h4, h5⟩ := h
 have hmem : yss.getD k [] ∈ yss := getD_mem (by omega)
 have key : ∀ p ∈ yss.set k (yss.getD k [] ++ [(platesV i, w, c)]), p ∈ yss ∨ p = yss.getD k [] ++ [(platesV i, w, c)] := fun p hp => by
  rcases List.mem_or_eq_of_mem_set hp with h | h
  · exact .inl h
  · exact .inr h
 refine ⟨by simp [h1], fun p hp => ?_, fun p hp => ?_, fun p hp x hx => ?_, ?_⟩
 · rcases key p hp with h | h
   · exact h2 p h
   · rw [h, List.length_append, List.length_singleton]; omega
 · rcases key p hp with h | h
   · exact h3 p h
   · subst h
     refine ⟨fun x hx => ?_, ?_⟩
     · rcases List.mem_append.1 hx with hx | hx
       · exact (h3 _ hmem).ok x hx
       · rw [List.mem_singleton.1 hx]
         unfold okPc inV
         simp only [platesV_ok, Bool.and_eq_true, decide_eq_true_eq, true_and]
         omega
     · rw [List.pairwise_append]
       refine ⟨(h3 _ hmem).srt, List.pairwise_singleton _ _, fun x hx y hy => ?_⟩
       rw [List.mem_singleton.1 hy]
       obtain ⟨j, hj, e⟩ := h4 _ hmem x hx
       rw [e]
       exact platesV_lt (by omega) (by omega) (by omega)
 · rcases key p hp with h | h
   · exact (h4 p h x hx).imp fun j hj => ⟨by omega, hj.2⟩
   · subst h
     rcases List.mem_append.1 hx with hx | hx
     · exact (h4 _ hmem x hx).imp fun j hj => ⟨by omega, hj.2⟩
     · rw [List.mem_singleton.1 hx]; exact ⟨i, by omega, rfl⟩
 · rw [pw_getD []] at h5 ⊢
   intro a b hab hb x hx y hy
   rw [List.length_set] at hb
   rw [set_getD _ _ _ _ _ (by omega)] at hx hy
   have hA : yss.getD a [] ∈ yss := getD_mem (by omega)
   have hB : yss.getD b [] ∈ yss := getD_mem hb
   by_cases ea : k = a
   · rw [if_pos ea] at hx
     rw [if_neg (by omega)] at hy
     rcases List.mem_append.1 hx with hx | hx
     · rw [ea] at hx; exact h5 a b hab hb x hx y hy
     · rw [List.mem_singleton.1 hx]
       obtain ⟨j, hj, e⟩ := h4 _ hB y hy
       rw [e]; exact (platesV_ne hj hi).symm
   · rw [if_neg ea] at hx
     by_cases eb : k = b
     · rw [if_pos eb] at hy
       rcases List.mem_append.1 hy with hy | hy
       · rw [eb] at hy; exact h5 a b hab hb x hx y hy
       · rw [List.mem_singleton.1 hy]
         obtain ⟨j, hj, e⟩ := h4 _ hA x hx
         rw [e]; exact platesV_ne hj hi
     · rw [if_neg eb] at hy
       exact h5 a b hab hb x hx y hy
theorem zipS_len {xs : List Cnt} {yss : List (List Pce)} (h : yss.length = xs.length) : ((xs.zip yss).map (fun q => setPcs q.1 q.2)).length = xs.length := by simp [h]
theorem zipS_getD {xs : List Cnt} {yss : List (List Pce)} (h : yss.length = xs.length) {i : Nat} (hi : i < xs.length) : ((xs.zip yss).map (fun q => setPcs q.1 q.2)).getD i ct0 = setPcs (xs.getD i ct0) (yss.getD i []) := by
 simp [List.getD_eq_getElem?_getD, hi, h]
theorem CtsR.mk' {most n nm k : Int} {i : Nat} {xs : List Cnt} {yss : List (List Pce)} (hA : CtA most k nm xs) (hk : 0 ≤ k) (hm : most ≤ 24) (hB : CtB i xs.length yss) (hi : (i : Int) ≤ n ∨ i = 0) : CtsR most n ((xs.zip yss).map (fun q => setPcs q.1 q.2)) := by
 obtain ⟨il, in0, in1, iok, inum, ipos⟩ := hA
 obtain ⟨h1, h2, h3, h4, h5⟩ := hB
 have hl := zipS_len h1
 have hg : ∀ c ∈ (xs.zip yss).map (fun q => setPcs q.1 q.2), ∃ x ∈ xs, ∃ p ∈ yss, c = setPcs x p := fun c hc => by
  obtain ⟨q, hq, rfl⟩ := List.mem_map.1 hc
  exact ⟨q.1, (List.of_mem_zip (a := q.1) (b := q.2) hq).1, q.2, (List.of_mem_zip (a := q.1) (b := q.2) hq).2, rfl⟩
 refine ⟨⟨by omega, fun c hc => ?_, (pw_getD ct0).2 fun a b hab hb => ?_, (pw_getD ct0).2 fun a b hab hb => ?_, (pw_getD ct0).2 fun a b hab hb => ?_⟩, by omega, fun c hc x hx => ?_, fun c hc => ?_⟩
 · obtain ⟨x, hx, p, hp, rfl⟩ := hg c hc
   exact ⟨(iok x hx).1, Nat.le_trans (h2 p hp) (by omega), h3 p hp⟩
 · rw [hl] at hb
   rw [zipS_getD (i := a) h1 (by omega), zipS_getD (i := b) h1 hb]
   exact (pw_getD ct0).1 inum a b hab hb
 · rw [hl] at hb
   rw [zipS_getD (i := a) h1 (by omega), zipS_getD (i := b) h1 hb]
   intro hp he
   have hp : (xs.getD b ct0).pos ≠ 0 := hp
   have he : (xs.getD a ct0).pos = (xs.getD b ct0).pos := he
   have := ipos a (by omega)
   have := ipos b hb
   omega
 · rw [hl] at hb
   rw [zipS_getD (i := a) h1 (by omega), zipS_getD (i := b) h1 hb]
   exact (pw_getD []).1 h5 a b hab (by omega)
 · obtain ⟨x0, hx0, p, hp, rfl⟩ := hg c hc
   obtain ⟨j, hj, e⟩ := h4 p hp x hx
   exact ⟨j, by omega, e⟩
 · obtain ⟨x0, hx0, p, hp, rfl⟩ := hg c hc
   exact (iok x0 hx0).2.2.2
def con6 : RCon := { ps := [.p 67 ySR, .d false (.int .i64), .d false (.int .i64)], rs := [.d false (.sl yCT)], pre := fun (x : Src × Int × Int × Unit) => 0 ≤ x.1.2 ∧ 0 ≤ x.2.1 ∧ x.2.1 ≤ 24 ∧ x.2.2.1 ≤ 1000, rel := fun (x : Src × Int × Int × Unit) (y : List Cnt × Unit) (z : Src × Int × Int × Unit) => 0 ≤ z.1.2 ∧ CtsR x.2.1 x.2.2.1 y.1 }
theorem c6 : RCtrOk Try.prog 6 con6.rctr :=
 rcon_sound (G := ⟨[(8, con8.ctr), (18, con18.ctr), (11, con11.ctr), (19, con19.ctr)], [], [(7, 65), (53, 65), (58, 1), (84, 3), (93, 5), (99, 1)], []⟩) tab_ok (EnvOk.cons c8 has8 (EnvOk.cons c18 has18 (EnvOk.cons c11 has11 (EnvOk.cons c19 has19 EnvOk.nil)))) rfl Try.func6 rfl con6 77371328692341128053669831 (by kernel_rfl) (by decide) (by decide) rfl (by decide) rfl (by
  rintro ⟨⟨(s : List Int), (a : Int)⟩, (most : Int), (n : Int), _⟩ hpre hwf X hT hG hk hK
  (simp -implicitDefEqProofs only [go_sem, Prod.eta, Option.isSome_none, Option.isSome_some, Int.toNat_zero, Nat.reduceAdd, Nat.reduceMul, Nat.reduceSub, Nat.reduceEqDiff, Nat.reduceLT, Nat.reduceLeDiff, Nat.reduceShiftRight, Nat.reduceMod, Nat.reduceBEq, reduceCtorEq, reduceIte, reduceDIte, Int.reduceNeg, Bool.not_eq_true', Bool.not_eq_false', Bool.or_eq_true, Bool.or_eq_false_iff, Bool.and_eq_true, Bool.and_eq_false_iff, decide_eq_true_eq, decide_eq_false_iff_not, Classical.not_not, not_or, maxLen, con6, con8, con18, con11, con19, hT, hG, hk, hK, Try.results6] at hwf ⊢); (try simp (disch := decide +kernel) only [drawn, true_and, and_true])
  obtain ⟨h1, h2, h3, h4⟩ : 0 ≤ a ∧ 0 ≤ most ∧ most ≤ 24 ∧ n ≤ 1000 := hpre
  have hs1 : 0 ≤ (Src.step (s, a)).snd := step_pos h1
  have hkb := goMod_bd (Src.raw (s, a)) (most + 1) (by omega)
  generalize goMod (Src.raw (s, a)) (most + 1) = K at hkb ⊢
  generalize Src.step (s, a) = S1 at hs1 ⊢
  obtain ⟨s1, a1⟩ := S1
  (repeat' (with_reducible (first | refine And.intro ?_ ?_ | intro _))) <;> (try (first | with_reducible (first | done | assumption | omega | contradiction) | decide))
  refine evk_loop ⟨{ q : Src × List Cnt × Int × Int // 0 ≤ q.1.2 ∧ CtA most q.2.2.2 q.2.2.1 q.2.1 ∧ 0 ≤ q.2.2.2 }, 1000, fun q => [(0, .one (.loc 0 0)), (2, .one (.int .i64 n)), (7, .one (.row 64)), (8, .one (.int .i64 q.1.2.2.1)), (9, .one (.int .i64 q.1.2.2.2))],
   fun q => [(0, .cells 67 [.sl (.int .i64) q.1.1.1 false, .int .i64 q.1.1.2]), (64, .rowg 54 yCT 10 65 q.1.2.1 none), (65, .fam 57 yPC (List.replicate q.1.2.1.length []))], fun q => q.1.2.2.2.toNat⟩ ⟨((s1, a1), [], 0, K), hs1, ⟨by simp only [List.length_nil]; omega, Int.le_refl _, by simp, fun _ h => (by cases h), .nil, fun i h => absurd h (by simp)⟩, hkb.1⟩ ?_ ?_
  · simp only [go_sem, Prod.eta, Option.isSome_none, Option.isSome_some, Int.toNat_zero, Nat.reduceAdd, Nat.reduceMul, Nat.reduceSub, Nat.reduceEqDiff, Nat.reduceLT, Nat.reduceLeDiff, Nat.reduceShiftRight, Nat.reduceMod, Nat.reduceBEq, reduceCtorEq, reduceIte, reduceDIte, Int.reduceNeg]
    try (first | rfl | exact ⟨rfl, rfl⟩ | (and_intros <;> first | trivial | rfl | omega))
  · rintro ⟨⟨⟨s, a⟩, xs, nm, k⟩, (h1 : 0 ≤ a), (hI : CtA most k nm xs), (hk0 : 0 ≤ k)⟩
    (simp -implicitDefEqProofs only [go_sem, Prod.eta, Option.isSome_none, Option.isSome_some, Int.toNat_zero, Nat.reduceAdd, Nat.reduceMul, Nat.reduceSub, Nat.reduceEqDiff, Nat.reduceLT, Nat.reduceLeDiff, Nat.reduceShiftRight, Nat.reduceMod, Nat.reduceBEq, reduceCtorEq, reduceIte, reduceDIte, Int.reduceNeg, Bool.not_eq_true', Bool.not_eq_false', Bool.or_eq_true, Bool.or_eq_false_iff, Bool.and_eq_true, Bool.and_eq_false_iff, decide_eq_true_eq, decide_eq_false_iff_not, Classical.not_not, not_or, maxLen, con6, con8, con18, con11, con19, hT, hG, hk, hK, Try.results6]); (try simp (disch := decide +kernel) only [drawn, true_and, and_true])
    obtain ⟨il, in0, in1, iok, inum, ipos⟩ := hI
    have r1 := goMod_bd (Src.raw (s, a)) 2 (by omega)
    have p1 : 0 ≤ (Src.step (s, a)).snd := step_pos h1
    have p2 : 0 ≤ (Src.step (s, a)).step.snd := step_pos p1
    have p3 : 0 ≤ (Src.step (s, a)).step.step.snd := step_pos p2
    have p4 : 0 ≤ (Src.step (s, a)).step.step.step.snd := step_pos p3
    have p5 : 0 ≤ (Src.step (s, a)).step.step.step.step.snd := step_pos p4
    have p6 : 0 ≤ (Src.step (s, a)).step.step.step.step.step.snd := step_pos p5
    have p7 : 0 ≤ (Src.step (s, a)).step.step.step.step.step.step.snd := step_pos p6
    have r2 := goMod_bd (Src.step (s, a)).raw 3 (by omega)
    have r3 := goMod_bd (Src.step (s, a)).step.raw 6 (by omega)
    have r4 := goMod_bd (Src.step (s, a)).step.step.raw 300 (by omega)
    have r5 := goMod_bd (Src.step (s, a)).step.step.step.raw 10 (by omega)
    have r6 := goMod_bd (Src.step (s, a)).step.step.step.step.raw 21 (by omega)
    have r7 := goMod_bd (Src.step (s, a)).step.step.step.step.step.raw 3 (by omega)
    generalize (Src.step (s, a)).step.step.step.step.step.step = S7 at p7 ⊢
    generalize goMod (Src.step (s, a)).step.step.step.step.step.raw 3 = V7 at r7 ⊢
    generalize goMod (Src.step (s, a)).step.step.step.step.raw 21 = V6 at r6 ⊢
    generalize goMod (Src.step (s, a)).step.step.step.raw 10 = V5 at r5 ⊢
    generalize goMod (Src.step (s, a)).step.step.raw 300 = V4 at r4 ⊢
    generalize goMod (Src.step (s, a)).raw 3 = V2 at r2 ⊢
    generalize goMod (Src.raw (s, a)) 2 = V1 at r1 ⊢
    obtain ⟨s7, a7⟩ := S7
    have hc31 : ∀ k : Int, 0 ≤ k ∧ k < 6 → 0 ≤ [31, 31, 31, 3, 30, 1].getD k.toNat (0 : Int) ∧ [31, 31, 31, 3, 30, 1].getD k.toNat (0 : Int) ≤ 31 := fun k hk => by
     rcases (by omega : k = 0 ∨ k = 1 ∨ k = 2 ∨ k = 3 ∨ k = 4 ∨ k = 5) with rfl | rfl | rfl | rfl | rfl | rfl <;> decide
    have hc31 := hc31 _ r3
    have hrep : List.replicate xs.length ([] : List Pce) ++ [[]] = List.replicate (xs.length + 1) [] := by rw [List.replicate_succ']
    have hI : CtA most k nm xs := ⟨il, in0, in1, iok, inum, ipos⟩
    (repeat' (with_reducible (first | refine And.intro ?_ ?_ | intro _))) <;> (try (first | with_reducible (first | done | assumption | omega | contradiction) | decide))
    all_goals first
     | (have hv7 : V7 > 0 := by assumption
        refine fin_lp ⟨((s7, a7), xs ++ [_], nm + (1 + V1), k - 1), p7, CtA.push (v := 1 + V1) (f := V2) (c := [31, 31, 31, 3, 30, 1].getD (goMod (Src.step (s, a)).step.raw 6).toNat 0) (l := 50 + V4) (m := 2 + V5) (p := xs.length + 1) (r := V6 - 10) hI h3 (by omega) (by omega) r2 hc31 (by omega) (by omega) (.inr rfl) (by omega), (by show 0 ≤ k - 1; omega)⟩ ?_ (by dsimp only; omega)
        simp only [go_sem, Prod.eta, Option.isSome_none, Option.isSome_some, Int.toNat_zero, Nat.reduceAdd, Nat.reduceMul, Nat.reduceSub, Nat.reduceEqDiff, Nat.reduceLT, Nat.reduceLeDiff, Nat.reduceShiftRight, Nat.reduceMod, Nat.reduceBEq, reduceCtorEq, reduceIte, reduceDIte, Int.reduceNeg]
        rw [hrep, List.length_append]
        try (first | rfl | exact ⟨rfl, rfl⟩ | (and_intros <;> first | trivial | rfl | omega))
        done)
     | (have hv7 : ¬ V7 > 0 := by assumption
        refine fin_lp ⟨((s7, a7), xs ++ [_], nm + (1 + V1), k - 1), p7, CtA.push (v := 1 + V1) (f := V2) (c := [31, 31, 31, 3, 30, 1].getD (goMod (Src.step (s, a)).step.raw 6).toNat 0) (l := 50 + V4) (m := 2 + V5) (p := 0) (r := V6 - 10) hI h3 (by omega) (by omega) r2 hc31 (by omega) (by omega) (.inl rfl) (by omega), (by show 0 ≤ k - 1; omega)⟩ ?_ (by dsimp only; omega)
        simp only [go_sem, Prod.eta, Option.isSome_none, Option.isSome_some, Int.toNat_zero, Nat.reduceAdd, Nat.reduceMul, Nat.reduceSub, Nat.reduceEqDiff, Nat.reduceLT, Nat.reduceLeDiff, Nat.reduceShiftRight, Nat.reduceMod, Nat.reduceBEq, reduceCtorEq, reduceIte, reduceDIte, Int.reduceNeg]
        rw [hrep, List.length_append]
        try (first | rfl | exact ⟨rfl, rfl⟩ | (and_intros <;> first | trivial | rfl | omega))
        done)
     | (have hl0 : xs.length = 0 := by omega
        refine ⟨((xs.zip (List.replicate xs.length [])).map (fun q => setPcs q.1 q.2), ()), ((s, a), most, n, ()), ⟨h1, CtsR.mk' hI hk0 h3 (CtB.nil _) (.inr rfl)⟩, rfl, rfl, putSls_ct _ _⟩)
     | (refine evk_loop ⟨{ q : Src × List (List Pce) × Nat // 0 ≤ q.1.2 ∧ CtB q.2.2 xs.length q.2.1 ∧ ((q.2.2 : Int) ≤ n ∨ q.2.2 = 0) }, 1000, fun q => [(0, .one (.loc 0 0)), (2, .one (.int .i64 n)), (7, .one (.row 64)), (11, .one (.int .i64 q.1.2.2))],
         fun q => [(0, .cells 67 [.sl (.int .i64) q.1.1.1 false, .int .i64 q.1.1.2]), (64, .rowg 54 yCT 10 65 xs none), (65, .fam 57 yPC q.1.2.1)], fun q => n.toNat - q.1.2.2⟩ ⟨((s, a), List.replicate xs.length [], 0), h1, CtB.nil _, .inr rfl⟩ ?_ ?_
        · simp only [go_sem, Prod.eta, Option.isSome_none, Option.isSome_some, Int.toNat_zero, Nat.reduceAdd, Nat.reduceMul, Nat.reduceSub, Nat.reduceEqDiff, Nat.reduceLT, Nat.reduceLeDiff, Nat.reduceShiftRight, Nat.reduceMod, Nat.reduceBEq, reduceCtorEq, reduceIte, reduceDIte, Int.reduceNeg]
          try (first | rfl | exact ⟨rfl, rfl⟩ | (and_intros <;> first | trivial | rfl | omega))
        · rintro ⟨⟨⟨s, a⟩, yss, i⟩, (h1 : 0 ≤ a), (hB : CtB i xs.length yss), (hin : (i : Int) ≤ n ∨ i = 0)⟩
          (simp -implicitDefEqProofs only [go_sem, Prod.eta, Option.isSome_none, Option.isSome_some, Int.toNat_zero, Nat.reduceAdd, Nat.reduceMul, Nat.reduceSub, Nat.reduceEqDiff, Nat.reduceLT, Nat.reduceLeDiff, Nat.reduceShiftRight, Nat.reduceMod, Nat.reduceBEq, reduceCtorEq, reduceIte, reduceDIte, Int.reduceNeg, Bool.not_eq_true', Bool.not_eq_false', Bool.or_eq_true, Bool.or_eq_false_iff, Bool.and_eq_true, Bool.and_eq_false_iff, decide_eq_true_eq, decide_eq_false_iff_not, Classical.not_not, not_or, maxLen, con6, con8, con18, con11, con19, hT, hG, hk, hK, Try.results6]); (try simp (disch := decide +kernel) only [drawn, true_and, and_true])
          have hxl : 0 < xs.length := by omega
          have r1 := goMod_bd (Src.raw (s, a)) 3 (by omega)
          have p1 : 0 ≤ (Src.step (s, a)).snd := step_pos h1
          have p2 : 0 ≤ (Src.step (s, a)).step.snd := step_pos p1
          have p3 : 0 ≤ (Src.step (s, a)).step.step.snd := step_pos p2
          have p4 : 0 ≤ (Src.step (s, a)).step.step.step.snd := step_pos p3
          have r2 := goMod_bd (Src.step (s, a)).raw xs.length (by omega)
          have r3 := goMod_bd (Src.step (s, a)).step.raw 30 (by omega)
          have r4 := goMod_bd (Src.step (s, a)).step.step.raw 8 (by omega)
          have hw : ∀ k : Int, 0 ≤ k ∧ k < 8 → 0 ≤ [0, 0, 0, 0, 1, 2, 3, 4].getD k.toNat (0 : Int) ∧ [0, 0, 0, 0, 1, 2, 3, 4].getD k.toNat (0 : Int) ≤ 4 := fun k hk => by
           rcases (by omega : k = 0 ∨ k = 1 ∨ k = 2 ∨ k = 3 ∨ k = 4 ∨ k = 5 ∨ k = 6 ∨ k = 7) with rfl | rfl | rfl | rfl | rfl | rfl | rfl | rfl <;> decide
          have hw := hw _ r4
          have hyl := hB.len
          have hbl : ∀ k : Nat, (yss.getD k []).length ≤ 20 := fun k => by
           by_cases h : k < yss.length
           · exact hB.c20 _ (getD_mem h)
           · rw [List.getD_eq_getElem?_getD, List.getElem?_eq_none (by omega)]; simp
          have hbk := hbl (goMod (Src.step (s, a)).raw xs.length).toNat
          generalize (Src.step (s, a)).step.step.step = S4 at p4 ⊢
          generalize goMod (Src.step (s, a)).step.step.raw 8 = V4 at r4 hw ⊢
          generalize goMod (Src.step (s, a)).step.raw 30 = V3 at r3 ⊢
          generalize goMod (Src.step (s, a)).raw xs.length = V2 at r2 hbk ⊢
          generalize goMod (Src.raw (s, a)) 3 = V1 at r1 ⊢
          generalize (Src.step (s, a)).step = S2 at p2 ⊢
          generalize Src.step (s, a) = S1 at p1 ⊢
          obtain ⟨s4, a4⟩ := S4
          obtain ⟨s2, a2⟩ := S2
          obtain ⟨s1, a1⟩ := S1
          (repeat' (with_reducible (first | refine And.intro ?_ ?_ | intro _))) <;> (try (first | with_reducible (first | done | assumption | omega | contradiction) | decide))
          all_goals first
           | (have hv : V1 = 0 := by assumption
              refine fin_lp ⟨((s1, a1), yss, i + 1), p1, hB.step, (by show ((i + 1 : Nat) : Int) ≤ n ∨ _; omega)⟩ ?_ (by dsimp only; omega)
              simp only [go_sem, Prod.eta, Option.isSome_none, Option.isSome_some, Int.toNat_zero, Nat.reduceAdd, Nat.reduceMul, Nat.reduceSub, Nat.reduceEqDiff, Nat.reduceLT, Nat.reduceLeDiff, Nat.reduceShiftRight, Nat.reduceMod, Nat.reduceBEq, reduceCtorEq, reduceIte, reduceDIte, Int.reduceNeg]
              try (first | rfl | exact ⟨rfl, rfl⟩ | (and_intros <;> first | trivial | rfl | omega))
              done)
           | exact step_pos p2
           | (have h20 : ((yss.getD V2.toNat []).length : Int) < 20 := by assumption
              refine fin_lp ⟨((s4, a4), yss.set V2.toNat (yss.getD V2.toNat [] ++ [(platesV i, 1 + V3, [0, 0, 0, 0, 1, 2, 3, 4].getD V4.toNat 0)]), i + 1), p4, hB.put (by omega) (by omega) (by omega) (by omega) hw, (by show ((i + 1 : Nat) : Int) ≤ n ∨ _; omega)⟩ ?_ (by dsimp only; omega)
              simp only [go_sem, Prod.eta, Option.isSome_none, Option.isSome_some, Int.toNat_zero, Nat.reduceAdd, Nat.reduceMul, Nat.reduceSub, Nat.reduceEqDiff, Nat.reduceLT, Nat.reduceLeDiff, Nat.reduceShiftRight, Nat.reduceMod, Nat.reduceBEq, reduceCtorEq, reduceIte, reduceDIte, Int.reduceNeg]
              rw [List.set_set]
              try (first | rfl | exact ⟨rfl, rfl⟩ | (and_intros <;> first | trivial | rfl | omega))
              done)
           | (have h20 : ¬ ((yss.getD V2.toNat []).length : Int) < 20 := by assumption
              refine fin_lp ⟨((s4, a4), yss, i + 1), p4, hB.step, (by show ((i + 1 : Nat) : Int) ≤ n ∨ _; omega)⟩ ?_ (by dsimp only; omega)
              simp only [go_sem, Prod.eta, Option.isSome_none, Option.isSome_some, Int.toNat_zero, Nat.reduceAdd, Nat.reduceMul, Nat.reduceSub, Nat.reduceEqDiff, Nat.reduceLT, Nat.reduceLeDiff, Nat.reduceShiftRight, Nat.reduceMod, Nat.reduceBEq, reduceCtorEq, reduceIte, reduceDIte, Int.reduceNeg]
              try (first | rfl | exact ⟨rfl, rfl⟩ | (and_intros <;> first | trivial | rfl | omega))
              done)
           | (refine ⟨((xs.zip yss).map (fun q => setPcs q.1 q.2), ()), ((s, a), most, n, ()), ⟨h1, CtsR.mk' hI hk0 h3 hB hin⟩, rfl, rfl, putSls_ct _ _⟩)
           | fail))
end Go.Proofs.Ytjhoidgpecgfoaa
