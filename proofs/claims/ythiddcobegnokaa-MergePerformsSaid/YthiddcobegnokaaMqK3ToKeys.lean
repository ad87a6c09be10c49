/- Operations: places; what stays valid. -/
import Derived.Test.YthiddcobegnokaaMqK2
import Derived.Test.YthiddcobegnokaaEvFun4ToFun5
import Derived.Test.YthiddcobegnokaaEvSimp
import Derived.Shelf.SlIter.Sorted
import Derived.Shelf.SlIter.Collect
set_option linter.unusedSimpArgs false
set_option linter.unusedVariables false
set_option maxRecDepth 100000
set_option maxHeartbeats 8000000
namespace Go.Proofs.Ythiddcobegnokaa
open Go.Ev

def aboutP (l : List Opn) (p : Plt) : List Opn := l.filter (fun o => decide (o.plate = p))
def placesV (l : List Opn) : List Plc := if valV l ≠ 0 then [] else (sortBy pltC (abK l)).map (fun p => placeV (aboutP l p))
theorem mget_zip (k : Plt) : ∀ (ks : List Plt) (vs : List (List Opn)), ks.length = vs.length → k ∈ ks → mget (kt := yPL) (ks.zip vs) k = some (vs.getD (kidx (kt := yPL) k ks) [])
 | [], _, _, h => by cases h
 | a :: ks, [], h, _ => by simp at h
 | a :: ks, v :: vs, h, hm => by
   simp only [List.zip_cons_cons, mget, kidx]
   by_cases e : k = a
   · rw [if_pos (by rw [pl_eq]; simpa using e), if_pos (by rw [pl_eq]; simpa using e)]; rfl
   · rw [if_neg (by rw [pl_eq]; simpa using e), if_neg (by rw [pl_eq]; simpa using e)]
     rw [mget_zip k ks vs (by simpa using h) ((List.mem_cons.1 hm).resolve_left e)]
     rfl
theorem about_get {l : List Opn} {p : Plt} (h : p ∈ sortBy pltC (abK l)) : mget (kt := yPL) ((abK l).zip (abG l)) p = some (aboutP l p) := by
 have hm := (sortBy_perm pltC (abK l)).mem_iff.1 h
 rw [mget_zip p _ _ (abG_len l).symm hm, abG_at hm]
 rfl
theorem about_ne {l : List Opn} {p : Plt} (h : p ∈ sortBy pltC (abK l)) : aboutP l p ≠ [] := by
 have hm := (sortBy_perm pltC (abK l)).mem_iff.1 h
 obtain ⟨o, ho, e⟩ := (abK_mem p l).1 hm
 exact List.ne_nil_of_mem (List.mem_filter.2 ⟨ho, by simpa using e⟩)
theorem about_len (l : List Opn) (p : Plt) : (aboutP l p).length ≤ l.length := List.length_filter_le _ _
theorem sortBy_len (l : List Opn) : (sortBy pltC (abK l)).length ≤ l.length := by rw [(sortBy_perm _ _).length_eq]; exact abK_len l
def con23 : Con := { ps := [.d false (.sl yOP)], rs := [.d false (.sl yPM)], pre := fun _ => True, out := fun (x : List Opn × Unit) => (placesV x.1, ()), nw := id }
theorem c23 : CtrOk Try.prog 23 con23.ctr :=
 con_sound (G := ⟨[(13, con13.ctr), (46, con46.ctr), (47, con47.ctr)], [], [], []⟩) tab_ok (EnvOk.cons c13 has13 (EnvOk.cons c46 has46 (EnvOk.cons c47 has47 EnvOk.nil))) rfl Try.func23 rfl con23 984253 (by kernel_rfl) (by decide) (by decide) rfl (by decide) rfl (by
  rintro ⟨(l : List Opn), _⟩ hpre hwf X hT hG hk hK
  (simp -implicitDefEqProofs only [go_sem, Bool.not_eq_true', Bool.not_eq_false', Bool.or_eq_true, Bool.or_eq_false_iff, Bool.and_eq_true, Bool.and_eq_false_iff, decide_eq_true_eq, decide_eq_false_iff_not, Classical.not_not, not_or, maxLen, con23, con13, con46, con47, hT, hG, hk, hK, Try.results23] at hwf ⊢); (try simp (disch := decide +kernel) only [drawn, true_and, and_true])
  refine fun _ => ⟨fun h => ?_, fun h => ?_⟩
  · unfold placesV; rw [if_pos h]
  · obtain ⟨hl, _⟩ := valV_zero h
    have hsl := sortBy_len l
    refine ⟨by omega, fun _ _ => ?_⟩
    refine evk_loop ⟨{ i : Nat // i ≤ (sortBy pltC (abK l)).length }, 1000, fun i => [(3, .one (.map 70)), (5, .one (.row 71)), (16, .one (.sl yPL (sortBy pltC (abK l)) false)), (17, .one (.int .i64 (sortBy pltC (abK l)).length)), (18, .one (.int .i64 i.1))], fun i => [(70, .mapb yPL (.sl yOP) true false ((abK l).zip (abG l))), (71, .row 55 yPM (((sortBy pltC (abK l)).take i.1).map (fun p => placeV (aboutP l p))))], fun i => (sortBy pltC (abK l)).length - i.1⟩ ⟨0, by omega⟩ ?_ ?_
    · simp only [go_sem]
      try (first | rfl | exact ⟨rfl, rfl⟩)
    · rintro ⟨i, (hi : i ≤ (sortBy pltC (abK l)).length)⟩
      (simp -implicitDefEqProofs only [go_sem, Bool.not_eq_true', Bool.not_eq_false', Bool.or_eq_true, Bool.or_eq_false_iff, Bool.and_eq_true, Bool.and_eq_false_iff, decide_eq_true_eq, decide_eq_false_iff_not, Classical.not_not, not_or, maxLen, con23, con13, con46, con47, hT, hG, hk, hK, Try.results23]); (try simp (disch := decide +kernel) only [drawn, true_and, and_true])
      refine ⟨fun hlt => ?_, fun hge => ?_⟩
      · have hil : i < (sortBy pltC (abK l)).length := by omega
        obtain ⟨p, hp⟩ : ∃ p, (sortBy pltC (abK l))[i] = p := ⟨_, rfl⟩
        have ep : (sortBy pltC (abK l)).getD (i : Int).toNat (0, 0, 0) = p := by rw [← hp]; simp [hil]
        have hpm : p ∈ sortBy pltC (abK l) := hp ▸ List.getElem_mem hil
        have hlen := about_len l p
        rw [ep]
        have eg : ((mget (kt := yPL) ((abK l).zip (abG l)) (p.1, p.2.1, p.2.2)).getD []) = aboutP l p := by
         rw [show (p.1, p.2.1, p.2.2) = p from rfl, about_get hpm]; rfl
        rw [eg]
        have hst : ((sortBy pltC (abK l)).take (i + 1)).map (fun p => placeV (aboutP l p)) = ((sortBy pltC (abK l)).take i).map (fun p => placeV (aboutP l p)) ++ [placeV (aboutP l p)] := by
         rw [List.take_succ_eq_append_getElem hil, List.map_append, hp]; rfl
        have hml : (((sortBy pltC (abK l)).take i).map (fun p => placeV (aboutP l p))).length ≤ 360 := by simp; omega
        (repeat' (with_reducible (first | refine And.intro ?_ ?_ | intro _))) <;> (try (first | with_reducible (first | done | assumption | omega | contradiction) | decide))
        · exact about_ne hpm
        · refine fin_lp ⟨i + 1, by omega⟩ ?_ (by dsimp only; omega)
          simp only [go_sem]
          rw [hst]
          try (first | rfl | exact ⟨rfl, rfl⟩ | (and_intros <;> first | rfl | omega))
      · unfold placesV
        rw [if_neg (by simp [h]), List.take_of_length_le (by omega)])
def confV (l : List Opn) : List Plt := ((placesV l).filter (fun x => decide (1 < x.2.2.length))).map (fun x => x.1.1)
theorem placesV_len (l : List Opn) : (placesV l).length ≤ 360 := by
 unfold placesV
 split
 · simp
 · rename_i h
   obtain ⟨hl, _⟩ := valV_zero (l := l) (by simpa using h)
   have := sortBy_len l
   simp; omega
def con26 : Con := { ps := [.d false (.sl yOP)], rs := [.d false (.sl yPL)], pre := fun _ => True, out := fun (x : List Opn × Unit) => (confV x.1, ()), nw := id }
theorem c26 : CtrOk Try.prog 26 con26.ctr :=
 con_sound (G := ⟨[(23, con23.ctr)], [], [], []⟩) tab_ok (EnvOk.cons c23 has23 EnvOk.nil) rfl Try.func26 rfl con26 67501 (by kernel_rfl) (by decide) (by decide) rfl (by decide) rfl (by
  rintro ⟨(l : List Opn), _⟩ hpre hwf X hT hG hk hK
  (simp -implicitDefEqProofs only [go_sem, Bool.not_eq_true', Bool.not_eq_false', Bool.or_eq_true, Bool.or_eq_false_iff, Bool.and_eq_true, Bool.and_eq_false_iff, decide_eq_true_eq, decide_eq_false_iff_not, Classical.not_not, not_or, maxLen, con26, con23, hT, hG, hk, hK, Try.results26] at hwf ⊢); (try simp (disch := decide +kernel) only [drawn, true_and, and_true])
  have hpl := placesV_len l
  refine fun _ _ => ?_
  refine evk_loop ⟨{ i : Nat // i ≤ (placesV l).length }, 1000, fun i => [(3, .one (.row 71)), (7, .one (.sl yPM (placesV l) false)), (8, .one (.int .i64 (placesV l).length)), (9, .one (.int .i64 i.1))], fun i => [(71, .row 33 yPL ((((placesV l).take i.1).filter (fun x => decide (1 < x.2.2.length))).map (fun x => x.1.1)))], fun i => (placesV l).length - i.1⟩ ⟨0, by omega⟩ ?_ ?_
  · simp only [go_sem]
    try (first | rfl | exact ⟨rfl, rfl⟩)
  · rintro ⟨i, (hi : i ≤ (placesV l).length)⟩
    (simp -implicitDefEqProofs only [go_sem, Bool.not_eq_true', Bool.not_eq_false', Bool.or_eq_true, Bool.or_eq_false_iff, Bool.and_eq_true, Bool.and_eq_false_iff, decide_eq_true_eq, decide_eq_false_iff_not, Classical.not_not, not_or, maxLen, con26, con23, hT, hG, hk, hK, Try.results26]); (try simp (disch := decide +kernel) only [drawn, true_and, and_true])
    refine ⟨fun hlt => ?_, fun hge => ?_⟩
    · have hil : i < (placesV l).length := by omega
      obtain ⟨p, hp⟩ : ∃ p, (placesV l)[i] = p := ⟨_, rfl⟩
      have ep : ∀ z, (placesV l).getD (i : Int).toNat z = p := fun z => by rw [← hp]; simp [hil]
      simp only [ep]
      have hst : (((placesV l).take (i + 1)).filter (fun x => decide (1 < x.2.2.length))).map (fun x => x.1.1) = (((placesV l).take i).filter (fun x => decide (1 < x.2.2.length))).map (fun x => x.1.1) ++ if 1 < p.2.2.length then [p.1.1] else [] := by
       rw [List.take_succ_eq_append_getElem hil, List.filter_append, List.map_append, hp]
       by_cases q : 1 < p.2.2.length <;> simp [q]
      have hml : ((((placesV l).take i).filter (fun x => decide (1 < x.2.2.length))).map (fun x => x.1.1)).length ≤ 360 := by
       rw [List.length_map]
       exact Nat.le_trans (List.length_filter_le _ _) (by simp; omega)
      (repeat' (with_reducible (first | refine And.intro ?_ ?_ | intro _))) <;> (try (first | with_reducible (first | done | assumption | omega | contradiction) | decide))
      · have hq : (p.2.2.length : Int) > 1 := by assumption
        rw [if_pos (by omega)] at hst
        refine fin_lp ⟨i + 1, by omega⟩ ?_ (by dsimp only; omega)
        simp only [go_sem]
        rw [hst]
        try (first | rfl | exact ⟨rfl, rfl⟩ | (and_intros <;> first | rfl | omega))
      · have hq : ¬ (p.2.2.length : Int) > 1 := by assumption
        rw [if_neg (by omega), List.append_nil] at hst
        refine fin_lp ⟨i + 1, by omega⟩ ?_ (by dsimp only; omega)
        simp only [go_sem]
        rw [hst]
        try (first | rfl | exact ⟨rfl, rfl⟩ | (and_intros <;> first | rfl | omega))
    · unfold confV
      rw [List.take_of_length_le (by omega)])
def con45 : Con := { ps := [.d false (.int .i64), .d false (.int .i64), .d false (.int .i64), .d false (.int .i64), .d false (.int .i64)], rs := [.d true yOP], pre := fun _ => True, out := fun x => ((x.1, x.2.1, x.2.2.1, x.2.2.2.1, x.2.2.2.2.1, platesV 3, 10, 0), ()), nw := id }
theorem c45 : CtrOk Try.prog 45 con45.ctr :=
 con_sound (G := ⟨[(68, con68.ctr)], [], [], []⟩) tab_ok (EnvOk.cons c68 has68 EnvOk.nil) rfl Try.func45 rfl con45 1055 (by kernel_rfl) (by decide) (by decide) rfl (by decide) rfl (by
  rintro ⟨(a : Int), (b : Int), (c : Int), (d : Int), (e : Int), _⟩ hpre hwf X hT hG hk hK
  (simp -implicitDefEqProofs only [go_sem, Bool.not_eq_true', Bool.not_eq_false', Bool.or_eq_true, Bool.or_eq_false_iff, Bool.and_eq_true, Bool.and_eq_false_iff, decide_eq_true_eq, decide_eq_false_iff_not, Classical.not_not, not_or, maxLen, con45, con68, hT, hG, hk, hK, Try.results45] at hwf ⊢); (try simp (disch := decide +kernel) only [drawn, true_and, and_true])
  skip)
theorem sorted_unique : ∀ {a b : List Int}, a.Perm b → a.Pairwise (· ≤ ·) → b.Pairwise (· ≤ ·) → a = b
 | [], b, hp, _, _ => (List.nil_perm.1 hp).symm ▸ rfl
 | x :: a, [], hp, _, _ => by have := hp.length_eq; simp at this
 | x :: a, y :: b, hp, ha, hb => by
   rw [List.pairwise_cons] at ha hb
   have e : x = y := by
    have h1 : x ∈ y :: b := hp.subset (List.mem_cons_self ..)
    have h2 : y ∈ x :: a := hp.symm.subset (List.mem_cons_self ..)
    rcases List.mem_cons.1 h1 with h | h
    · exact h
    · rcases List.mem_cons.1 h2 with k | k
      · exact k.symm
      · have := hb.1 x h
        have := ha.1 y k
        omega
   subst e
   rw [sorted_unique (List.Perm.cons_inv hp) ha.2 hb.2]
theorem sortI_perm (l : List Int) : (sortI l).Perm l := List.mergeSort_perm l _
theorem sortI_sorted (l : List Int) : (sortI l).Pairwise (· ≤ ·) := by
 have h := List.pairwise_mergeSort (le := fun x y : Int => decide (x ≤ y)) (fun a b c => by simp; omega) (fun a b => by simp; omega) l
 exact h.imp (fun h => by simpa using h)
abbrev pc3 : Pce := (platesV 3, 10, 0)
abbrev ex1 : Opn := (10, 1, 3, 1, 4, pc3)
abbrev ex2 : Opn := (12, 2, 1, 1, 5, pc3)
abbrev ex3 : Opn := (15, 1, 4, 2, 4, pc3)
abbrev ex4 : Opn := (11, 1, 3, 1, 4, pc3)
theorem sort_one {l : List Opn} {p : Plt} (h : abK l = [p]) : sortBy pltC (abK l) = [p] := by
 rw [h]; exact List.perm_singleton.1 (sortBy_perm pltC [p])
theorem m1 : mergeV [ex2] [ex1] = ([ex1, ex2], 0) := by
 have h : mg [ex2] [ex1] = [ex1, ex2] := by
  rw [mg, if_neg (by decide +kernel), if_pos (by decide +kernel)]; simp [mg]
 unfold mergeV
 rw [h, if_neg (by decide +kernel), if_neg (by decide +kernel), if_neg (by decide +kernel), if_neg (by decide +kernel)]
theorem m2 : mergeV [ex1, ex2] [ex3] = ([ex1, ex2, ex3], 0) := by
 have h : mg [ex1, ex2] [ex3] = [ex1, ex2, ex3] := by
  rw [mg, if_neg (by decide +kernel), if_neg (by decide +kernel), mg, if_neg (by decide +kernel), if_neg (by decide +kernel)]; simp [mg]
 unfold mergeV
 rw [h, if_neg (by decide +kernel), if_neg (by decide +kernel), if_neg (by decide +kernel), if_neg (by decide +kernel)]
theorem m3 : mergeV [ex1] [ex4] = ([], 5) := by
 unfold mergeV
 rw [if_neg (by decide +kernel), if_neg (by decide +kernel), if_pos (by decide +kernel)]
theorem p1 : placesV [ex1, ex2] = [(pc3, 5, [4, 5])] := by
 unfold placesV
 rw [if_neg (by decide +kernel), sort_one (p := platesV 3) (by decide +kernel)]
 have ha : aboutP [ex1, ex2] (platesV 3) = [ex1, ex2] := by decide +kernel
 have ht : trail [ex1, ex2] = [5, 4] := by decide +kernel
 have hs : sortI [5, 4] = [4, 5] := sorted_unique ((sortI_perm _).trans (List.Perm.swap 4 5 [])) (sortI_sorted _) (by decide)
 simp only [List.map_cons, List.map_nil, ha]
 unfold placeV
 rw [ht, hs]
 decide +kernel
theorem p2 : placesV [ex1, ex2, ex3] = [(pc3, 0, [])] := by
 unfold placesV
 rw [if_neg (by decide +kernel), sort_one (p := platesV 3) (by decide +kernel)]
 have ha : aboutP [ex1, ex2, ex3] (platesV 3) = [ex1, ex2, ex3] := by decide +kernel
 have ht : trail [ex1, ex2, ex3] = [] := by decide +kernel
 have hs : sortI [] = [] := (sortI_perm []).eq_nil
 simp only [List.map_cons, List.map_nil, ha]
 unfold placeV
 rw [ht, hs]
 decide +kernel
theorem c1 : confV [ex1, ex2] = [platesV 3] := by unfold confV; rw [p1]; rfl
def con17 : Con := { ps := [], rs := [.d false .bool], pre := fun _ => True, out := fun x => (true, ()), nw := id }
theorem c17 : CtrOk Try.prog 17 con17.ctr :=
 con_sound (G := ⟨[(19, con19.ctr), (23, con23.ctr), (26, con26.ctr), (45, con45.ctr)], [], [], []⟩) tab_ok (EnvOk.cons c19 has19 (EnvOk.cons c23 has23 (EnvOk.cons c26 has26 (EnvOk.cons c45 has45 EnvOk.nil)))) rfl Try.func17 rfl con17 3071 (by kernel_rfl) (by decide) (by decide) rfl (by decide) rfl (by
  rintro _ hpre hwf X hT hG hk hK
  (simp -implicitDefEqProofs only [go_sem, Bool.not_eq_true', Bool.not_eq_false', Bool.or_eq_true, Bool.or_eq_false_iff, Bool.and_eq_true, Bool.and_eq_false_iff, decide_eq_true_eq, decide_eq_false_iff_not, Classical.not_not, not_or, maxLen, con17, con19, con23, con26, con45, hT, hG, hk, hK, Try.results17] at hwf ⊢); (try simp (disch := decide +kernel) only [drawn, true_and, and_true])
  simp only [m1, m2, m3, p1, p2, c1]
  (repeat' (with_reducible (first | refine And.intro ?_ ?_ | intro _))) <;> (try (first | with_reducible (first | done | assumption | omega | contradiction) | decide))
  all_goals try simp only [List.append_eq, List.cons_append, List.nil_append]
  all_goals try
   (simp -implicitDefEqProofs only [go_sem, Bool.not_eq_true', Bool.not_eq_false', Bool.or_eq_true, Bool.or_eq_false_iff, Bool.and_eq_true, Bool.and_eq_false_iff, decide_eq_true_eq, decide_eq_false_iff_not, Classical.not_not, not_or, maxLen, con17, con19, con23, con26, con45, hT, hG, hk, hK, Try.results17, m1, m2, m3, p1, p2, c1, List.getD_cons_zero, List.getD_cons_succ]); (try simp (disch := decide +kernel) only [drawn, true_and, and_true])
  (repeat' (with_reducible (first | refine And.intro ?_ ?_ | intro _))) <;> (try (first | with_reducible (first | done | assumption | omega | contradiction) | decide))
  all_goals skip)
def Rl (a b : Opn) : Prop := bfV a b = true ∧ (a.2.1 = b.2.1 → a.2.2.1 < b.2.2.1)
structure OkL (l : List Opn) : Prop where
 ok : ∀ o ∈ l, okOp o = true
 pw : l.Pairwise Rl
theorem getD_at {l : List Opn} {i : Nat} (h : i < l.length) : l.getD i o0 = l[i] := by simp [h]
theorem OkL.val {l : List Opn} (h : OkL l) (hl : l.length ≤ 360) : valV l = 0 := by
 refine valV_ok (by omega) fun k hk => stepErr_0 ?_ (fun h0 => ?_) ?_
 · rw [getD_at hk]; exact h.ok _ (List.getElem_mem hk)
 · rw [getD_at hk, getD_at (by omega : k - 1 < l.length)]
   exact (List.pairwise_iff_getElem.1 h.pw (k - 1) k (by omega) hk (by omega)).1
 · rintro ⟨j, hj, h1, h2⟩
   rw [getD_at hk, getD_at (by omega : j < l.length)] at h1 h2
   have := (List.pairwise_iff_getElem.1 h.pw j k (by omega) hk hj).2 h1
   omega
theorem OkL.of {l : List Opn} (h : valV l = 0) : OkL l := by
 obtain ⟨hl, hz⟩ := valV_zero h
 refine ⟨fun o ho => ?_, List.pairwise_iff_getElem.2 fun i j hi hj hij => ⟨List.pairwise_iff_getElem.1 (srt_of h) i j hi hj hij, fun hd => ?_⟩⟩
 · obtain ⟨i, hi, rfl⟩ := List.getElem_of_mem ho
   have := (stepErr_zero (hz i hi)).1
   rwa [getD_at hi] at this
 · have := (stepErr_zero (hz j hj)).2.2 i hij
   rw [getD_at hi, getD_at hj] at this
   exact this hd
theorem mg_mem (z : Opn) (a b : List Opn) : z ∈ mg a b ↔ z ∈ a ∨ z ∈ b := by
 fun_induction mg a b with
 | case1 => simp
 | case2 => simp
 | case3 a x b ih => rw [ih]; by_cases h1 : z = x <;> by_cases h2 : z ∈ a <;> by_cases h3 : z ∈ b <;> simp [h1, h2, h3]
 | case4 x a y b h1 h2 ih => simp only [List.mem_cons, ih]; by_cases h1 : z = x <;> by_cases h2 : z ∈ a <;> by_cases h3 : z ∈ b <;> by_cases h4 : z = y <;> simp [h1, h2, h3, h4]
 | case5 x a y b h1 h2 ih => simp only [List.mem_cons, ih]; by_cases h1 : z = x <;> by_cases h2 : z ∈ a <;> by_cases h3 : z ∈ b <;> by_cases h4 : z = y <;> simp [h1, h2, h3, h4]
theorem mgR_mem (z : Opn) (a b : List Opn) : z ∈ mgR a b → z ∈ a ∨ z ∈ b := by
 fun_induction mgR a b with
 | case1 => exact .inr
 | case2 => exact .inl
 | case3 x a y b h1 ih =>
   intro h
   rcases List.mem_cons.1 h with rfl | h
   · exact .inl (List.mem_cons_self ..)
   · rcases ih h with h | h
     · exact .inl (List.mem_cons_of_mem _ h)
     · exact .inr h
 | case4 x a y b h1 h2 ih =>
   intro h
   rcases List.mem_cons.1 h with rfl | h
   · exact .inr (List.mem_cons_self ..)
   · rcases ih h with h | h
     · exact .inl h
     · exact .inr (List.mem_cons_of_mem _ h)
 | case5 x a y b h1 h2 ih =>
   intro h
   rcases List.mem_cons.1 h with rfl | h
   · exact .inl (List.mem_cons_self ..)
   · rcases ih h with h | h
     · exact .inl (List.mem_cons_of_mem _ h)
     · exact .inr (List.mem_cons_of_mem _ h)
theorem mgR_srt (a b : List Opn) : Srt a → Srt b → NoD a b → Srt (mgR a b) := by
 fun_induction mgR a b with
 | case1 => exact fun _ h _ => h
 | case2 => exact fun h _ _ => h
 | case3 x a y b h1 ih =>
   intro sa sb nd
   have sa' := List.pairwise_cons.1 sa
   have sb' := List.pairwise_cons.1 sb
   refine List.pairwise_cons.2 ⟨fun z hz => ?_, ih sa'.2 sb fun u hu v hv => nd u (List.mem_cons_of_mem _ hu) v hv⟩
   rcases mgR_mem _ _ _ hz with h | h
   · exact sa'.1 z h
   · rcases List.mem_cons.1 h with rfl | h
     · exact h1
     · exact bfV_trans h1 (sb'.1 z h)
 | case4 x a y b h1 h2 ih =>
   intro sa sb nd
   have sa' := List.pairwise_cons.1 sa
   have sb' := List.pairwise_cons.1 sb
   refine List.pairwise_cons.2 ⟨fun z hz => ?_, ih sa sb'.2 fun u hu v hv => nd u hu v (List.mem_cons_of_mem _ hv)⟩
   rcases mgR_mem _ _ _ hz with h | h
   · rcases List.mem_cons.1 h with rfl | h
     · exact h2
     · exact bfV_trans h2 (sa'.1 z h)
   · exact sb'.1 z h
 | case5 x a y b h1 h2 ih =>
   intro sa sb nd
   have sa' := List.pairwise_cons.1 sa
   have sb' := List.pairwise_cons.1 sb
   obtain ⟨k1, k2⟩ := bfV_tot (by simpa using h1) (by simpa using h2)
   have e : x = y := nd x (List.mem_cons_self ..) y (List.mem_cons_self ..) k1 k2
   refine List.pairwise_cons.2 ⟨fun z hz => ?_, ih sa'.2 sb'.2 fun u hu v hv => nd u (List.mem_cons_of_mem _ hu) v (List.mem_cons_of_mem _ hv)⟩
   rcases mgR_mem _ _ _ hz with h | h
   · exact sa'.1 z h
   · rw [e]; exact sb'.1 z h
theorem srt_sub : ∀ {b a : List Opn}, Srt a → Srt b → (∀ x ∈ a, x ∈ b) → a.Sublist b
 | [], [], _, _, _ => List.Sublist.slnil
 | [], x :: a, _, _, h => by have := h x (List.mem_cons_self ..); cases this
 | y :: b, [], _, _, _ => List.nil_sublist _
 | y :: b, x :: a, sa, sb, h => by
   have sa' := List.pairwise_cons.1 sa
   have sb' := List.pairwise_cons.1 sb
   have nx : ∀ {u : Opn} {r : List Opn} {z : Opn}, (∀ w ∈ r, bfV u w = true) → z ∈ r → z ≠ u := fun hr hz q => by
    have := hr _ hz
    rw [q, bfV_irr] at this
    cases this
   by_cases e : x = y
   · subst e
     exact (srt_sub sa'.2 sb'.2 fun z hz => (List.mem_cons.1 (h z (List.mem_cons_of_mem _ hz))).resolve_left (nx sa'.1 hz)).cons_cons _
   · have hx := (List.mem_cons.1 (h x (List.mem_cons_self ..))).resolve_left e
     have hyx := sb'.1 x hx
     refine (srt_sub sa sb'.2 fun z hz => (List.mem_cons.1 (h z hz)).resolve_left fun q => ?_).cons _
     subst q
     rcases List.mem_cons.1 hz with q | q
     · exact e q.symm
     · have := sa'.1 z q
       rw [bfV_asym hyx] at this
       cases this
/-- A sorted part of a valid list. -/
structure PartOf (all a : List Opn) : Prop where
 srt : Srt a
 mem : ∀ x ∈ a, x ∈ all
theorem OkL.srt {l : List Opn} (h : OkL l) : Srt l := h.pw.imp fun h => h.1
theorem OkL.sub {l a : List Opn} (h : OkL l) (s : a.Sublist l) : OkL a := ⟨fun o ho => h.ok o (s.subset ho), h.pw.sublist s⟩
theorem PartOf.sub {all a : List Opn} (h : OkL all) (p : PartOf all a) : a.Sublist all := srt_sub p.srt h.srt p.mem
theorem PartOf.of {all a : List Opn} (h : OkL all) (s : a.Sublist all) : PartOf all a := ⟨(h.sub s).srt, fun x hx => s.subset hx⟩
theorem PartOf.val {all a : List Opn} (h : OkL all) (hl : all.length ≤ 360) (p : PartOf all a) : valV a = 0 := (h.sub (p.sub h)).val (Nat.le_trans (p.sub h).length_le hl)
theorem PartOf.mg {all a b : List Opn} (h : OkL all) (hl : all.length ≤ 360) (p : PartOf all a) (q : PartOf all b) : mergeV a b = (mg a b, 0) ∧ PartOf all (mg a b) := by
 have nd : NoD a b := fun x hx y hy h1 h2 => uniq_name (h.val hl) (p.mem x hx) (q.mem y hy) h1 h2
 have e := mg_eq_mgR _ a b (Nat.le_refl _) p.srt q.srt nd
 have hm : PartOf all (Go.Proofs.Ythiddcobegnokaa.mg a b) := ⟨by rw [e]; exact mgR_srt a b p.srt q.srt nd, fun x hx => ((mg_mem x a b).1 hx).elim (p.mem x) (q.mem x)⟩
 refine ⟨?_, hm⟩
 unfold mergeV
 rw [if_neg (by rw [p.val h hl]; simp), if_neg (by rw [q.val h hl]; simp), if_neg (by rw [noD_iff.2 nd]; simp), if_neg (by rw [hm.val h hl]; simp)]
/-- The list that Ops builds. -/
structure Gn (l : List Opn) (t : Int) (sq : List Int) : Prop where
 ok : ∀ o ∈ l, okOp o = true
 tm : ∀ o ∈ l, o.1 ≤ t
 dv : ∀ o ∈ l, 1 ≤ o.2.1 ∧ o.2.1 ≤ 4
 sn : ∀ o ∈ l, o.2.2.1 ≤ sq.getD o.2.1.toNat 0
 pw : l.Pairwise Rl
theorem Gn.nil (t : Int) (sq : List Int) : Gn [] t sq := ⟨fun _ h => (by cases h), fun _ h => (by cases h), fun _ h => (by cases h), fun _ h => (by cases h), List.Pairwise.nil⟩
theorem Gn.okl {l : List Opn} {t : Int} {sq : List Int} (h : Gn l t sq) : OkL l := ⟨h.ok, h.pw⟩
theorem set_at {sq : List Int} {i : Nat} {x : Int} (h : i < sq.length) (j : Nat) : (sq.set i x).getD j 0 = if i = j then x else sq.getD j 0 := by
 rw [List.getD_eq_getElem?_getD, List.getElem?_set]
 by_cases e : i = j
 · subst e; simp [h]
 · simp [e, List.getD_eq_getElem?_getD]
theorem Gn.ins {l : List Opn} {t : Int} {sq : List Int} (h : Gn l t sq) {o : Opn} {i : Nat} (ho : okOp o = true) (hd : 1 ≤ o.2.1 ∧ o.2.1 ≤ 4) (ht : t ≤ o.1) (hq : sq.length = 5) (hs : sq.getD o.2.1.toNat 0 < o.2.2.1) (hi : i ≤ l.length)
 (aft : ∀ z ∈ l.drop i, z.1 = o.1 ∧ o.2.1 < z.2.1) (bef : 0 < i → ¬ ((l.getD (i - 1) o0).1 = o.1 ∧ o.2.1 < (l.getD (i - 1) o0).2.1)) : Gn (l.take i ++ o :: l.drop i) o.1 (sq.set o.2.1.toNat o.2.2.1) := by
 have hm : ∀ z, z ∈ l.take i ++ o :: l.drop i → z = o ∨ z ∈ l := fun z hz => by
  rcases List.mem_append.1 hz with k | k
  · exact .inr (List.mem_of_mem_take k)
  · rcases List.mem_cons.1 k with k | k
    · exact .inl k
    · exact .inr (List.mem_of_mem_drop k)
 refine ⟨fun z hz => ?_, fun z hz => ?_, fun z hz => ?_, fun z hz => ?_, ?_⟩
 · rcases hm z hz with rfl | k
   · exact ho
   · exact h.ok z k
 · rcases hm z hz with rfl | k
   · exact Int.le_refl _
   · exact Int.le_trans (h.tm z k) ht
 · rcases hm z hz with rfl | k
   · exact hd
   · exact h.dv z k
 · rw [set_at (by omega)]
   rcases hm z hz with rfl | k
   · rw [if_pos rfl]; exact Int.le_refl _
   · have h1 := h.sn z k
     have h2 := h.dv z k
     split
     · rename_i e
       have e2 : z.2.1 = o.2.1 := by omega
       rw [e2] at h1; omega
     · exact h1
 · have hp : (l.take i ++ l.drop i).Pairwise Rl := by rw [List.take_append_drop]; exact h.pw
   rw [List.pairwise_append] at hp
   refine List.pairwise_append.2 ⟨hp.1, List.pairwise_cons.2 ⟨fun z hz => ?_, hp.2.1⟩, fun x hx z hz => ?_⟩
   · obtain ⟨a1, a2⟩ := aft z hz
     refine ⟨?_, fun q => by omega⟩
     unfold bfV; rw [decide_eq_true_eq]; omega
   · rcases List.mem_cons.1 hz with rfl | hz
     · have hx' := List.mem_of_mem_take hx
       have hs1 := h.sn x hx'
       have hd1 := h.dv x hx'
       have ht1 := h.tm x hx'
       obtain ⟨j, hj, rfl⟩ := List.getElem_of_mem hx
       have hj2 : j < i := by simp at hj; omega
       have hjl : j < l.length := by omega
       rw [List.getElem_take] at *
       have hb := bef (by omega)
       rw [getD_at (by omega : i - 1 < l.length)] at hb
       have hlast := h.tm _ (List.getElem_mem (by omega : i - 1 < l.length))
       have hseq : (l[j]).2.1 = z.2.1 → (l[j]).2.2.1 < z.2.2.1 := fun e => by rw [e] at hs1; omega
       refine ⟨?_, hseq⟩
       unfold bfV; rw [decide_eq_true_eq]
       by_cases e1 : (l[j]).1 < z.1
       · exact .inl e1
       · refine .inr ⟨by omega, ?_⟩
         have hle : (l[j]).2.1 ≤ z.2.1 := by
          by_cases e2 : j = i - 1
          · subst e2; omega
          · have hr := (List.pairwise_iff_getElem.1 h.pw j (i - 1) hjl (by omega) (by omega)).1
            unfold bfV at hr; rw [decide_eq_true_eq] at hr
            omega
         by_cases e3 : (l[j]).2.1 < z.2.1
         · exact .inl e3
         · have e4 : (l[j]).2.1 = z.2.1 := by omega
           exact .inr ⟨e4, hseq e4⟩
     · exact hp.2.2 x hx z hz
end Go.Proofs.Ythiddcobegnokaa

/- Operations: the generators. -/
set_option linter.unusedSimpArgs false
set_option linter.unusedVariables false
set_option maxRecDepth 100000
set_option maxHeartbeats 8000000
namespace Go.Proofs.Ythiddcobegnokaa
open Go.Ev

theorem rep_at (d : Nat) : (List.replicate 5 (0 : Int)).getD d 0 = 0 := by
 rw [List.getD_eq_getElem?_getD, List.getElem?_replicate]
 split <;> rfl
theorem tdiv_bd (x m n : Int) (h0 : 0 ≤ x) (h1 : x ≤ m) (h : 0 < n) : 0 ≤ x.tdiv n ∧ x.tdiv n ≤ m.tdiv n := by
 rw [Int.tdiv_eq_ediv_of_nonneg h0, Int.tdiv_eq_ediv_of_nonneg (by omega)]
 exact ⟨Int.ediv_nonneg h0 (by omega), Int.ediv_le_ediv h h1⟩
theorem ins_shift (l : List Opn) (z o : Opn) (i : Nat) (hi : i ≤ l.length) :
 (List.take (i + 1) (l ++ [z]) ++ (List.take (min (l.length - i) (List.drop i (List.take (i + (l.length + 1 - i)) (l ++ [z]))).length) (List.drop i (List.take (i + (l.length + 1 - i)) (l ++ [z]))) ++ List.drop (i + 1 + min (l.length - i) (List.drop i (List.take (i + (l.length + 1 - i)) (l ++ [z]))).length) (l ++ [z]))).length = l.length + 1
 ∧ (List.take (i + 1) (l ++ [z]) ++ (List.take (min (l.length - i) (List.drop i (List.take (i + (l.length + 1 - i)) (l ++ [z]))).length) (List.drop i (List.take (i + (l.length + 1 - i)) (l ++ [z]))) ++ List.drop (i + 1 + min (l.length - i) (List.drop i (List.take (i + (l.length + 1 - i)) (l ++ [z]))).length) (l ++ [z]))).set i o = l.take i ++ o :: l.drop i := by
 have h1 : List.take (i + (l.length + 1 - i)) (l ++ [z]) = l ++ [z] := List.take_of_length_le (by simp; omega)
 have h2 : List.drop i (l ++ [z]) = List.drop i l ++ [z] := List.drop_append_of_le_length hi
 have h3 : (List.drop i l ++ [z]).length = l.length - i + 1 := by simp
 have hl : i < (l ++ [z]).length := by simp; omega
 have h4 : List.take (i + 1) (l ++ [z]) = List.take i l ++ [(l ++ [z])[i]] := by rw [List.take_succ_eq_append_getElem hl, List.take_append_of_le_length hi]
 have h5 : min (l.length - i) (l.length - i + 1) = l.length - i := by omega
 have h6 : List.drop (i + 1 + (l.length - i)) (l ++ [z]) = [] := List.drop_of_length_le (by simp; omega)
 have h7 : List.take (l.length - i) (List.drop i l ++ [z]) = List.drop i l := by
  rw [List.take_append_of_le_length (by simp), List.take_of_length_le (by simp)]
 have h8 : (List.take i l).length = i := by simp; omega
 rw [h1, h2, h3, h5, h6, h4, h7, List.append_nil, List.append_assoc]
 constructor
 · simp; omega
 · rw [List.set_append_right _ _ (by omega), h8, Nat.sub_self]
   rfl
/-- What Ops gives. -/
structure OpsR (c : Int) (l : List Opn) : Prop where
 okl : OkL l
 len : l.length ≤ 30
 dv : ∀ o ∈ l, 1 ≤ o.2.1 ∧ o.2.1 ≤ 4
 tm : ∀ o ∈ l, o.1 ≤ 100
 bx : ∀ o ∈ l, 1 ≤ o.2.2.2.2.1 ∧ o.2.2.2.2.1 ≤ c
structure OInv (c t : Int) (k : Int) (sq : List Int) (l : List Opn) : Prop where
 gn : Gn l t sq
 kl : (l.length : Int) + k ≤ 30
 t0 : 0 ≤ t
 t1 : t ≤ 2 * l.length
 sl : sq.length = 5
 s0 : ∀ d, 0 ≤ sq.getD d 0
 s1 : ∀ d, sq.getD d 0 ≤ 2 * l.length
 bx : ∀ o ∈ l, 1 ≤ o.2.2.2.2.1 ∧ o.2.2.2.2.1 ≤ c
def con11 : RCon := { ps := [.p 74 ySR, .d false (.int .i64), .d false (.int .i64), .d false (.int .i64)], rs := [.d false (.sl yOP)], pre := fun (x : Src × Int × Int × Int × Unit) => 0 ≤ x.1.2 ∧ x.2.1 ≤ 30 ∧ 0 ≤ x.2.1 ∧ 1 ≤ x.2.2.2.1 ∧ x.2.2.2.1 ≤ 900, rel := fun (x : Src × Int × Int × Int × Unit) (y : List Opn × Unit) (z : Src × Int × Int × Int × Unit) => 0 ≤ z.1.2 ∧ OpsR x.2.2.2.1 y.1 }
theorem c11 : RCtrOk Try.prog 11 con11.rctr :=
 rcon_sound (G := ⟨[(39, con39.ctr), (40, con40.ctr)], [], [(92, 1), (95, 1)], []⟩) tab_ok (EnvOk.cons c39 has39 (EnvOk.cons c40 has40 EnvOk.nil)) rfl Try.func11 rfl con11 4835703278458516700987151 (by kernel_rfl) (by decide) (by decide) rfl (by decide) rfl (by
  rintro ⟨⟨(s : List Int), (a : Int)⟩, (most : Int), (n : Int), (c : Int), _⟩ hpre hwf X hT hG hk hK
  (simp -implicitDefEqProofs only [go_sem, Bool.not_eq_true', Bool.not_eq_false', Bool.or_eq_true, Bool.or_eq_false_iff, Bool.and_eq_true, Bool.and_eq_false_iff, decide_eq_true_eq, decide_eq_false_iff_not, Classical.not_not, not_or, maxLen, con11, con39, con40, hT, hG, hk, hK, Try.results11] at hwf ⊢); (try simp (disch := decide +kernel) only [drawn, true_and, and_true])
  obtain ⟨h1, h2, h3, h4, h5⟩ : 0 ≤ a ∧ most ≤ 30 ∧ 0 ≤ most ∧ 1 ≤ c ∧ c ≤ 900 := hpre
  have hs1 : 0 ≤ (Src.step (s, a)).snd := step_pos h1
  have hkb := goMod_bd (Src.raw (s, a)) (most + 1) (by omega)
  generalize goMod (Src.raw (s, a)) (most + 1) = K at hkb ⊢
  generalize Src.step (s, a) = S1 at hs1 ⊢
  obtain ⟨s1, a1⟩ := S1
  refine ⟨by omega, h1, fun _ => ?_⟩
  refine evk_loop ⟨{ q : Src × List Opn × List Int × Int × Int // 0 ≤ q.1.2 ∧ OInv c q.2.2.2.1 q.2.2.2.2 q.2.2.1 q.2.1 ∧ 0 ≤ q.2.2.2.2 }, 1000, fun q => [(0, .one (.loc 0 0)), (2, .one (.int .i64 n)), (3, .one (.int .i64 c)), (9, .one (.row 64)), (10, .one (.ep 65 1 0 0)), (11, .one (.int .i64 q.1.2.2.2.1)), (12, .one (.int .i64 q.1.2.2.2.2))],
   fun q => [(0, .cells 74 [.sl (.int .i64) q.1.1.1 false, .int .i64 q.1.1.2]), (64, .row 37 yOP q.1.2.1), (65, .row 75 (.int .i64) q.1.2.2.1)], fun q => q.1.2.2.2.2.toNat⟩ ⟨((s1, a1), [], List.replicate 5 0, 0, K), hs1, ⟨Gn.nil _ _, by simp only [List.length_nil]; omega, Int.le_refl _, by simp, by simp, fun d => (by rw [rep_at]; exact Int.le_refl _), fun d => (by rw [rep_at]; simp), fun o h => (by cases h)⟩, by simp only; omega⟩ ?_ ?_
  · simp only [go_sem]
    try (first | rfl | exact ⟨rfl, rfl⟩)
  · rintro ⟨⟨⟨s, a⟩, l, sq, t, k⟩, (h1 : 0 ≤ a), (hI : OInv c t k sq l), (hk0 : 0 ≤ k)⟩
    (simp -implicitDefEqProofs only [go_sem, Bool.not_eq_true', Bool.not_eq_false', Bool.or_eq_true, Bool.or_eq_false_iff, Bool.and_eq_true, Bool.and_eq_false_iff, decide_eq_true_eq, decide_eq_false_iff_not, Classical.not_not, not_or, maxLen, con11, con39, con40, hT, hG, hk, hK, Try.results11]); (try simp (disch := decide +kernel) only [drawn, true_and, and_true])
    obtain ⟨gn, kl, t0, t1, sl, s0, sb1, bx⟩ := hI
    have p1 : 0 ≤ (Src.step (s, a)).snd := step_pos h1
    have p2 : 0 ≤ (Src.step (s, a)).step.snd := step_pos p1
    have p3 : 0 ≤ (Src.step (s, a)).step.step.snd := step_pos p2
    have p4 : 0 ≤ (Src.step (s, a)).step.step.step.snd := step_pos p3
    have p5 : 0 ≤ (Src.step (s, a)).step.step.step.step.snd := step_pos p4
    have r1 := goMod_bd (Src.raw (s, a)) 3 (by omega)
    have r2 := goMod_bd (Src.step (s, a)).raw 4 (by omega)
    have r3 := goMod_bd (Src.step (s, a)).step.raw 8 (by omega)
    have r4 := goMod_bd (Src.step (s, a)).step.step.raw 4 (by omega)
    have r5 := goMod_bd (Src.step (s, a)).step.step.step.raw c (by omega)
    have r6 := tdiv_bd (goMod (Src.step (s, a)).step.raw 8) 7 7 (by omega) (by omega) (by omega)
    have r7 := tdiv_bd (goMod (Src.step (s, a)).step.step.raw 4) 3 3 (by omega) (by omega) (by omega)
    generalize (goMod (Src.step (s, a)).step.raw 8).tdiv 7 = V at r6 ⊢
    generalize (goMod (Src.step (s, a)).step.step.raw 4).tdiv 3 = W at r7 ⊢
    generalize goMod (Src.raw (s, a)) 3 = T at r1 ⊢
    generalize goMod (Src.step (s, a)).raw 4 = D at r2 ⊢
    generalize goMod (Src.step (s, a)).step.step.step.raw c = B at r5 ⊢
    have p8 : 0 ≤ (Src.step (s, a)).step.step.step.step.step.step.step.snd := step_pos (step_pos (step_pos p5))
    have hpc := pieceV_ok (Src.step (s, a)).step.step.step.step n
    generalize (Src.step (s, a)).step.step.step.step.step.step.step = S8 at p8 ⊢
    generalize (Src.step (s, a)).step.step.step.step = S5 at p5 hpc ⊢
    generalize pieceV S5 n = P at hpc ⊢
    obtain ⟨⟨P1, P2, P3⟩, P4, P5⟩ := P
    obtain ⟨s8, a8⟩ := S8
    have p8 : 0 ≤ a8 := p8
    have q0 := s0 (1 + D).toNat
    have q1 := sb1 (1 + D).toNat
    have st := set_at (sq := sq) (i := (1 + D).toNat) (x := sq.getD (1 + D).toNat 0 + (1 + V)) (by omega) (1 + D).toNat
    rw [if_pos rfl] at st
    have e6 : (7 : Int).tdiv 7 = 1 := by decide
    have e7 : (3 : Int).tdiv 3 = 1 := by decide
    rw [e6] at r6
    rw [e7] at r7
    simp only [st, List.length_set, sl]
    generalize hQ : sq.getD (1 + D).toNat 0 = Q at q0 q1 st ⊢
    (repeat' (with_reducible (first | refine And.intro ?_ ?_ | intro _))) <;> (try (first | with_reducible (first | done | assumption | omega | contradiction) | decide))
    · refine evk_loop ⟨{ i : Nat // i ≤ l.length ∧ ∀ z ∈ l.drop i, z.1 = t + T ∧ 1 + D < z.2.1 }, 1000, fun q => [(0, .one (.loc 0 0)), (2, .one (.int .i64 n)), (3, .one (.int .i64 c)), (9, .one (.row 64)), (10, .one (.ep 65 1 0 0)), (11, .one (.int .i64 (t + T))), (12, .one (.int .i64 k)), (14, .one (.loc 71 0)), (15, .one (.int .i64 q.1))],
       fun q => [(0, .cells 74 [.sl (.int .i64) s8 false, .int .i64 a8]), (64, .row 37 yOP l), (65, .row 75 (.int .i64) (sq.set (1 + D).toNat (Q + (1 + V)))), (71, .cells 37 [.int .i64 (t + T), .int .i64 (1 + D), .int .i64 (Q + (1 + V)), .int .i64 (1 + W), .int .i64 (1 + B), .int .i64 P1, .int .i64 P2, .int .i64 P3, .int .i64 P4, .int .i64 P5])], fun q => q.1⟩ ⟨l.length, Nat.le_refl _, by simp⟩ ?_ ?_
      · simp only [go_sem]
        try (first | rfl | exact ⟨rfl, rfl⟩)
      · rintro ⟨i, (hi : i ≤ l.length), (hd : ∀ z ∈ l.drop i, z.1 = t + T ∧ 1 + D < z.2.1)⟩
        (simp -implicitDefEqProofs only [go_sem, Bool.not_eq_true', Bool.not_eq_false', Bool.or_eq_true, Bool.or_eq_false_iff, Bool.and_eq_true, Bool.and_eq_false_iff, decide_eq_true_eq, decide_eq_false_iff_not, Classical.not_not, not_or, maxLen, con11, con39, con40, hT, hG, hk, hK, Try.results11]); (try simp (disch := decide +kernel) only [drawn, true_and, and_true])
        obtain ⟨u, hu⟩ : ∃ u, l.getD ((i : Int) - 1).toNat (0, 0, 0, 0, 0, (0, 0, 0), 0, 0) = u := ⟨_, rfl⟩
        have hu2 : l.getD (i - 1) o0 = u := by rw [← hu]; congr 1; omega
        simp only [hu]
        refine ⟨by omega, by omega, fun _ => ⟨by omega, fun _ => ⟨by omega, by omega, fun _ => ⟨by omega, fun _ => ⟨fun hc => ⟨by omega, ?_⟩, fun hc => ?_⟩⟩⟩⟩⟩
        · refine fin_lp ⟨i - 1, by omega, fun z hz => ?_⟩ ?_ (by dsimp only; omega)
          · rw [List.drop_eq_getElem_cons (by omega : i - 1 < l.length), show i - 1 + 1 = i by omega] at hz
            rcases List.mem_cons.1 hz with rfl | hz
            · rw [getD_at (by omega : i - 1 < l.length)] at hu2
              rw [hu2]; exact ⟨hc.1.2, by omega⟩
            · exact hd z hz
          · simp only [go_sem]
            try (first | rfl | exact ⟨rfl, rfl⟩ | (and_intros <;> first | rfl | omega))
        · have ll : (l ++ [((0, 0, 0, 0, 0, (0, 0, 0), 0, 0) : Opn)]).length = l.length + 1 := by simp
          have ln := gn.okl
          have lb : l.length ≤ 30 := by omega
          have e1 : ((i : Int) + 1).toNat = i + 1 := by omega
          have e2 : ((l.length + 1 : Nat) - ((i : Int) + 1)).toNat = l.length - i := by omega
          have e3 : ((l.length + 1 : Nat) - (i : Int)).toNat = l.length + 1 - i := by omega
          have e4 : (i : Int).toNat = i := by omega
          have w1 : (i + 1) + (l.length - i) ≤ l.length + 1 := by omega
          have w2 : i + (l.length + 1 - i) ≤ l.length + 1 := by omega
          simp only [ll, e1, e2, e3, e4]
          refine ⟨by omega, by omega, by omega, by omega, ?_⟩
          (simp -implicitDefEqProofs only [go_sem, Bool.not_eq_true', Bool.not_eq_false', Bool.or_eq_true, Bool.or_eq_false_iff, Bool.and_eq_true, Bool.and_eq_false_iff, decide_eq_true_eq, decide_eq_false_iff_not, Classical.not_not, not_or, maxLen, con11, con39, con40, hT, hG, hk, hK, Try.results11, w1, w2, ll]); (try simp (disch := decide +kernel) only [drawn, true_and, and_true])
          obtain ⟨i1, i2⟩ := ins_shift l ((0, 0, 0, 0, 0, (0, 0, 0), 0, 0) : Opn) (t + T, 1 + D, Q + (1 + V), 1 + W, 1 + B, (P1, P2, P3), P4, P5) i hi
          rw [e4]
          rw [i1, i2]
          refine ⟨by omega, fun _ => ⟨by omega, by omega, ?_⟩⟩
          have ok : okOp (t + T, 1 + D, Q + (1 + V), 1 + W, 1 + B, (P1, P2, P3), P4, P5) = true := by
           unfold okOp inV
           simp only [hpc, Bool.and_eq_true, Bool.or_eq_true, decide_eq_true_eq, and_true]
           omega
          have hmm : ∀ z ∈ l.take i ++ (t + T, 1 + D, Q + (1 + V), 1 + W, 1 + B, (P1, P2, P3), P4, P5) :: l.drop i, 1 ≤ z.2.2.2.2.1 ∧ z.2.2.2.2.1 ≤ c := fun z hz => by
           rcases List.mem_append.1 hz with h | h
           · exact bx z (List.mem_of_mem_take h)
           · rcases List.mem_cons.1 h with rfl | h
             · exact ⟨by dsimp only; omega, by dsimp only; omega⟩
             · exact bx z (List.mem_of_mem_drop h)
          have hgn := gn.ins (o := (t + T, 1 + D, Q + (1 + V), 1 + W, 1 + B, (P1, P2, P3), P4, P5)) (i := i) ok ⟨by dsimp only; omega, by dsimp only; omega⟩ (by dsimp only; omega) sl (by dsimp only; rw [hQ]; omega) hi hd (fun h0 q => by rw [hu2] at q; have q1 : u.1 = t + T := q.1; have q2 : 1 + D < u.2.1 := q.2; omega)
          have hlen : (l.take i ++ (t + T, 1 + D, Q + (1 + V), 1 + W, 1 + B, (P1, P2, P3), P4, P5) :: l.drop i).length = l.length + 1 := by simp; omega
          have sg : ∀ d, (sq.set (1 + D).toNat (Q + (1 + V))).getD d 0 = if (1 + D).toNat = d then Q + (1 + V) else sq.getD d 0 := fun d => set_at (by omega) d
          refine fin_lp ⟨((s8, a8), l.take i ++ (t + T, 1 + D, Q + (1 + V), 1 + W, 1 + B, (P1, P2, P3), P4, P5) :: l.drop i, sq.set (1 + D).toNat (Q + (1 + V)), t + T, k - 1), p8, ⟨hgn, ?_, ?_, ?_, ?_, fun d => ?_, fun d => ?_, hmm⟩, ?_⟩ ?_ ?_
          · rw [hlen]; dsimp only; omega
          · dsimp only; omega
          · rw [hlen]; dsimp only; omega
          · simp only [List.length_set]; exact sl
          · rw [sg]
            have := s0 d
            split <;> omega
          · rw [sg, hlen]
            have := sb1 d
            split <;> omega
          · dsimp only; omega
          · simp only [go_sem]
            try (first | rfl | exact ⟨rfl, rfl⟩ | (and_intros <;> first | rfl | omega))
          · dsimp only; omega
    · exact ⟨(l, ()), ((s, a), most, n, c, ()), ⟨h1, ⟨gn.okl, (show l.length ≤ 30 by omega), gn.dv, fun o ho => by have := gn.tm o ho; omega, bx⟩⟩, rfl, rfl, rfl⟩)
end Go.Proofs.Ythiddcobegnokaa

/- Operations: the reference's places. -/
set_option linter.unusedSimpArgs false
set_option linter.unusedVariables false
set_option maxRecDepth 100000
set_option maxHeartbeats 8000000
namespace Go.Proofs.Ythiddcobegnokaa
open Go.Ev

def z0 : Plc := (((0, 0, 0), 0, 0), 0, [])
theorem okOp_kind {o : Opn} (h : okOp o = true) : o.kind = 1 ∨ o.kind = 2 := by
 unfold okOp at h
 simp only [Bool.and_eq_true, Bool.or_eq_true, decide_eq_true_eq] at h
 exact h.1.1.2
end Go.Proofs.Ythiddcobegnokaa

/- The keys of a map, sorted: contracts of maps.Keys and slices.Sorted. -/
set_option linter.unusedSimpArgs false
set_option linter.unusedVariables false
namespace Go.Ev
open Go.Proofs (encStr)
variable {cx : Cx} {σ : Nat → Value} {N : Nat → Prop} {m : Mem} {w : World} {P : Program}

/-- Bytes, sorted. -/
def bytesOf (s : ByteArray) : List UInt8 := s.data.toList
def sortK (xs : List ByteArray) : List ByteArray := ((xs.map bytesOf).mergeSort leB).map fun l => ⟨l.toArray⟩

/-- A contract given as an effect. -/
structure Raw where
 ctr : Ctr
/-- The map is boxed; the function value captures the box. -/
def keysCtr (tb : TypeId) (g : FuncId) : Ctr := fun avs m fr => match avs with
 | [.one (.map id)] => (match m id with
   | .mapb .. => ⟨True, .one (.fn g [.loc fr 0]), [(fr, .cells tb [.map id])], True⟩
   | _ => bad)
 | _ => bad
def skEff (e : TypeId) (fr : Nat) : Blk → Eff
 | .mapb .str vt false va l => if stq .str vt = true then ⟨l.length ≤ 1000000, .one (.row fr), [(fr, .row e .str (sortK (l.map Prod.fst)))], True⟩ else bad
 | _ => bad
def sortedCtr (g : FuncId) (tb e : TypeId) : Ctr := fun avs m fr => match avs with
 | [.one (.fn g' [.loc i 0])] => (match m i with
   | .cells tb' [.map im] => if g' = g ∧ tb' = tb then skEff e fr (m im) else bad
   | _ => bad)
 | _ => bad

attribute [go_sem] keysCtr sortedCtr skEff stq
end Go.Ev
