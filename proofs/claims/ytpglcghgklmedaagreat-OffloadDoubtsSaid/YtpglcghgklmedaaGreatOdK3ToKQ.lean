/- A part. -/
import Derived.Test.YtpglcghgklmedaaGreatOdKEToK2
import Derived.Test.YtpglcghgklmedaaGreatOdKCToKA
set_option maxRecDepth 100000
set_option maxHeartbeats 8000000
namespace Go.Proofs.YtpglcghgklmedaaGreat
open Go.Ev
def aboutP (l : List Opn) (p : Plt) : List Opn := l.filter (fun o => decide (o.plate = p))
def placesV (l : List Opn) : List Plc := if valV l ≠ 0 then [] else (sortBy pltC (abK l)).map (fun p => placeV (aboutP l p))
theorem mget_zip (k : Plt) : ∀ (ks : List Plt) (vs : List (List Opn)), ks.length = vs.length → k ∈ ks → mget (kt := yPL) (ks.zip vs) k = some (vs.getD (kidx (kt := yPL) k ks) [])
 | [], _, _, h => by cases h
 | a :: ks, [], h, _ => by simp at h
 | a :: ks, v :: vs, h, hm => by
   simp only [List.zip_cons_cons, mget, kidx]
   by_cases e : k = a
   · rw [if_pos (by rw [pl_eq]; simpa using e), if_pos (by rw [pl_eq]; simpa using e)]; rfl
   · rw [if_neg (by rw [pl_eq]; simpa using e), if_neg (by rw [pl_eq]; simpa using e)]
     rw [mget_zip k ks vs (by simpa using h) ((List.mem_cons.1 hm).resolve_left e)]
     rfl
theorem about_get {l : List Opn} {p : Plt} (h : p ∈ sortBy pltC (abK l)) : mget (kt := yPL) ((abK l).zip (abG l)) p = some (aboutP l p) := by
 have hm := (sortBy_perm pltC (abK l)).mem_iff.1 h
 rw [mget_zip p _ _ (abG_len l).symm hm, abG_at hm]
 rfl
theorem about_ne {l : List Opn} {p : Plt} (h : p ∈ sortBy pltC (abK l)) : aboutP l p ≠ [] := by
 have hm := (sortBy_perm pltC (abK l)).mem_iff.1 h
 obtain ⟨o, ho, e⟩ := (abK_mem p l).1 hm
 exact List.ne_nil_of_mem (List.mem_filter.2 ⟨ho, by simpa using e⟩)
theorem about_len (l : List Opn) (p : Plt) : (aboutP l p).length ≤ l.length := List.length_filter_le _ _
theorem sortBy_len (l : List Opn) : (sortBy pltC (abK l)).length ≤ l.length := by rw [(sortBy_perm _ _).length_eq]; exact abK_len l
def con8 : Con := { ps := [.d false (.sl yOP)], rs := [.d false (.sl yPM)], pre := fun _ => True, out := fun (x : List Opn × Unit) => (placesV x.1, ()), nw := id }
theorem c8 : CtrOk Tryz.prog 8 con8.ctr :=
 con_sound (G := ⟨[(24, con24.ctr), (25, con25.ctr), (26, con26.ctr)], [], [], [], []⟩) tab_ok (EnvOk.cons c24 has24 (EnvOk.cons c25 has25 (EnvOk.cons c26 has26 EnvOk.nil))) rfl Tryz.func8 rfl con8 984253 (by kernel_rfl) (by decide) (by decide) rfl (by decide) rfl (by
  rintro ⟨(l : List Opn), _⟩ hpre hwf X hT hG hk hK
  (simp -implicitDefEqProofs only [go_sem, bP, con8, con24, con25, con26, hT, hG, hk, hK, Tryz.results8] at hwf ⊢)
  refine fun _ => ⟨fun h => ?_, fun h => ?_⟩
  · unfold placesV; rw [if_pos h]
  · obtain ⟨hl, _⟩ := valV_zero h
    have hsl := sortBy_len l
    refine ⟨by omega, fun _ _ => ?_⟩
    refine evk_loop ⟨{ i : Nat // i ≤ (sortBy pltC (abK l)).length }, 1000, fun i => [(3, .one (.map 70)), (5, .one (.row 71)), (16, .one (.sl yPL (sortBy pltC (abK l)) false)), (17, .one (.int .i64 (sortBy pltC (abK l)).length)), (18, .one (.int .i64 i.1))], fun i => [(70, .mapb yPL (.sl yOP) true false ((abK l).zip (abG l))), (71, .row 41 yPM (((sortBy pltC (abK l)).take i.1).map (fun p => placeV (aboutP l p))))], fun i => (sortBy pltC (abK l)).length - i.1⟩ ⟨0, by omega⟩ ?_ ?_
    · simp only [go_sem]
      try (first | rfl | exact ⟨rfl, rfl⟩)
    · rintro ⟨i, (hi : i ≤ (sortBy pltC (abK l)).length)⟩
      (simp -implicitDefEqProofs only [go_sem, bP, con8, con24, con25, con26, hT, hG, hk, hK, Tryz.results8])
      refine ⟨fun hlt => ?_, fun hge => ?_⟩
      · have hil : i < (sortBy pltC (abK l)).length := by omega
        obtain ⟨p, hp⟩ : ∃ p, (sortBy pltC (abK l))[i] = p := ⟨_, rfl⟩
        have ep : (sortBy pltC (abK l)).getD (i : Int).toNat (0, 0, 0) = p := by rw [← hp]; simp [hil]
        have hpm : p ∈ sortBy pltC (abK l) := hp ▸ List.getElem_mem hil
        have hlen := about_len l p
        rw [ep]
        have eg : ((mget (kt := yPL) ((abK l).zip (abG l)) (p.1, p.2.1, p.2.2)).getD []) = aboutP l p := by
         rw [show (p.1, p.2.1, p.2.2) = p from rfl, about_get hpm]; rfl
        rw [eg]
        have hst : ((sortBy pltC (abK l)).take (i + 1)).map (fun p => placeV (aboutP l p)) = ((sortBy pltC (abK l)).take i).map (fun p => placeV (aboutP l p)) ++ [placeV (aboutP l p)] := by
         rw [List.take_succ_eq_append_getElem hil, List.map_append, hp]; rfl
        have hml : (((sortBy pltC (abK l)).take i).map (fun p => placeV (aboutP l p))).length ≤ 360 := by simp; omega
        (repeat' with_reducible first | refine And.intro ?_ ?_ | intro _) <;> try first | with_reducible (first | assumption | omega | contradiction) | decide
        · exact about_ne hpm
        · refine fin_lp ⟨i + 1, by omega⟩ ?_ (by dsimp only; omega)
          simp only [go_sem]
          rw [hst]
          try first | rfl | (and_intros <;> first | rfl | omega)
      · unfold placesV
        rw [if_neg (by simp [h]), List.take_of_length_le (by omega)])
theorem placesV_len (l : List Opn) : (placesV l).length ≤ 360 := by
 unfold placesV
 split
 · simp
 · rename_i h
   obtain ⟨hl, _⟩ := valV_zero (l := l) (by simpa using h)
   have := sortBy_len l
   simp; omega
theorem sorted_unique : ∀ {a b : List Int}, a.Perm b → a.Pairwise (· ≤ ·) → b.Pairwise (· ≤ ·) → a = b
 | [], b, hp, _, _ => (List.nil_perm.1 hp).symm ▸ rfl
 | x :: a, [], hp, _, _ => by have := hp.length_eq; simp at this
 | x :: a, y :: b, hp, ha, hb => by
   rw [List.pairwise_cons] at ha hb
   have e : x = y := by
    have h1 : x ∈ y :: b := hp.subset (List.mem_cons_self ..)
    have h2 : y ∈ x :: a := hp.symm.subset (List.mem_cons_self ..)
    rcases List.mem_cons.1 h1 with h | h
    · exact h
    · rcases List.mem_cons.1 h2 with k | k
      · exact k.symm
      · have := hb.1 x h
        have := ha.1 y k
        omega
   subst e
   rw [sorted_unique (List.Perm.cons_inv hp) ha.2 hb.2]
theorem sortI_perm (l : List Int) : (sortI l).Perm l := List.mergeSort_perm l _
theorem sortI_sorted (l : List Int) : (sortI l).Pairwise (· ≤ ·) := by
 have h := List.pairwise_mergeSort (le := fun x y : Int => decide (x ≤ y)) (fun a b c => by simp; omega) (fun a b => by simp; omega) l
 exact h.imp (fun h => by simpa using h)
def Rl (a b : Opn) : Prop := bfV a b = true ∧ (a.2.1 = b.2.1 → a.2.2.1 < b.2.2.1)
structure OkL (l : List Opn) : Prop where
 ok : ∀ o ∈ l, okOp o = true
 pw : l.Pairwise Rl
theorem getD_at {l : List Opn} {i : Nat} (h : i < l.length) : l.getD i o0 = l[i] := by simp [h]
theorem OkL.of {l : List Opn} (h : valV l = 0) : OkL l := by
 obtain ⟨hl, hz⟩ := valV_zero h
 refine ⟨fun o ho => ?_, List.pairwise_iff_getElem.2 fun i j hi hj hij => ⟨List.pairwise_iff_getElem.1 (srt_of h) i j hi hj hij, fun hd => ?_⟩⟩
 · obtain ⟨i, hi, rfl⟩ := List.getElem_of_mem ho
   have := (stepErr_zero (hz i hi)).1
   rwa [getD_at hi] at this
 · have := (stepErr_zero (hz j hj)).2.2 i hij
   rw [getD_at hi, getD_at hj] at this
   exact this hd
structure Gn (l : List Opn) (t : Int) (sq : List Int) : Prop where
 ok : ∀ o ∈ l, okOp o = true
 tm : ∀ o ∈ l, o.1 ≤ t
 dv : ∀ o ∈ l, 1 ≤ o.2.1 ∧ o.2.1 ≤ 4
 sn : ∀ o ∈ l, o.2.2.1 ≤ sq.getD o.2.1.toNat 0
 pw : l.Pairwise Rl
theorem Gn.nil (t : Int) (sq : List Int) : Gn [] t sq := ⟨fun _ h => (by cases h), fun _ h => (by cases h), fun _ h => (by cases h), fun _ h => (by cases h), List.Pairwise.nil⟩
theorem Gn.okl {l : List Opn} {t : Int} {sq : List Int} (h : Gn l t sq) : OkL l := ⟨h.ok, h.pw⟩
theorem set_at {sq : List Int} {i : Nat} {x : Int} (h : i < sq.length) (j : Nat) : (sq.set i x).getD j 0 = if i = j then x else sq.getD j 0 := by
 rw [List.getD_eq_getElem?_getD, List.getElem?_set]
 by_cases e : i = j
 · subst e; simp [h]
 · simp [e, List.getD_eq_getElem?_getD]
theorem Gn.ins {l : List Opn} {t : Int} {sq : List Int} (h : Gn l t sq) {o : Opn} {i : Nat} (ho : okOp o = true) (hd : 1 ≤ o.2.1 ∧ o.2.1 ≤ 4) (ht : t ≤ o.1) (hq : sq.length = 5) (hs : sq.getD o.2.1.toNat 0 < o.2.2.1) (hi : i ≤ l.length)
 (aft : ∀ z ∈ l.drop i, z.1 = o.1 ∧ o.2.1 < z.2.1) (bef : 0 < i → ¬ ((l.getD (i - 1) o0).1 = o.1 ∧ o.2.1 < (l.getD (i - 1) o0).2.1)) : Gn (l.take i ++ o :: l.drop i) o.1 (sq.set o.2.1.toNat o.2.2.1) := by
 have hm : ∀ z, z ∈ l.take i ++ o :: l.drop i → z = o ∨ z ∈ l := fun z hz => by
  rcases List.mem_append.1 hz with k | k
  · exact .inr (List.mem_of_mem_take k)
  · rcases List.mem_cons.1 k with k | k
    · exact .inl k
    · exact .inr (List.mem_of_mem_drop k)
 refine ⟨fun z hz => ?_, fun z hz => ?_, fun z hz => ?_, fun z hz => ?_, ?_⟩
 · rcases hm z hz with rfl | k
   · exact ho
   · exact h.ok z k
 · rcases hm z hz with rfl | k
   · exact Int.le_refl _
   · exact Int.le_trans (h.tm z k) ht
 · rcases hm z hz with rfl | k
   · exact hd
   · exact h.dv z k
 · rw [set_at (by omega)]
   rcases hm z hz with rfl | k
   · rw [if_pos rfl]; exact Int.le_refl _
   · have h1 := h.sn z k
     have h2 := h.dv z k
     split
     · rename_i e
       have e2 : z.2.1 = o.2.1 := by omega
       rw [e2] at h1; omega
     · exact h1
 · have hp : (l.take i ++ l.drop i).Pairwise Rl := by rw [List.take_append_drop]; exact h.pw
   rw [List.pairwise_append] at hp
   refine List.pairwise_append.2 ⟨hp.1, List.pairwise_cons.2 ⟨fun z hz => ?_, hp.2.1⟩, fun x hx z hz => ?_⟩
   · obtain ⟨a1, a2⟩ := aft z hz
     refine ⟨?_, fun q => by omega⟩
     unfold bfV; rw [decide_eq_true_eq]; omega
   · rcases List.mem_cons.1 hz with rfl | hz
     · have hx' := List.mem_of_mem_take hx
       have hs1 := h.sn x hx'
       have hd1 := h.dv x hx'
       have ht1 := h.tm x hx'
       obtain ⟨j, hj, rfl⟩ := List.getElem_of_mem hx
       have hj2 : j < i := by simp at hj; omega
       have hjl : j < l.length := by omega
       rw [List.getElem_take] at *
       have hb := bef (by omega)
       rw [getD_at (by omega : i - 1 < l.length)] at hb
       have hlast := h.tm _ (List.getElem_mem (by omega : i - 1 < l.length))
       have hseq : (l[j]).2.1 = z.2.1 → (l[j]).2.2.1 < z.2.2.1 := fun e => by rw [e] at hs1; omega
       refine ⟨?_, hseq⟩
       unfold bfV; rw [decide_eq_true_eq]
       by_cases e1 : (l[j]).1 < z.1
       · exact .inl e1
       · refine .inr ⟨by omega, ?_⟩
         have hle : (l[j]).2.1 ≤ z.2.1 := by
          by_cases e2 : j = i - 1
          · subst e2; omega
          · have hr := (List.pairwise_iff_getElem.1 h.pw j (i - 1) hjl (by omega) (by omega)).1
            unfold bfV at hr; rw [decide_eq_true_eq] at hr
            omega
         by_cases e3 : (l[j]).2.1 < z.2.1
         · exact .inl e3
         · have e4 : (l[j]).2.1 = z.2.1 := by omega
           exact .inr ⟨e4, hseq e4⟩
     · exact hp.2.2 x hx z hz
end Go.Proofs.YtpglcghgklmedaaGreat

/- A part. -/
set_option maxRecDepth 100000
set_option maxHeartbeats 8000000
namespace Go.Proofs.YtpglcghgklmedaaGreat
open Go.Ev
theorem rep_at (d : Nat) : (List.replicate 5 (0 : Int)).getD d 0 = 0 := by
 rw [List.getD_eq_getElem?_getD, List.getElem?_replicate]
 split <;> rfl
theorem tdiv_bd (x m n : Int) (h0 : 0 ≤ x) (h1 : x ≤ m) (h : 0 < n) : 0 ≤ x.tdiv n ∧ x.tdiv n ≤ m.tdiv n := by
 rw [Int.tdiv_eq_ediv_of_nonneg h0, Int.tdiv_eq_ediv_of_nonneg (by omega)]
 exact ⟨Int.ediv_nonneg h0 (by omega), Int.ediv_le_ediv h h1⟩
theorem ins_shift (l : List Opn) (z o : Opn) (i : Nat) (hi : i ≤ l.length) :
 (List.take (i + 1) (l ++ [z]) ++ (List.take (min (l.length - i) (List.drop i (List.take (i + (l.length + 1 - i)) (l ++ [z]))).length) (List.drop i (List.take (i + (l.length + 1 - i)) (l ++ [z]))) ++ List.drop (i + 1 + min (l.length - i) (List.drop i (List.take (i + (l.length + 1 - i)) (l ++ [z]))).length) (l ++ [z]))).length = l.length + 1
 ∧ (List.take (i + 1) (l ++ [z]) ++ (List.take (min (l.length - i) (List.drop i (List.take (i + (l.length + 1 - i)) (l ++ [z]))).length) (List.drop i (List.take (i + (l.length + 1 - i)) (l ++ [z]))) ++ List.drop (i + 1 + min (l.length - i) (List.drop i (List.take (i + (l.length + 1 - i)) (l ++ [z]))).length) (l ++ [z]))).set i o = l.take i ++ o :: l.drop i := by
 have h1 : List.take (i + (l.length + 1 - i)) (l ++ [z]) = l ++ [z] := List.take_of_length_le (by simp; omega)
 have h2 : List.drop i (l ++ [z]) = List.drop i l ++ [z] := List.drop_append_of_le_length hi
 have h3 : (List.drop i l ++ [z]).length = l.length - i + 1 := by simp
 have hl : i < (l ++ [z]).length := by simp; omega
 have h4 : List.take (i + 1) (l ++ [z]) = List.take i l ++ [(l ++ [z])[i]] := by rw [List.take_succ_eq_append_getElem hl, List.take_append_of_le_length hi]
 have h5 : min (l.length - i) (l.length - i + 1) = l.length - i := by omega
 have h6 : List.drop (i + 1 + (l.length - i)) (l ++ [z]) = [] := List.drop_of_length_le (by simp; omega)
 have h7 : List.take (l.length - i) (List.drop i l ++ [z]) = List.drop i l := by
  rw [List.take_append_of_le_length (by simp), List.take_of_length_le (by simp)]
 have h8 : (List.take i l).length = i := by simp; omega
 rw [h1, h2, h3, h5, h6, h4, h7, List.append_nil, List.append_assoc]
 constructor
 · simp; omega
 · rw [List.set_append_right _ _ (by omega), h8, Nat.sub_self]
   rfl
structure OpsR (c : Int) (l : List Opn) : Prop where
 okl : OkL l
 len : l.length ≤ 30
 dv : ∀ o ∈ l, 1 ≤ o.2.1 ∧ o.2.1 ≤ 4
 tm : ∀ o ∈ l, o.1 ≤ 100
 bx : ∀ o ∈ l, 1 ≤ o.2.2.2.2.1 ∧ o.2.2.2.2.1 ≤ c
structure OInv (c t : Int) (k : Int) (sq : List Int) (l : List Opn) : Prop where
 gn : Gn l t sq
 kl : (l.length : Int) + k ≤ 30
 t0 : 0 ≤ t
 t1 : t ≤ 2 * l.length
 sl : sq.length = 5
 s0 : ∀ d, 0 ≤ sq.getD d 0
 s1 : ∀ d, sq.getD d 0 ≤ 2 * l.length
 bx : ∀ o ∈ l, 1 ≤ o.2.2.2.2.1 ∧ o.2.2.2.2.1 ≤ c
def con7 : RCon := { ps := [.p 67 ySR, .d false (.int .i64), .d false (.int .i64), .d false (.int .i64)], rs := [.d false (.sl yOP)], pre := fun (x : Src × Int × Int × Int × Unit) => 0 ≤ x.1.2 ∧ x.2.1 ≤ 30 ∧ 0 ≤ x.2.1 ∧ 1 ≤ x.2.2.2.1 ∧ x.2.2.2.1 ≤ 900, rel := fun (x : Src × Int × Int × Int × Unit) (y : List Opn × Unit) (z : Src × Int × Int × Int × Unit) => 0 ≤ z.1.2 ∧ OpsR x.2.2.2.1 y.1 }
theorem c7 : RCtrOk Tryz.prog 7 con7.rctr :=
 rcon_sound (G := ⟨[(22, con22.ctr), (23, con23.ctr)], [], [(92, 1), (95, 1)], [], []⟩) tab_ok (EnvOk.cons c22 has22 (EnvOk.cons c23 has23 EnvOk.nil)) rfl Tryz.func7 rfl con7 4835703278458516700987151 (by kernel_rfl) (by decide) (by decide) rfl (by decide) rfl (by
  rintro ⟨⟨(s : List Int), (a : Int)⟩, (most : Int), (n : Int), (c : Int), _⟩ hpre hwf X hT hG hk hK
  (simp -implicitDefEqProofs only [go_sem, bP, con7, con22, con23, hT, hG, hk, hK, Tryz.results7] at hwf ⊢); (try simp (disch := decide +kernel) only [drawn, true_and, and_true])
  obtain ⟨h1, h2, h3, h4, h5⟩ : 0 ≤ a ∧ most ≤ 30 ∧ 0 ≤ most ∧ 1 ≤ c ∧ c ≤ 900 := hpre
  have hs1 : 0 ≤ (Src.step (s, a)).snd := step_pos h1
  have hkb := goMod_bd (Src.raw (s, a)) (most + 1) (by omega)
  generalize goMod (Src.raw (s, a)) (most + 1) = K at hkb ⊢
  generalize Src.step (s, a) = S1 at hs1 ⊢
  obtain ⟨s1, a1⟩ := S1
  refine ⟨by omega, h1, fun _ => ?_⟩
  refine evk_loop ⟨{ q : Src × List Opn × List Int × Int × Int // 0 ≤ q.1.2 ∧ OInv c q.2.2.2.1 q.2.2.2.2 q.2.2.1 q.2.1 ∧ 0 ≤ q.2.2.2.2 }, 1000, fun q => [(0, .one (.loc 0 0)), (2, .one (.int .i64 n)), (3, .one (.int .i64 c)), (9, .one (.row 64)), (10, .one (.ep 65 1 0 0)), (11, .one (.int .i64 q.1.2.2.2.1)), (12, .one (.int .i64 q.1.2.2.2.2))],
   fun q => [(0, .cells 67 [.sl (.int .i64) q.1.1.1 false, .int .i64 q.1.1.2]), (64, .row 73 yOP q.1.2.1), (65, .row 69 (.int .i64) q.1.2.2.1)], fun q => q.1.2.2.2.2.toNat⟩ ⟨((s1, a1), [], List.replicate 5 0, 0, K), hs1, ⟨Gn.nil _ _, by simp only [List.length_nil]; omega, Int.le_refl _, by simp, by simp, fun d => (by rw [rep_at]; exact Int.le_refl _), fun d => (by rw [rep_at]; simp), fun o h => (by cases h)⟩, by simp only; omega⟩ ?_ ?_
  · simp only [go_sem]
    try (first | rfl | exact ⟨rfl, rfl⟩)
  · rintro ⟨⟨⟨s, a⟩, l, sq, t, k⟩, (h1 : 0 ≤ a), (hI : OInv c t k sq l), (hk0 : 0 ≤ k)⟩
    (simp -implicitDefEqProofs only [go_sem, bP, con7, con22, con23, hT, hG, hk, hK, Tryz.results7]); (try simp (disch := decide +kernel) only [drawn, true_and, and_true])
    obtain ⟨gn, kl, t0, t1, sl, s0, sb1, bx⟩ := hI
    have p1 : 0 ≤ (Src.step (s, a)).snd := step_pos h1
    have p2 : 0 ≤ (Src.step (s, a)).step.snd := step_pos p1
    have p3 : 0 ≤ (Src.step (s, a)).step.step.snd := step_pos p2
    have p4 : 0 ≤ (Src.step (s, a)).step.step.step.snd := step_pos p3
    have p5 : 0 ≤ (Src.step (s, a)).step.step.step.step.snd := step_pos p4
    have r1 := goMod_bd (Src.raw (s, a)) 3 (by omega)
    have r2 := goMod_bd (Src.step (s, a)).raw 4 (by omega)
    have r3 := goMod_bd (Src.step (s, a)).step.raw 8 (by omega)
    have r4 := goMod_bd (Src.step (s, a)).step.step.raw 4 (by omega)
    have r5 := goMod_bd (Src.step (s, a)).step.step.step.raw c (by omega)
    have r6 := tdiv_bd (goMod (Src.step (s, a)).step.raw 8) 7 7 (by omega) (by omega) (by omega)
    have r7 := tdiv_bd (goMod (Src.step (s, a)).step.step.raw 4) 3 3 (by omega) (by omega) (by omega)
    generalize (goMod (Src.step (s, a)).step.raw 8).tdiv 7 = V at r6 ⊢
    generalize (goMod (Src.step (s, a)).step.step.raw 4).tdiv 3 = W at r7 ⊢
    generalize goMod (Src.raw (s, a)) 3 = T at r1 ⊢
    generalize goMod (Src.step (s, a)).raw 4 = D at r2 ⊢
    generalize goMod (Src.step (s, a)).step.step.step.raw c = B at r5 ⊢
    have p8 : 0 ≤ (Src.step (s, a)).step.step.step.step.step.step.step.snd := step_pos (step_pos (step_pos p5))
    have hpc := pieceV_ok (Src.step (s, a)).step.step.step.step n
    generalize (Src.step (s, a)).step.step.step.step.step.step.step = S8 at p8 ⊢
    generalize (Src.step (s, a)).step.step.step.step = S5 at p5 hpc ⊢
    generalize pieceV S5 n = P at hpc ⊢
    obtain ⟨⟨P1, P2, P3⟩, P4, P5⟩ := P
    obtain ⟨s8, a8⟩ := S8
    have p8 : 0 ≤ a8 := p8
    have q0 := s0 (1 + D).toNat
    have q1 := sb1 (1 + D).toNat
    have st := set_at (sq := sq) (i := (1 + D).toNat) (x := sq.getD (1 + D).toNat 0 + (1 + V)) (by omega) (1 + D).toNat
    rw [if_pos rfl] at st
    have e6 : (7 : Int).tdiv 7 = 1 := by decide
    have e7 : (3 : Int).tdiv 3 = 1 := by decide
    rw [e6] at r6
    rw [e7] at r7
    simp only [st, List.length_set, sl]
    generalize hQ : sq.getD (1 + D).toNat 0 = Q at q0 q1 st ⊢
    (repeat' with_reducible first | refine And.intro ?_ ?_ | intro _) <;> try first | with_reducible (first | assumption | omega | contradiction) | decide
    · refine evk_loop ⟨{ i : Nat // i ≤ l.length ∧ ∀ z ∈ l.drop i, z.1 = t + T ∧ 1 + D < z.2.1 }, 1000, fun q => [(0, .one (.loc 0 0)), (2, .one (.int .i64 n)), (3, .one (.int .i64 c)), (9, .one (.row 64)), (10, .one (.ep 65 1 0 0)), (11, .one (.int .i64 (t + T))), (12, .one (.int .i64 k)), (14, .one (.loc 71 0)), (15, .one (.int .i64 q.1))],
       fun q => [(0, .cells 67 [.sl (.int .i64) s8 false, .int .i64 a8]), (64, .row 73 yOP l), (65, .row 69 (.int .i64) (sq.set (1 + D).toNat (Q + (1 + V)))), (71, .cells 73 [.int .i64 (t + T), .int .i64 (1 + D), .int .i64 (Q + (1 + V)), .int .i64 (1 + W), .int .i64 (1 + B), .int .i64 P1, .int .i64 P2, .int .i64 P3, .int .i64 P4, .int .i64 P5])], fun q => q.1⟩ ⟨l.length, Nat.le_refl _, by simp⟩ ?_ ?_
      · simp only [go_sem]
        try (first | rfl | exact ⟨rfl, rfl⟩)
      · rintro ⟨i, (hi : i ≤ l.length), (hd : ∀ z ∈ l.drop i, z.1 = t + T ∧ 1 + D < z.2.1)⟩
        (simp -implicitDefEqProofs only [go_sem, bP, con7, con22, con23, hT, hG, hk, hK, Tryz.results7]); (try simp (disch := decide +kernel) only [drawn, true_and, and_true])
        obtain ⟨u, hu⟩ : ∃ u, l.getD ((i : Int) - 1).toNat (0, 0, 0, 0, 0, (0, 0, 0), 0, 0) = u := ⟨_, rfl⟩
        have hu2 : l.getD (i - 1) o0 = u := by rw [← hu]; congr 1; omega
        simp only [hu]
        refine ⟨by omega, by omega, fun _ => ⟨by omega, fun _ => ⟨by omega, by omega, fun _ => ⟨by omega, fun _ => ⟨fun hc => ⟨by omega, ?_⟩, fun hc => ?_⟩⟩⟩⟩⟩
        · refine fin_lp ⟨i - 1, by omega, fun z hz => ?_⟩ ?_ (by dsimp only; omega)
          · rw [List.drop_eq_getElem_cons (by omega : i - 1 < l.length), show i - 1 + 1 = i by omega] at hz
            rcases List.mem_cons.1 hz with rfl | hz
            · rw [getD_at (by omega : i - 1 < l.length)] at hu2
              rw [hu2]; exact ⟨hc.1.2, by omega⟩
            · exact hd z hz
          · simp only [go_sem]
            try first | rfl | (and_intros <;> first | rfl | omega)
        · have ll : (l ++ [((0, 0, 0, 0, 0, (0, 0, 0), 0, 0) : Opn)]).length = l.length + 1 := by simp
          have ln := gn.okl
          have lb : l.length ≤ 30 := by omega
          have e1 : ((i : Int) + 1).toNat = i + 1 := by omega
          have e2 : ((l.length + 1 : Nat) - ((i : Int) + 1)).toNat = l.length - i := by omega
          have e3 : ((l.length + 1 : Nat) - (i : Int)).toNat = l.length + 1 - i := by omega
          have e4 : (i : Int).toNat = i := by omega
          have w1 : (i + 1) + (l.length - i) ≤ l.length + 1 := by omega
          have w2 : i + (l.length + 1 - i) ≤ l.length + 1 := by omega
          simp only [ll, e1, e2, e3, e4]
          refine ⟨by omega, by omega, by omega, by omega, ?_⟩
          (simp -implicitDefEqProofs only [go_sem, bP, con7, con22, con23, hT, hG, hk, hK, Tryz.results7, w1, w2, ll]); (try simp (disch := decide +kernel) only [drawn, true_and, and_true])
          obtain ⟨i1, i2⟩ := ins_shift l ((0, 0, 0, 0, 0, (0, 0, 0), 0, 0) : Opn) (t + T, 1 + D, Q + (1 + V), 1 + W, 1 + B, (P1, P2, P3), P4, P5) i hi
          rw [e4]
          rw [i1, i2]
          refine ⟨by omega, fun _ => ⟨by omega, by omega, ?_⟩⟩
          have ok : okOp (t + T, 1 + D, Q + (1 + V), 1 + W, 1 + B, (P1, P2, P3), P4, P5) = true := by
           unfold okOp inV
           simp only [hpc, Bool.and_eq_true, Bool.or_eq_true, decide_eq_true_eq, and_true]
           omega
          have hmm : ∀ z ∈ l.take i ++ (t + T, 1 + D, Q + (1 + V), 1 + W, 1 + B, (P1, P2, P3), P4, P5) :: l.drop i, 1 ≤ z.2.2.2.2.1 ∧ z.2.2.2.2.1 ≤ c := fun z hz => by
           rcases List.mem_append.1 hz with h | h
           · exact bx z (List.mem_of_mem_take h)
           · rcases List.mem_cons.1 h with rfl | h
             · exact ⟨by dsimp only; omega, by dsimp only; omega⟩
             · exact bx z (List.mem_of_mem_drop h)
          have hgn := gn.ins (o := (t + T, 1 + D, Q + (1 + V), 1 + W, 1 + B, (P1, P2, P3), P4, P5)) (i := i) ok ⟨by dsimp only; omega, by dsimp only; omega⟩ (by dsimp only; omega) sl (by dsimp only; rw [hQ]; omega) hi hd (fun h0 q => by rw [hu2] at q; have q1 : u.1 = t + T := q.1; have q2 : 1 + D < u.2.1 := q.2; omega)
          have hlen : (l.take i ++ (t + T, 1 + D, Q + (1 + V), 1 + W, 1 + B, (P1, P2, P3), P4, P5) :: l.drop i).length = l.length + 1 := by simp; omega
          have sg : ∀ d, (sq.set (1 + D).toNat (Q + (1 + V))).getD d 0 = if (1 + D).toNat = d then Q + (1 + V) else sq.getD d 0 := fun d => set_at (by omega) d
          refine fin_lp ⟨((s8, a8), l.take i ++ (t + T, 1 + D, Q + (1 + V), 1 + W, 1 + B, (P1, P2, P3), P4, P5) :: l.drop i, sq.set (1 + D).toNat (Q + (1 + V)), t + T, k - 1), p8, ⟨hgn, ?_, ?_, ?_, ?_, fun d => ?_, fun d => ?_, hmm⟩, ?_⟩ ?_ ?_
          · rw [hlen]; dsimp only; omega
          · dsimp only; omega
          · rw [hlen]; dsimp only; omega
          · simp only [List.length_set]; exact sl
          · rw [sg]
            have := s0 d
            split <;> omega
          · rw [sg, hlen]
            have := sb1 d
            split <;> omega
          · dsimp only; omega
          · simp only [go_sem]
            try first | rfl | (and_intros <;> first | rfl | omega)
          · dsimp only; omega
    · exact ⟨(l, ()), ((s, a), most, n, c, ()), ⟨h1, ⟨gn.okl, (show l.length ≤ 30 by omega), gn.dv, fun o ho => by have := gn.tm o ho; omega, bx⟩⟩, rfl, rfl, rfl⟩)
end Go.Proofs.YtpglcghgklmedaaGreat

/- A part. -/
set_option maxRecDepth 100000
set_option maxHeartbeats 8000000
namespace Go.Proofs.YtpglcghgklmedaaGreat
open Go.Ev
theorem ddU_spec (xs : List Int) (hs : xs.Pairwise (· ≤ ·)) : ∀ i, i ≤ xs.length → (ddU xs i).Pairwise (fun a b => cmpV a b < 0) ∧ ∀ x, x ∈ ddU xs i ↔ x ∈ xs.take i
 | 0, _ => by simp [ddU]
 | i + 1, h => by
   obtain ⟨ih1, ih2⟩ := ddU_spec xs hs i (by omega)
   have hi : i < xs.length := by omega
   have g1 : xs.getD i 0 = xs[i] := by simp [hi]
   have ht : xs.take (i + 1) = xs.take i ++ [xs[i]] := List.take_succ_eq_append_getElem hi
   have hle : ∀ x ∈ xs.take i, x ≤ xs.getD (i - 1) 0 ∧ xs.getD (i - 1) 0 ∈ xs.take i := fun x hx => by
    obtain ⟨j, hj, rfl⟩ := List.getElem_of_mem hx
    have hj2 : j < i := by simp at hj; omega
    have g2 : xs.getD (i - 1) 0 = xs[i - 1] := by simp [show i - 1 < xs.length by omega]
    rw [g2, List.getElem_take]
    refine ⟨?_, ?_⟩
    · by_cases e : j = i - 1
      · subst e; exact Int.le_refl _
      · exact List.pairwise_iff_getElem.1 hs j (i - 1) (by omega) (by omega) (by omega)
    · have : (xs.take i)[i - 1]'(by simp; omega) = xs[i - 1] := List.getElem_take
      rw [← this]; exact List.getElem_mem _
   rw [ddU, ht, g1]
   split
   · rename_i e
     rw [List.append_nil]
     refine ⟨ih1, fun x => ?_⟩
     rw [ih2, List.mem_append]
     refine ⟨.inl, fun k => k.elim id fun k => ?_⟩
     have k : x = xs[i] := by simpa using k
     rw [k, e.2]
     have h0 : xs[0]'(by omega) ∈ xs.take i := by
      have : (xs.take i)[0]'(by simp; omega) = xs[0]'(by omega) := List.getElem_take
      rw [← this]; exact List.getElem_mem _
     exact (hle _ h0).2
   · rename_i e
     refine ⟨List.pairwise_append.2 ⟨ih1, by simp, fun x hx y hy => ?_⟩, fun x => by simp only [List.mem_append, ih2]⟩
     have hy : y = xs[i] := by simpa using hy
     subst hy
     have hx2 := (ih2 x).1 hx
     have h3 := hle x hx2
     have hi0 : i ≠ 0 := fun q => by subst q; simp at hx2
     have h4 : xs.getD (i - 1) 0 ≤ xs[i] := by
      have g2 : xs.getD (i - 1) 0 = xs[i - 1] := by simp [show i - 1 < xs.length by omega]
      rw [g2]
      exact List.pairwise_iff_getElem.1 hs (i - 1) i (by omega) (by omega) (by omega)
     have h5 : xs[i] ≠ xs.getD (i - 1) 0 := fun q => e ⟨hi0, q⟩
     rw [cmpV_lt]
     omega
theorem compV_spec (t : List Int) : (compV (sortI t)).Pairwise (fun a b => cmpV a b < 0) ∧ ∀ x, x ∈ compV (sortI t) ↔ x ∈ t := by
 obtain ⟨h1, h2⟩ := ddU_spec (sortI t) (sortI_sorted t) (sortI t).length (Nat.le_refl _)
 refine ⟨h1, fun x => ?_⟩
 unfold compV
 rw [h2, List.take_length]
 exact (sortI_perm t).mem_iff
def stepP (x : Plc) (o : Opn) : Plc := if o.2.2.2.1 = 2 then (o.2.2.2.2.2, 0, []) else (o.2.2.2.2.2, o.2.2.2.2.1, insC cmpV x.2.2 o.2.2.2.2.1)
def z0 : Plc := (((0, 0, 0), 0, 0), 0, [])
theorem trail_snoc (m : List Opn) (o : Opn) : trail (m ++ [o]) = if o.kind = 1 then o.box :: trail m else [] := by
 unfold trail
 rw [List.reverse_append, List.reverse_singleton, List.singleton_append, List.takeWhile_cons]
 by_cases h : o.kind = 1
 · simp [h]
 · simp [h]
theorem placeR_spec (m : List Opn) : (∀ o ∈ m, o.kind = 1 ∨ o.kind = 2) → ((m.foldl stepP z0).2.2.Pairwise (fun a b => cmpV a b < 0) ∧ (∀ x, x ∈ (m.foldl stepP z0).2.2 ↔ x ∈ trail m) ∧ (m ≠ [] → (m.foldl stepP z0).1 = (m.getD (m.length - 1) o0).2.2.2.2.2 ∧ (m.foldl stepP z0).2.1 = if (m.getD (m.length - 1) o0).kind = 1 then (m.getD (m.length - 1) o0).box else 0)) := by
 refine snoc_ind (P := fun m => (∀ o ∈ m, o.kind = 1 ∨ o.kind = 2) → ((m.foldl stepP z0).2.2.Pairwise (fun a b => cmpV a b < 0) ∧ (∀ x, x ∈ (m.foldl stepP z0).2.2 ↔ x ∈ trail m) ∧ (m ≠ [] → (m.foldl stepP z0).1 = (m.getD (m.length - 1) o0).2.2.2.2.2 ∧ (m.foldl stepP z0).2.1 = if (m.getD (m.length - 1) o0).kind = 1 then (m.getD (m.length - 1) o0).box else 0))) ?_ ?_ m
 · intro _
   exact ⟨by simp [z0], fun x => by simp [z0, trail], fun h => absurd rfl h⟩
 · intro m o ih hk
   obtain ⟨i1, i2, _⟩ := ih fun u hu => hk u (List.mem_append_left _ hu)
   have ho := hk o (by simp)
   have hl : (m ++ [o]).getD ((m ++ [o]).length - 1) o0 = o := by simp [List.getD_eq_getElem?_getD]
   rw [List.foldl_append, List.foldl_cons, List.foldl_nil, trail_snoc, hl]
   generalize m.foldl stepP z0 = x at i1 i2 ⊢
   have hko : o.kind = o.2.2.2.1 := rfl
   have hkb : o.box = o.2.2.2.2.1 := rfl
   unfold stepP
   rcases ho with e | e
   · rw [if_neg (by rw [← hko, e]; decide), if_pos e]
     refine ⟨insC_srt cmpV_cmp _ i1, fun y => ?_, fun _ => ⟨rfl, by rw [if_pos e]; rfl⟩⟩
     rw [insC_mem cmpV_cmp, i2, List.mem_cons]; rfl
   · rw [if_pos (by rw [← hko, e]), if_neg (by rw [e]; decide)]
     exact ⟨List.Pairwise.nil, fun y => Iff.rfl, fun _ => ⟨rfl, by rw [if_neg (by rw [e]; decide)]⟩⟩
theorem placeR_eq {m : List Opn} (hk : ∀ o ∈ m, o.kind = 1 ∨ o.kind = 2) (hm : m ≠ []) : m.foldl stepP z0 = placeV m := by
 obtain ⟨h1, h2, h3⟩ := placeR_spec m hk
 obtain ⟨h3, h4⟩ := h3 hm
 obtain ⟨c1, c2⟩ := compV_spec (trail m)
 unfold placeV
 refine Prod.ext h3 (Prod.ext h4 ?_)
 exact strict_ext (fun x y => Cmp.as cmpV_cmp x y) h1 c1 fun x => (h2 x).trans (c2 x).symm
theorem placeR_len (m : List Opn) : (m.foldl stepP z0).2.2.length ≤ m.length := by
 refine snoc_ind (P := fun m => (m.foldl stepP z0).2.2.length ≤ m.length) (by simp [z0]) (fun m o ih => ?_) m
 rw [List.foldl_append, List.foldl_cons, List.foldl_nil, List.length_append, List.length_singleton]
 generalize m.foldl stepP z0 = x at ih ⊢
 unfold stepP
 split
 · simp
 · have := insC_len (c := cmpV) o.2.2.2.2.1 x.2.2
   simp only
   omega
def platesR (l : List Opn) : List Plt := l.foldl (fun ks o => insC pltC ks o.plate) []
theorem platesR_snoc (l : List Opn) (o : Opn) : platesR (l ++ [o]) = insC pltC (platesR l) o.plate := by simp [platesR]
theorem platesR_spec (l : List Opn) : (platesR l).Pairwise (fun a b => pltC a b < 0) ∧ ∀ x, x ∈ platesR l ↔ ∃ o ∈ l, o.plate = x := by
 refine snoc_ind (P := fun l => (platesR l).Pairwise (fun a b => pltC a b < 0) ∧ ∀ x, x ∈ platesR l ↔ ∃ o ∈ l, o.plate = x) (by simp [platesR]) (fun l o ih => ?_) l
 rw [platesR_snoc]
 refine ⟨insC_srt pltC_cmp _ ih.1, fun x => ?_⟩
 rw [insC_mem pltC_cmp, ih.2]
 constructor
 · rintro (h | ⟨u, hu, e⟩)
   · exact ⟨o, by simp, h.symm⟩
   · exact ⟨u, List.mem_append_left _ hu, e⟩
 · rintro ⟨u, hu, e⟩
   rcases List.mem_append.1 hu with h | h
   · exact .inr ⟨u, h, e⟩
   · have : u = o := by simpa using h
     subst this; exact .inl e.symm
theorem platesR_eq (l : List Opn) : platesR l = sortBy pltC (abK l) := by
 obtain ⟨h1, h2⟩ := platesR_spec l
 have hp := sortBy_perm pltC (abK l)
 have hn : (sortBy pltC (abK l)).Nodup := hp.nodup_iff.2 (abK_nodup l)
 have hs : (sortBy pltC (abK l)).Pairwise (fun a b => pltC a b < 0) := by
  have := (sortBy_sorted pltC_cmp (abK l)).and hn
  refine this.imp fun {a b} h => ?_
  have : pltC a b ≠ 0 := fun q => h.2 ((pltC_cmp.eq _ _).1 q)
  omega
 refine strict_ext (fun x y => Cmp.as pltC_cmp x y) h1 hs fun x => ?_
 rw [h2, hp.mem_iff, abK_mem]
theorem okOp_kind {o : Opn} (h : okOp o = true) : o.kind = 1 ∨ o.kind = 2 := by
 unfold okOp at h
 simp only [Bool.and_eq_true, Bool.or_eq_true, decide_eq_true_eq] at h
 exact h.1.1.2
def placesR (l : List Opn) : List Plc := if valV l ≠ 0 then [] else (platesR l).map (fun p => (aboutP l p).foldl stepP z0)
theorem placesR_eq (l : List Opn) : placesR l = placesV l := by
 unfold placesR placesV
 by_cases h : valV l ≠ 0
 · rw [if_pos h, if_pos h]
 · rw [if_neg h, if_neg h, platesR_eq]
   refine List.map_congr_left fun p hp => ?_
   have ok := OkL.of (l := l) (by simpa using h)
   exact placeR_eq (fun o ho => okOp_kind (ok.ok o (List.mem_filter.1 ho).1)) (about_ne hp)
end Go.Proofs.YtpglcghgklmedaaGreat

/- A part. -/
set_option maxRecDepth 100000
set_option maxHeartbeats 4000000
namespace Go.Proofs.YtpglcghgklmedaaGreat
open Go.Ev
def dbC (k : Int) (x : Pce) (i : Int) : Cnt := (i, fltsV 0, 31, 900, 20, i, 0, if i = k then [x] else [])
def dbT (k : Int) (x : Pce) : List Cnt := [1, 2, 3, 4, 5].map (dbC k x)
def dbE (i : Int) : Cnt := (i, fltsV 0, 31, 900, 20, i, 0, [])
theorem db_mem {i : Int} (h : 1 ≤ i ∧ i ≤ 5) : i ∈ ([1, 2, 3, 4, 5] : List Int) := by
 rcases (by omega : i = 1 ∨ i = 2 ∨ i = 3 ∨ i = 4 ∨ i = 5) with rfl | rfl | rfl | rfl | rfl <;> decide
theorem db_prop {i : Int} (h : 1 ≤ i ∧ i ≤ 5) (l : List Pce) : propC (i, fltsV 0, 31, 900, 20, i, 0, l) = true := by
 have h1 : ∀ i ∈ ([1, 2, 3, 4, 5] : List Int), propC (i, fltsV 0, 31, 900, 20, i, 0, []) = true := by decide +kernel
 exact h1 i (db_mem h)
theorem db_pw : ([1, 2, 3, 4, 5] : List Int).Pairwise (fun a b => a < b) := by decide
theorem db_ok {x : Pce} (hx : okPc x = true) (k : Int) : CtsOk (dbT k x) := by
 have hm : ∀ c ∈ dbT k x, ∃ i : Int, (1 ≤ i ∧ i ≤ 5) ∧ c = dbC k x i := fun c hc => by
  obtain ⟨i, hi, rfl⟩ := List.mem_map.1 hc
  refine ⟨i, ?_, rfl⟩
  simp at hi; omega
 refine ⟨by show 5 ≤ 24; decide, fun c hc => ?_, ?_, ?_, ?_⟩
 · obtain ⟨i, hi, rfl⟩ := hm c hc
   refine ⟨db_prop hi _, ?_, ⟨fun y hy => ?_, ?_⟩⟩
   · show (if i = k then [x] else [] : List Pce).length ≤ 60
     split <;> simp
   · have hy : y ∈ (if i = k then [x] else [] : List Pce) := hy
     split at hy
     · rw [List.mem_singleton.1 hy]; exact hx
     · cases hy
   · show (if i = k then [x] else [] : List Pce).Pairwise _
     split
     · exact List.pairwise_singleton _ _
     · exact .nil
 · unfold dbT
   rw [List.pairwise_map]
   exact db_pw
 · unfold dbT
   rw [List.pairwise_map]
   refine db_pw.imp fun {a b} h _ e => ?_
   have e : a = b := e
   omega
 · unfold dbT
   rw [List.pairwise_map]
   refine db_pw.imp fun {a b} h y hy z hz => ?_
   have hy : y ∈ (if a = k then [x] else [] : List Pce) := hy
   have hz : z ∈ (if b = k then [x] else [] : List Pce) := hz
   split at hy
   · split at hz
     · omega
     · cases hz
   · cases hy
theorem db_idx (k : Int) (x : Pce) {m : Int} (h : 1 ≤ m ∧ m ≤ 5) : numIdx (dbT k x) m = m - 1 ∧ (dbT k x).getD (m - 1).toNat ct0 = dbC k x m ∧ (dbT k x).set (m - 1).toNat (dbC k x m) = dbT k x ∧ (dbT m x).set (m - 1).toNat (dbC 0 x m) = dbT 0 x ∧ (dbT 0 x).set (m - 1).toNat (dbC m x m) = dbT m x := by
 rcases (by omega : m = 1 ∨ m = 2 ∨ m = 3 ∨ m = 4 ∨ m = 5) with rfl | rfl | rfl | rfl | rfl <;> exact ⟨rfl, rfl, rfl, rfl, rfl⟩
theorem db_inT (x : Pce) (m : Int) : inT (m, [x.1]) x = true := by unfold inT; simp
theorem db_perf {x : Pce} (hx : okPc x = true) {k m : Int} (hm : 1 ≤ m ∧ m ≤ 5) : perfV (dbT k x) (m, [x.1]) = (dbT (if m = k then 0 else k) x, if m = k then [x.1] else [], 0) := by
 have hC := checkV_iff.2 (db_ok hx k)
 obtain ⟨h1, h2, h3, h4, h5⟩ := db_idx k x hm
 unfold perfV
 rw [if_neg (by rw [hC]; simp)]
 show (if numIdx (dbT k x) m < 0 then _ else ((dbT k x).set (numIdx (dbT k x) m).toNat (setPcs ((dbT k x).getD (numIdx (dbT k x) m).toNat ct0) (((dbT k x).getD (numIdx (dbT k x) m).toNat ct0).pcs.filter (fun y => !inT (m, [x.1]) y))), (((dbT k x).getD (numIdx (dbT k x) m).toNat ct0).pcs.filter (inT (m, [x.1]))).map (fun y => y.1), (0 : Int))) = _
 rw [h1, if_neg (by omega), h2]
 have hp : (dbC k x m).pcs = if m = k then [x] else [] := rfl
 rw [hp]
 have hin := db_inT x m
 by_cases q : m = k
 · subst q
   simp only [if_true]
   have f1 : ([x] : List Pce).filter (fun y => !inT (m, [x.1]) y) = [] := by rw [List.filter_cons_of_neg (by rw [hin]; simp)]; rfl
   have f2 : ([x] : List Pce).filter (inT (m, [x.1])) = [x] := by rw [List.filter_cons_of_pos hin]; rfl
   rw [f1, f2]
   have hm0 : ¬ m = 0 := by omega
   have e : setPcs (dbC m x m) [] = dbC 0 x m := by unfold dbC setPcs; rw [if_neg hm0]
   rw [e, h4]; rfl
 · rw [if_neg q, if_neg q, if_neg q]
   have e : setPcs (dbC k x m) (([] : List Pce).filter (fun y => !inT (m, [x.1]) y)) = dbC k x m := by unfold dbC setPcs; rw [if_neg q]; rfl
   rw [e, h3]; rfl
theorem db_force {x : Pce} (hx : okPc x = true) {m : Int} (hm : 1 ≤ m ∧ m ≤ 5) : forceV ((dbT 0 x).getD (m - 1).toNat ct0) x = (dbC m x m, 0) := by
 obtain ⟨h1, h2, h3, h4, h5⟩ := db_idx 0 x hm
 rw [h2]
 have hm0 : ¬ m = 0 := by omega
 have hp : (dbC 0 x m).pcs = [] := by show (if m = 0 then [x] else [] : List Pce) = []; rw [if_neg hm0]
 have hc : ctErr (dbC 0 x m) = 0 := ctErr_iff.2 ⟨db_prop hm _, by rw [hp]; simp, by rw [hp]; exact ⟨fun y hy => (by cases hy), List.Pairwise.nil⟩⟩
 unfold forceV
 rw [if_neg (by simp [hc]), if_neg (by simp [hx]), hp, if_neg (by simp [hasP]), if_neg (by simp)]
 refine Prod.ext ?_ rfl
 show setPcs (dbC 0 x m) (insP [] x) = dbC m x m
 have e : insP [] x = [x] := rfl
 rw [e]
 unfold dbC setPcs
 simp
theorem db_rem (x : Pce) (p : Plt) : remV (dbT 0 x) [p] = [] := by
 have : (findV (dbT 0 x) p).2 = false := rfl
 unfold remV
 rw [List.filter_cons_of_neg (by rw [this]; simp)]; rfl
theorem dbsort_one (p : Plt) : sortBy pltC [p] = [p] := List.perm_singleton.1 (sortBy_perm pltC [p])
theorem db_cand {l : List Plm} {z : Plm} (hz : z ∈ l) (h1 : ∀ y ∈ l, y.1.1 = z.1.1 → y = z) (c : List Cnt) : candV c l z.1.1 = z.2.2 := by
 unfold candV
 split
 · rename_i y hy
   have h2 := List.find?_some hy
   rw [h1 y (List.mem_of_find?_eq_some hy) (of_decide_eq_true h2)]
 · rename_i hy
   exact absurd (decide_eq_true rfl) (List.find?_eq_none.1 hy z hz)
theorem db_search {l : List Plm} {z : Plm} {k : Int} {x : Pce} (hx : okPc x = true) (hz : candV (dbT k x) l z.1.1 = z.2.2) (hp : okPl z.1.1 = true) (hM : ∀ m ∈ z.2.2, 1 ≤ m ∧ m ≤ 5) :
 searchV (dbT k x) l [z.1.1] = (sortT (tskL (dbT k x) l [z.1.1]), 0) := by
 have hC := checkV_iff.2 (db_ok hx k)
 have hw : wantE [z.1.1] = 0 := by
  unfold wantE
  rw [compP_set, if_neg (by simp [hp]), if_neg (by show ¬ (([z.1.1] : List Plt).length < 1); simp)]
 have hl : lostV (dbT k x) l z.1.1 = false := by
  unfold lostV
  rw [hz, List.any_eq_false]
  intro m hm
  have := (db_idx k x (hM m hm)).1
  have h2 := hM m hm
  rw [this]; simp; omega
 unfold searchV
 rw [if_neg (by rw [hC]; simp), if_neg (by rw [hw]; simp), dbsort_one, if_neg (by simp [hl])]
theorem nam_one {c : List Cnt} {l : List Plm} {p : Plt} {n : Int} : namV c l n [p] = if n ∈ candV c l p then [p] else [] := by
 by_cases q : n ∈ candV c l p
 · rw [if_pos q]
   unfold namV
   rw [List.filter_cons_of_pos (p := fun p => (candV c l p).any (fun m => decide (m = n))) (List.any_eq_true.2 ⟨n, q, decide_eq_true rfl⟩)]; rfl
 · rw [if_neg q]
   refine List.filter_eq_nil_iff.2 fun y hy w => q ?_
   rw [List.mem_singleton.1 hy] at w
   obtain ⟨m, hm, e⟩ := List.any_eq_true.1 w
   exact of_decide_eq_true e ▸ hm
structure DbK (p : Plt) (M : List Int) (TS : List Tsk) : Prop where
 el : ∀ t ∈ TS, t = (t.1, [p]) ∧ t.1 ∈ M
 ex : ∀ m ∈ M, ∃ t ∈ TS, t.1 = m
 len : TS.length = M.length
theorem db_tasks {c : List Cnt} {l : List Plm} {z : Plm} (hc : candV c l z.1.1 = z.2.2) (hs : z.2.2.Nodup) : DbK z.1.1 z.2.2 (sortT (tskL c l [z.1.1])) := by
 have hP : (sortT (tskL c l [z.1.1])).Perm (tskL c l [z.1.1]) := List.mergeSort_perm _ _
 have I := tskL_i c l [z.1.1] (by simp)
 have h1 : ∀ t ∈ tskL c l [z.1.1], t = (t.1, [z.1.1]) ∧ t.1 ∈ z.2.2 := fun t ht => by
  obtain ⟨g1, g2⟩ := I.m t ht
  rw [nam_one] at g1 g2
  by_cases q : t.1 ∈ candV c l z.1.1
  · rw [if_pos q] at g1
    exact ⟨Prod.ext rfl g1, hc ▸ q⟩
  · rw [if_neg q] at g2; exact absurd rfl g2
 have h2 : ∀ m ∈ z.2.2, ∃ t ∈ tskL c l [z.1.1], t.1 = m := fun m hm => I.e m (by
  show namV c l m [z.1.1] ≠ []
  rw [nam_one, if_pos (hc ▸ hm)]; simp)
 refine ⟨fun t ht => h1 t (hP.mem_iff.1 ht), fun m hm => ?_, ?_⟩
 · obtain ⟨t, ht, e⟩ := h2 m hm
   exact ⟨t, hP.mem_iff.2 ht, e⟩
 · rw [hP.length_eq]
   have := (List.perm_ext_iff_of_nodup I.n hs).2 (fun m => by
    rw [List.mem_map]
    exact ⟨fun ⟨t, ht, e⟩ => e ▸ (h1 t ht).2, fun hm => by obtain ⟨t, ht, e⟩ := h2 m hm; exact ⟨t, ht, e⟩⟩)
   have := this.length_eq
   rwa [List.length_map] at this
def kJ (TS : List Tsk) (n : Int) (j : Nat) : Int := if n ∈ (TS.take j).map (fun t => t.1) then 0 else n
def fJ (TS : List Tsk) (n : Int) (j : Nat) : Int := if n ∈ (TS.take j).map (fun t => t.1) then 1 else 0
theorem kJ_0 (TS : List Tsk) (n : Int) : kJ TS n 0 = n ∧ fJ TS n 0 = 0 := ⟨rfl, rfl⟩
theorem kJ_step {TS : List Tsk} {n : Int} {j : Nat} {u : Tsk} (hj : j < TS.length) (hu : TS.getD j tk0 = u) (h0 : u.1 ≠ 0) : (if u.1 = kJ TS n j then 0 else kJ TS n j) = kJ TS n (j + 1) ∧ fJ TS n j + (if u.1 = kJ TS n j then 1 else 0) = fJ TS n (j + 1) := by
 have ht : (TS.take (j + 1)).map (fun t => t.1) = (TS.take j).map (fun t => t.1) ++ [u.1] := by
  rw [List.take_succ_eq_append_getElem hj, ← getD_lt (d := tk0) hj, hu, List.map_append]; rfl
 unfold kJ fJ
 rw [ht]
 by_cases q : n ∈ (TS.take j).map (fun t => t.1)
 · have q2 : n ∈ (TS.take j).map (fun t => t.1) ++ [u.1] := List.mem_append_left _ q
   rw [if_pos q, if_pos q2, if_pos q2, if_pos q, if_neg h0, if_neg h0]
   exact ⟨rfl, rfl⟩
 · rw [if_neg q, if_neg q]
   by_cases e : u.1 = n
   · have q2 : n ∈ (TS.take j).map (fun t => t.1) ++ [u.1] := by rw [e]; simp
     rw [if_pos q2, if_pos q2, if_pos e, if_pos e]
     exact ⟨rfl, rfl⟩
   · have q2 : ¬ n ∈ (TS.take j).map (fun t => t.1) ++ [u.1] := fun w => by
      rcases List.mem_append.1 w with w | w
      · exact q w
      · exact e (List.mem_singleton.1 w).symm
     rw [if_neg q2, if_neg q2, if_neg e, if_neg e]
     exact ⟨rfl, rfl⟩
theorem kJ_end {p : Plt} {M : List Int} {TS : List Tsk} (h : DbK p M TS) {n : Int} (hn : n ∈ M) : kJ TS n TS.length = 0 ∧ fJ TS n TS.length = 1 := by
 obtain ⟨t, ht, e⟩ := h.ex n hn
 have : n ∈ (TS.take TS.length).map (fun t => t.1) := by
  rw [List.take_length]
  exact List.mem_map.2 ⟨t, ht, e⟩
 unfold kJ fJ
 rw [if_pos this, if_pos this]
 exact ⟨rfl, rfl⟩
theorem db_plm {k : Int} {l : List Opn} (hO : OpsR k l) {z : Plm} (hz : z ∈ placesV l) : (∀ y ∈ placesV l, y.1.1 = z.1.1 → y = z) ∧ okPc z.1 = true ∧ z.2.2.Nodup ∧ ∀ m ∈ z.2.2, 1 ≤ m ∧ m ≤ k := by
 have key : ∀ p, p ∈ sortBy pltC (abK l) → (placeV (aboutP l p)).1.1 = p ∧ ∃ o ∈ l, o.2.2.2.2.2 = (placeV (aboutP l p)).1 := fun p hp => by
  have hne := about_ne hp
  unfold placeV
  have hl : 0 < (aboutP l p).length := List.length_pos_iff.2 hne
  have hm : (aboutP l p).getD ((aboutP l p).length - 1) o0 ∈ aboutP l p := getD_mem (by omega)
  have := (List.mem_filter.1 hm).2
  exact ⟨of_decide_eq_true this, _, (List.mem_filter.1 hm).1, rfl⟩
 unfold placesV at hz ⊢
 split at hz
 · cases hz
 · rename_i h
   rw [if_neg h]
   obtain ⟨p, hp, rfl⟩ := List.mem_map.1 hz
   obtain ⟨k1, o, ho, ke⟩ := key p hp
   refine ⟨fun y hy e => ?_, ?_, ?_, ?_⟩
   · obtain ⟨q, hq, rfl⟩ := List.mem_map.1 hy
     rw [k1, (key q hq).1] at e
     rw [e]
   · have := hO.okl.ok o ho
     unfold okOp at this
     rw [← ke]
     simp only [Bool.and_eq_true] at this
     exact this.2
   · show (compV (sortI (trail (aboutP l p)))).Nodup
     refine (compV_spec _).1.imp fun {a b} h e => ?_
     rw [cmpV_lt] at h
     omega
   · intro m hm
     have hm : m ∈ compV (sortI (trail (aboutP l p))) := hm
     rw [(compV_spec _).2] at hm
     unfold trail at hm
     obtain ⟨u, hu, e⟩ := List.mem_map.1 hm
     have h1 := (List.takeWhile_sublist _).subset hu
     rw [List.mem_reverse] at h1
     have := hO.bx u (List.mem_filter.1 h1).1
     rw [← e]; exact this
end Go.Proofs.YtpglcghgklmedaaGreat

/- A part. -/
set_option maxRecDepth 100000
set_option maxHeartbeats 8000000
namespace Go.Proofs.YtpglcghgklmedaaGreat
open Go.Ev
attribute [local go_sem] List.set_cons_succ List.set_cons_zero List.getD_cons_succ List.getD_cons_zero List.set_nil
def con47 : Con := { ps := [.d false (.sl (.int .i64)), .d false (.sl (.int .i64))], rs := [.d false .bool], pre := fun x => True, out := fun (x : List Int × List Int × Unit) => (decide (x.1 = x.2.1), ()), nw := id }
theorem c47 : CtrOk Tryz.prog 47 con47.ctr :=
 con_sound (G := ⟨[], [], [], [], []⟩) tab_ok EnvOk.nil rfl Tryz.func47 rfl con47 33571891 (by kernel_rfl) (by decide) (by decide) rfl (by decide) rfl (by
  rintro ⟨(a : List Int), (b : List Int), _⟩ hpre hwf X hT hG hk hK
  (simp -implicitDefEqProofs only [go_sem, bP, con47, hT, hG, hk, hK, Tryz.results47] at hwf ⊢); (try simp (disch := decide +kernel) only [drawn, true_and, and_true])
  clear hwf
  refine fun _ _ => ⟨fun h => ?_, fun h => ?_⟩
  · rw [eq_comm, decide_eq_false_iff_not]
    intro q
    exact h (by rw [q])
  · refine evk_loop ⟨{ i : Nat // i ≤ a.length ∧ a.take i = b.take i }, 1000, fun q => [(0, .one (.sl (.int .i64) a false)), (1, .one (.sl (.int .i64) b false)), (5, .one (.int .i64 q.1))], fun q => [], fun q => a.length - q.1⟩ ⟨0, Nat.zero_le _, rfl⟩ ?_ ?_
    · simp only [go_sem]
      try first | rfl | (and_intros <;> first | trivial | rfl | omega)
    · rintro ⟨i, (hi : i ≤ a.length), (he : a.take i = b.take i)⟩
      (simp -implicitDefEqProofs only [go_sem, bP, con47, hT, hG, hk, hK, Tryz.results47]); (try simp (disch := decide +kernel) only [drawn, true_and, and_true])
      obtain ⟨o, ho⟩ : ∃ o, a.getD i 0 = o := ⟨_, rfl⟩
      have eo : a.getD (i : Int).toNat 0 = o := ho
      obtain ⟨u, hu⟩ : ∃ o, b.getD i 0 = o := ⟨_, rfl⟩
      have eu : b.getD (i : Int).toNat 0 = u := hu
      try simp only [eo, eu]
      refine fun _ => ⟨fun hlt => ?_, fun hge => ?_⟩
      · have hia : i < a.length := by omega
        have hib : i < b.length := by omega
        (repeat' with_reducible first | refine And.intro ?_ ?_ | intro _) <;> try first | with_reducible (first | assumption | omega | contradiction) | decide
        all_goals first
         | omega
         | (have hne : ¬ o = u := by assumption
            rw [eq_comm, decide_eq_false_iff_not]
            intro q
            subst q
            exact hne (ho.symm.trans hu))
         | (have hne : o = u := by assumption
            refine fin_lp ⟨i + 1, by omega, ?_⟩ ?_ (by dsimp only; omega)
            · show a.take (i + 1) = b.take (i + 1)
              rw [List.take_succ_eq_append_getElem hia, List.take_succ_eq_append_getElem hib, he, ← getD_lt (d := 0) hia, ← getD_lt (d := 0) hib, ho, hu, hne]
            · simp only [go_sem]
              try first | rfl | (and_intros <;> first | trivial | rfl | omega))
         | fail
      · rw [eq_comm, decide_eq_true_eq]
        rw [List.take_of_length_le (by omega), List.take_of_length_le (by omega)] at he
        exact he)
theorem aS1 : searchV three3 [] [platesV 1] = ([(5, [platesV 1])], 0) := by decide +kernel
theorem aT2 : tskL three3 [((platesV 1, 20, 0), 5, [3, 5])] (sortBy pltC [platesV 1]) = [(3, [platesV 1]), (5, [platesV 1])] := by decide +kernel
theorem aT3 : sortT [(3, [platesV 1]), (5, [platesV 1])] = [(3, [platesV 1]), (5, [platesV 1])] := (sortT_eq (by unfold TkN; decide) (List.Perm.refl _) (by decide +kernel)).symm
theorem aS2 : searchV three3 [((platesV 1, 20, 0), 5, [3, 5])] [platesV 1] = ([(3, [platesV 1]), (5, [platesV 1])], 0) := by
 unfold searchV
 rw [if_neg (by decide +kernel), if_neg (by decide +kernel), if_neg (by decide +kernel), aT2, aT3]
theorem aAb : aboV three3 (fltsV 0) = three3 := by
 unfold aboV
 rw [show three3.filter (onB (fltsV 0)) = three3 by decide +kernel]
 exact (sortC_eq (by unfold PosN; decide +kernel) (List.Perm.refl _) (by decide +kernel)).symm
theorem aO1 : ordV three3 (fltsV 0) [(5, [platesV 1])] = ([8, 5], 0) := by
 unfold ordV
 rw [if_neg (by decide +kernel), if_neg (by decide +kernel), aAb]
 decide +kernel
theorem aO2 : ordV three3 (fltsV 0) [(3, [platesV 1]), (5, [platesV 1])] = ([8, 5, 3], 0) := by
 unfold ordV
 rw [if_neg (by decide +kernel), if_neg (by decide +kernel), aAb]
 decide +kernel
theorem aP : perfV three3 (5, [platesV 1]) = (three0, [platesV 1], 0) := by decide +kernel
theorem aR1 : remV three0 [platesV 1] = [] := by decide +kernel
theorem aR2 : remV three3 [platesV 1] = [platesV 1] := by decide +kernel
def con15 : Con := { ps := [], rs := [.d false .bool], pre := fun _ => True, out := fun _ => (true, ()), nw := id }
theorem c15 : CtrOk Tryz.prog 15 con15.ctr :=
 con_sound (G := ⟨[(6, con6.ctr), (44, con44.ctr), (45, con45.ctr), (12, con12.ctr), (46, con46.ctr), (13, con13.ctr), (14, con14.ctr), (47, con47.ctr)], [], [(109, 4), (116, 4)], [], []⟩) tab_ok (EnvOk.cons c6 has6 (EnvOk.cons c44 has44 (EnvOk.cons c45 has45 (EnvOk.cons c12 has12 (EnvOk.cons c46 has46 (EnvOk.cons c13 has13 (EnvOk.cons c14 has14 (EnvOk.cons c47 has47 EnvOk.nil)))))))) rfl Tryz.func15 rfl con15 16383 (by kernel_rfl) (by decide) (by decide) rfl (by decide) rfl (by
  rintro _ hpre hwf X hT hG hk hK
  (simp -implicitDefEqProofs only [go_sem, bP, con15, con6, con44, con45, con12, con46, con13, con14, con47, hT, hG, hk, hK, Tryz.results15] at hwf ⊢); (try simp (disch := decide +kernel) only [drawn, true_and, and_true])
  simp only [aS1, aS2, aO1, aO2, aP, aR1, aR2]
  (repeat' with_reducible first | refine And.intro ?_ ?_ | intro _) <;> try first | with_reducible (first | assumption | omega | contradiction) | decide
  all_goals first
   | decide
   | (subst_vars; decide)
   | fail)
end Go.Proofs.YtpglcghgklmedaaGreat

/- A part. -/
set_option maxRecDepth 100000
set_option maxHeartbeats 16000000
namespace Go.Proofs.YtpglcghgklmedaaGreat
open Go.Ev
attribute [local go_sem] List.set_cons_succ List.set_cons_zero List.getD_cons_succ List.getD_cons_zero List.set_nil
def dbL (i : Nat) : List Cnt := (([1, 2, 3, 4, 5] : List Int).take i).map dbE
theorem dbL_step {i : Nat} (h : i < 5) : dbL (i + 1) = dbL i ++ [dbE (1 + i)] := by
 rcases (by omega : i = 0 ∨ i = 1 ∨ i = 2 ∨ i = 3 ∨ i = 4) with rfl | rfl | rfl | rfl | rfl <;> rfl
theorem dbL_len {i : Nat} (h : i ≤ 5) : (dbL i).length = i := by
 unfold dbL
 rw [List.length_map, List.length_take]
 show min i 5 = i
 omega
theorem dbL_5 (x : Pce) : dbL 5 = dbT 0 x := rfl
theorem db_may {l : List Opn} {z : Plc} (h : z ∈ placesV l) : z.2.2.length ≤ l.length := by
 rw [← placesR_eq] at h
 unfold placesR at h
 split at h
 · cases h
 · obtain ⟨p, hp, rfl⟩ := List.mem_map.1 h
   exact Nat.le_trans (placeR_len _) (about_len _ _)
def con3 : Con := { ps := [.d false (.sl (.int .i64)), .d false (.int .i64)], rs := [.d false .bool], pre := fun _ => True, out := fun x => (true, ()), nw := id }
theorem c3 : CtrOk Tryz.prog 3 con3.ctr :=
 con_sound (G := ⟨[(5, con5.ctr), (9, con9.ctr), (6, con6.ctr), (8, con8.ctr), (10, con10.ctr), (11, con11.ctr), (12, con12.ctr), (14, con14.ctr), (13, con13.ctr), (15, con15.ctr)], [(7, con7.rctr)], [], [], []⟩) tab_ok (EnvOk.cons c5 has5 (EnvOk.cons c9 has9 (EnvOk.cons c6 has6 (EnvOk.cons c8 has8 (EnvOk.cons c10 has10 (EnvOk.cons c11 has11 (EnvOk.cons c12 has12 (EnvOk.cons c14 has14 (EnvOk.cons c13 has13 (EnvOk.cons c15 has15 (EnvOk.rcons c7 has7 EnvOk.nil))))))))))) rfl Tryz.func3 rfl con3 348450474212546168137734782363582508563443 (by kernel_rfl) (by decide) (by decide) rfl (by decide) rfl (by
  rintro ⟨(src : List Int), (wh : Int), _⟩ hpre hwf X hT hG hk hK
  (simp -implicitDefEqProofs only [go_sem, bP, con3, con5, con9, con6, con8, con10, con11, con12, con14, con13, con15, con7, hT, hG, hk, hK, Tryz.results3] at hwf ⊢); (try simp (disch := decide +kernel) only [drawn, true_and, and_true])
  clear hwf
  intros
  refine evk_loop ⟨{ i : Nat // i ≤ 5 }, 1000, fun q => [(1, .one (.int .i64 wh)), (5, .one (.loc 70 0)), (6, .one (.row 66)), (7, .one (.int .i64 (1 + q.1)))], fun q => [(70, .cells 67 [.sl (.int .i64) (src.take 2000) false, .int .i64 0]), (66, .row 31 yCT (dbL q.1))], fun q => 5 - q.1⟩ ⟨0, Nat.zero_le _⟩ ?_ ?_
  · simp only [go_sem]
    first
     | (try first | rfl | (and_intros <;> first | trivial | rfl | omega)
        done)
     | fail
  rintro ⟨i, (hi : i ≤ 5)⟩
  (simp -implicitDefEqProofs only [go_sem, bP, con3, con5, con9, con6, con8, con10, con11, con12, con14, con13, con15, con7, hT, hG, hk, hK, Tryz.results3]); (try simp (disch := decide +kernel) only [drawn, true_and, and_true])
  have hlen := dbL_len hi
  refine ⟨fun hle _ => ⟨by omega, by omega, ?_⟩, fun hgt => ?_⟩
  · refine fin_lp ⟨i + 1, by omega⟩ ?_ (by dsimp only; omega)
    simp only [go_sem]
    rw [dbL_step (by omega)]
    first
     | (try first | rfl | (and_intros <;> first | trivial | rfl | omega)
        done)
     | (refine ⟨?_, ?_⟩ <;> first | rfl | omega)
     | fail
  obtain rfl : i = 5 := by omega
  refine ⟨by decide, ?_⟩
  rintro ⟨⟨(ops : List Opn), _⟩, ⟨⟨(s2 : List Int), (a2 : Int)⟩, _⟩⟩ hy2
  obtain ⟨⟨h2, hops⟩, -⟩ := hy2
  have hops : OpsR 5 ops := hops
  have hpl := fun z hz => db_plm hops (z := z) hz
  have hpm : ∀ y ∈ placesV ops, y.2.2.length ≤ 1000 := fun y hy => Nat.le_trans (db_may hy) (Nat.le_trans hops.len (by decide))
  have hplen := placesV_len ops
  dsimp only
  generalize placesV ops = P at hpl hpm hplen ⊢
  refine fun _ _ => evk_loop ⟨{ i : Nat // i ≤ P.length }, 2000, fun q => [(1, .one (.int .i64 wh)), (6, .one (.sl yCT (dbL 5) false)), (9, .one (.sl yPM P false)), (41, .one (.sl yPM P false)), (42, .one (.int .i64 P.length)), (43, .one (.int .i64 q.1))], fun q => [], fun q => P.length - q.1⟩ ⟨0, Nat.zero_le _⟩ ?_ ?_
  · simp only [go_sem]
    first
     | (try first | rfl | (and_intros <;> first | trivial | rfl | omega)
        done)
     | fail
  rintro ⟨i, (hi : i ≤ P.length)⟩
  (simp -implicitDefEqProofs only [go_sem, bP, con3, con5, con9, con6, con8, con10, con11, con12, con14, con13, con15, con7, hT, hG, hk, hK, Tryz.results3]); (try simp (disch := decide +kernel) only [drawn, true_and, and_true])
  obtain ⟨z, hz⟩ : ∃ z, P.getD i pm0 = z := ⟨_, rfl⟩
  have ez : P.getD (i : Int).toNat (((0, 0, 0), 0, 0), 0, []) = z := hz
  try simp only [ez]
  refine fun hlt => ⟨⟨by omega, by omega⟩, fun _ _ _ => ⟨fun h0 => ⟨by omega, ?_⟩, fun hne _ _ => ?_⟩⟩
  · refine fin_lp ⟨i + 1, by omega⟩ ?_ (by dsimp only; omega)
    simp only [go_sem]
    first
     | (try first | rfl | (and_intros <;> first | trivial | rfl | omega)
        done)
     | fail
  obtain ⟨q1, q2, q3, q4⟩ := hpl z (by rw [← hz]; exact getD_mem (by omega))
  have hgm := goMod_bd wh (z.2.2.length : Int) (by omega)
  obtain ⟨n, hn⟩ : ∃ n, List.getD z.2.2 (goMod wh (z.2.2.length : Int)).toNat 0 = n := ⟨_, rfl⟩
  have hnM : n ∈ z.2.2 := by rw [← hn]; exact getD_mem (by omega)
  have hb := q4 n hnM
  obtain ⟨f1, f2, f3, f4, f5⟩ := db_idx 0 z.1 hb
  have f6 := db_force q2 hb
  rw [f2] at f6
  have f2 : (dbT 0 z.1).getD (n - 1).toNat (0, (ByteArray.empty, 0, ByteArray.empty, 0), 0, 0, 0, 0, 0, []) = dbC 0 z.1 n := f2
  have eZ : ((z.1.1.1, z.1.1.2.1, z.1.1.2.2), z.1.2.1, z.1.2.2) = z.1 := rfl
  simp only [hn, dbL_5 z.1, f2, eZ, f6, f5]
  have hzm : z ∈ P := by rw [← hz]; exact getD_mem (by omega)
  have hpp : okPl z.1.1 = true := by
   unfold okPc at q2
   simp only [Bool.and_eq_true] at q2
   exact q2.1.1
  have hcd : candV (dbT n z.1) P z.1.1 = z.2.2 := db_cand hzm q1 _
  have hS := db_search (k := n) q2 hcd hpp q4
  have hK5 := db_tasks hcd q3
  simp only [hS]
  generalize sortT (tskL (dbT n z.1) P [z.1.1]) = TS at hK5 ⊢
  clear hS
  have hTl := hK5.len
  have l0 : (dbT 0 z.1).length = 5 := rfl
  have l1 : (dbT n z.1).length = 5 := rfl
  have hc0 : ∀ o ∈ dbT 0 z.1, o.pcs.length ≤ 100000 := fun o ho => Nat.le_trans ((db_ok q2 0).ok o ho).2.1 (by decide)
  simp only [l0, l1, hTl, not_true_eq_false, ne_eq, or_self, true_and, false_implies, true_implies]
  (repeat' with_reducible first | refine And.intro ?_ ?_ | intro _) <;> try first | with_reducible (first | assumption | omega | contradiction) | decide
  all_goals first
   | omega
   | exact hc0 _ (by assumption)
   | exact hpm _ (by assumption)
   | (refine evk_loop ⟨{ k : Nat // k ≤ TS.length }, 3000, fun q => [(1, .one (.int .i64 wh)), (6, .one (.sl yCT (dbL 5) false)), (9, .one (.sl yPM P false)), (41, .one (.sl yPM P false)), (42, .one (.int .i64 P.length)), (43, .one (.int .i64 i)), (11, .one (.loc 72 0)), (13, .one (.sl yCT (dbT (kJ TS n q.1) z.1) false)), (18, .one (.int .i64 (fJ TS n q.1))), (106, .one (.sl yTK TS false)), (107, .one (.int .i64 TS.length)), (108, .one (.int .i64 q.1))], fun q => [(72, .cells 41 [.int .i64 z.1.1.1, .int .i64 z.1.1.2.1, .int .i64 z.1.1.2.2, .int .i64 z.1.2.1, .int .i64 z.1.2.2, .int .i64 z.2.1, .sl (.int .i64) z.2.2 false])], fun q => TS.length - q.1⟩ ⟨0, Nat.zero_le _⟩ ?_ ?_
      · simp only [go_sem]
        first
         | (rw [(kJ_0 TS n).1, (kJ_0 TS n).2, hTl, ← dbL_5 z.1]
            try first | rfl | (and_intros <;> first | trivial | rfl | omega)
            done)
         | fail
      · rintro ⟨j, (hj : j ≤ TS.length)⟩
        (simp -implicitDefEqProofs only [go_sem, bP, con3, con5, con9, con6, con8, con10, con11, con12, con14, con13, con15, con7, hT, hG, hk, hK, Tryz.results3]); (try simp (disch := decide +kernel) only [drawn, true_and, and_true])
        obtain ⟨u, hu⟩ : ∃ u, TS.getD j tk0 = u := ⟨_, rfl⟩
        have eu : TS.getD (j : Int).toNat (0, []) = u := hu
        have eU : (u.1, u.2) = u := rfl
        try simp only [eu, eU]
        by_cases hjl : j < TS.length
        · obtain ⟨g1, g2⟩ := hK5.el u (by rw [← hu]; exact getD_mem hjl)
          have hub := q4 _ g2
          obtain ⟨g3, g4⟩ := kJ_step (n := n) hjl hu (by omega)
          have hP := db_perf q2 (k := kJ TS n j) hub
          rw [← g1, g3] at hP
          have hL : fJ TS n j + (((if u.1 = kJ TS n j then [z.1.1] else [] : List Plt).length : Nat) : Int) = fJ TS n (j + 1) := by
           rw [← g4]
           split <;> rfl
          generalize (if u.1 = kJ TS n j then [z.1.1] else [] : List Plt) = L at hP hL
          have hf0 : 0 ≤ fJ TS n (j + 1) ∧ fJ TS n (j + 1) ≤ 1 := by unfold fJ; split <;> omega
          simp only [hP, hL, not_true_eq_false, ne_eq, false_implies, true_implies, true_and]
          (repeat' with_reducible first | refine And.intro ?_ ?_ | intro _) <;> try first | with_reducible (first | assumption | omega | contradiction) | decide
          all_goals first
           | omega
           | (refine fin_lp ⟨j + 1, by omega⟩ ?_ (by dsimp only; omega)
              simp only [go_sem]
              try first | rfl | (and_intros <;> first | trivial | rfl | omega)
              done)
           | fail
        · obtain ⟨g1, g2⟩ := kJ_end hK5 hnM
          have ej : j = TS.length := by omega
          subst ej
          have hr := db_rem z.1 z.1.1
          simp only [g1, g2, hr, List.length_nil]
          (repeat' with_reducible first | refine And.intro ?_ ?_ | intro _) <;> try first | with_reducible (first | assumption | omega | contradiction) | decide
          all_goals first
           | omega
           | (refine fin_lp ⟨i + 1, by omega⟩ ?_ (by dsimp only; omega)
              simp only [go_sem]
              try first | rfl | (and_intros <;> first | trivial | rfl | omega)
              done)
           | (simp_all; done)
           | fail)
   | (simp_all; done)
   | fail)
end Go.Proofs.YtpglcghgklmedaaGreat
