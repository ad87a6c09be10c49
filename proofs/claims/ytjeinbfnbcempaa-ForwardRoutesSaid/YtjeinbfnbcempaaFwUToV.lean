/- The labels of the reference: the plain law and the walks. -/
import Derived.Test.YtjeinbfnbcempaaFwOToM
set_option linter.unusedSimpArgs false
set_option linter.unusedVariables false
set_option maxRecDepth 100000
set_option maxHeartbeats 4000000
namespace Go.Proofs.Ytjeinbfnbcempaa
open Go.Ev

/-! ### sorted lists of labels -/
def Srt (lb : List Lbl) : Prop := lb.Pairwise fun a b => a.1.toList < b.1.toList
def setL : List Lbl → ByteArray → Int → List Lbl
  | [], p, t => [(p, t)]
  | y :: ys, p, t => if strLt y.1 p = true then y :: setL ys p t else if y.1 = p then (p, t) :: ys else (p, t) :: y :: ys
theorem labV_nil (p : ByteArray) : labV [] p = none := rfl
theorem labV_cons (y : Lbl) (ys : List Lbl) (p : ByteArray) : labV (y :: ys) p = if p = y.1 then some y.2 else labV ys p := by
  unfold labV
  rw [List.find?_cons]
  by_cases h : y.1 = p
  · simp [h]
  · have h2 : ¬ p = y.1 := fun e => h e.symm
    simp [h, h2]
theorem labV_set (p : ByteArray) (t : Int) (q : ByteArray) : ∀ lb : List Lbl, labV (setL lb p t) q = if q = p then some t else labV lb q
  | [] => by simp [setL, labV_cons, labV_nil]
  | y :: ys => by
    have ih := labV_set p t q ys
    unfold setL
    by_cases h : strLt y.1 p = true
    · rw [if_pos h, labV_cons, labV_cons, ih]
      by_cases e : q = y.1
      · have hne : ¬ q = p := fun k => by
          rw [strLt_iff, ← e, k] at h
          exact List.lt_irrefl _ h
        rw [if_pos e, if_neg hne, if_pos e]
      · rw [if_neg e, if_neg e]
    · rw [if_neg h]
      by_cases e2 : y.1 = p
      · rw [if_pos e2, labV_cons, labV_cons, e2]
        by_cases e : q = p <;> simp [e]
      · rw [if_neg e2, labV_cons]
theorem setL_mem (p : ByteArray) (t : Int) : ∀ (lb : List Lbl) (x : Lbl), x ∈ setL lb p t → x.1 = p ∨ x ∈ lb
  | [], x, h => by
    rw [setL, List.mem_singleton] at h
    exact .inl (by rw [h])
  | y :: ys, x, h => by
    unfold setL at h
    split at h
    · rcases List.mem_cons.1 h with h | h
      · exact .inr (by rw [h]; exact List.mem_cons_self)
      · rcases setL_mem p t ys x h with h | h
        · exact .inl h
        · exact .inr (List.mem_cons_of_mem _ h)
    · split at h
      · rcases List.mem_cons.1 h with h | h
        · exact .inl (by rw [h])
        · exact .inr (List.mem_cons_of_mem _ h)
      · rcases List.mem_cons.1 h with h | h
        · exact .inl (by rw [h])
        · exact .inr h
theorem tri_str {a b : ByteArray} (h : ¬ strLt a b = true) (e : ¬ a = b) : b.toList < a.toList := by
  rw [strLt_iff] at h
  rcases List.le_iff_lt_or_eq.1 (List.not_lt.1 h) with h3 | h3
  · exact h3
  · exact absurd (str_inj h3.symm) e
theorem setL_srt (p : ByteArray) (t : Int) : ∀ lb : List Lbl, Srt lb → Srt (setL lb p t)
  | [], _ => List.pairwise_singleton _ _
  | y :: ys, h => by
    have h' := List.pairwise_cons.1 h
    unfold setL
    split
    · rename_i hlt
      refine List.pairwise_cons.2 ⟨fun x hx => ?_, setL_srt p t ys h'.2⟩
      rcases setL_mem p t ys x hx with e | hx
      · rw [e]; exact (strLt_iff _ _).1 hlt
      · exact h'.1 x hx
    · rename_i hlt
      split
      · rename_i e
        refine List.pairwise_cons.2 ⟨fun x hx => ?_, h'.2⟩
        have := h'.1 x hx
        rw [e] at this; exact this
      · rename_i e
        have hyp := tri_str hlt e
        refine List.pairwise_cons.2 ⟨fun x hx => ?_, h⟩
        rcases List.mem_cons.1 hx with rfl | hx
        · exact hyp
        · exact List.lt_trans hyp (h'.1 x hx)
theorem labV_low {lb : List Lbl} {p : ByteArray} (h : ∀ x ∈ lb, p.toList < x.1.toList) : labV lb p = none :=
  labV_none fun x hx e => by
    have := h x hx
    rw [e] at this
    exact List.lt_irrefl _ this
theorem srt_ext : ∀ {a b : List Lbl}, Srt a → Srt b → (∀ p, labV a p = labV b p) → a = b
  | [], [], _, _, _ => rfl
  | [], y :: ys, _, _, h => by
    have := h y.1
    rw [labV_nil, labV_cons, if_pos rfl] at this; cases this
  | x :: xs, [], _, _, h => by
    have := h x.1
    rw [labV_nil, labV_cons, if_pos rfl] at this; cases this
  | x :: xs, y :: ys, ha, hb, h => by
    have ha' := List.pairwise_cons.1 ha
    have hb' := List.pairwise_cons.1 hb
    have hlt : ∀ {u v : Lbl} {us vs : List Lbl}, (∀ z ∈ vs, v.1.toList < z.1.toList) → (∀ p, labV (u :: us) p = labV (v :: vs) p) → ¬ u.1.toList < v.1.toList := fun {u v us vs} hv hh k => by
      have h1 := hh u.1
      have hne : ¬ u.1 = v.1 := fun e => by rw [e] at k; exact List.lt_irrefl _ k
      rw [labV_cons, if_pos rfl, labV_cons, if_neg hne, labV_low (fun z hz => List.lt_trans k (hv z hz))] at h1
      cases h1
    have e1 : x.1 = y.1 := by
      have n1 := hlt hb'.1 h
      have n2 := hlt ha'.1 (fun p => (h p).symm)
      refine str_inj ?_
      rcases List.le_iff_lt_or_eq.1 (List.not_lt.1 n1) with h3 | h3
      · exact absurd h3 n2
      · exact h3.symm
    have e2 : x.2 = y.2 := by
      have := h x.1
      rw [labV_cons, if_pos rfl, labV_cons, if_pos e1] at this
      exact Option.some.inj this
    have e3 : xs = ys := srt_ext ha'.2 hb'.2 fun p => by
      by_cases e : p = x.1
      · rw [e, labV_low ha'.1, e1, labV_low hb'.1]
      · have := h p
        rw [labV_cons, if_neg e, labV_cons, if_neg (by rw [← e1]; exact e)] at this
        exact this
    rw [e3, Prod.ext e1 e2]
theorem ba_toList (s : ByteArray) : s.toList = bytesOf s := by
  unfold bytesOf; exact ByteArray.toList_eq s
theorem labV_lbls (K : LMap) (p : ByteArray) : labV (lblsV K) p = (mgetS K p).map Prod.fst := by
  have hm : p ∈ sortK (K.map Prod.fst) ↔ (mgetS K p).isSome = true := by rw [sortK_mem, mget_mem]
  cases hv : mgetS K p with
  | some v =>
    rw [hv] at hm
    unfold lblsV
    rw [labV_map (tmOf K) p _ (hm.2 rfl)]
    unfold tmOf
    rw [hv]; rfl
  | none =>
    rw [hv] at hm
    refine labV_none fun x hx e => ?_
    unfold lblsV at hx
    obtain ⟨q, hq, rfl⟩ := List.mem_map.1 hx
    dsimp only at e
    rw [e] at hq
    have := hm.1 hq; cases this
theorem le_tot (a b : List UInt8) : (decide (a ≤ b) || decide (b ≤ a)) = true := by
  rw [Bool.or_eq_true, decide_eq_true_eq, decide_eq_true_eq]
  exact List.le_total a b
theorem sortK_srt {ks : List ByteArray} (h : ks.Nodup) : (sortK ks).Pairwise fun a b => a.toList < b.toList := by
  have h1 : ((ks.map bytesOf).mergeSort fun x y => decide (x ≤ y)).Pairwise fun a b => decide (a ≤ b) = true := List.pairwise_mergeSort (le := fun x y : List UInt8 => decide (x ≤ y)) (fun a b c h1 h2 => by
    simp only [decide_eq_true_eq] at *; exact List.le_trans h1 h2) le_tot _
  have hinj : ∀ a b : ByteArray, bytesOf a = bytesOf b → a = b := fun a b e => by rw [← ba_bytes a, ← ba_bytes b, e]
  have h2 : (ks.map bytesOf).Nodup := by
    unfold List.Nodup at *
    rw [List.pairwise_map]
    exact h.imp fun hne e => hne (hinj _ _ e)
  have h3 : ((ks.map bytesOf).mergeSort fun x y => decide (x ≤ y)).Nodup := (List.mergeSort_perm _ _).nodup_iff.2 h2
  have e : sortK ks = ((ks.map bytesOf).mergeSort fun x y => decide (x ≤ y)).map fun l => ⟨l.toArray⟩ := rfl
  rw [e, List.pairwise_map]
  have hb : ∀ l : List UInt8, (⟨l.toArray⟩ : ByteArray).toList = l := fun l => by rw [ba_toList]; unfold bytesOf; rfl
  refine (List.pairwise_and_iff.2 ⟨h1, h3⟩).imp fun {a b} hab => ?_
  rw [hb, hb]
  have h4 : a ≤ b := by simpa using hab.1
  rcases List.le_iff_lt_or_eq.1 h4 with h5 | h5
  · exact h5
  · exact absurd h5 hab.2
theorem lbls_srt {K : LMap} (h : (K.map Prod.fst).Nodup) : Srt (lblsV K) := by
  unfold Srt lblsV
  rw [List.pairwise_map]
  exact sortK_srt h

/-! ### the reference's rounds -/
/-- Taking a service that comes earlier keeps what the labels bear, and the sum falls. -/
theorem base_step {l : List Svc} {f : ByteArray} {r n : Int} (hA : ArgOk l r n) {K : LMap} (hB : LBase l f r n K) {k : Nat} (hk : k < l.length) {s : Svc} (hs : l.getD k sv0 = s) {up : Int × Int} (hup : mgetS K s.2.1 = some up) (c2 : takV s f n up.1 = true) (hnf : s.2.2.1 ≠ f)
    (c3 : ¬ ((mgetS K s.2.2.1).isSome = true ∧ tmOf K s.2.2.1 ≤ s.2.2.2.2.1)) : LBase l f r n (msetS K s.2.2.1 (s.2.2.2.2.1, (k : Int))) ∧ Phi l (msetS K s.2.2.1 (s.2.2.2.2.1, (k : Int))) < Phi l K := by
  obtain ⟨s1, s2⟩ := get_sv hA hk
  rw [hs] at s1 s2
  have hb := svOk_bd s1
  have hbd := takV_bd c2 hA.n0
  have hlow := hB.low s.2.1 up hup
  have hG : ∀ q, mgetS (msetS K s.2.2.1 (s.2.2.2.2.1, (k : Int))) q = if q = s.2.2.1 then some (s.2.2.2.2.1, (k : Int)) else mgetS K q := fun q => mget_set _ _ _ _
  have fall : ∀ q u, mgetS K q = some u → ∃ u', mgetS (msetS K s.2.2.1 (s.2.2.2.2.1, (k : Int))) q = some u' ∧ u'.1 ≤ u.1 := fun q u hu => by
    rw [hG]
    by_cases e : q = s.2.2.1
    · rw [if_pos e]
      refine ⟨_, rfl, ?_⟩
      have : ¬ tmOf K s.2.2.1 ≤ s.2.2.2.2.1 := fun q2 => c3 ⟨by rw [← e, hu]; rfl, q2⟩
      unfold tmOf at this
      rw [← e, hu] at this
      simp only [Option.getD_some] at this
      show s.2.2.2.2.1 ≤ u.1
      omega
    · rw [if_neg e]; exact ⟨u, hu, Int.le_refl _⟩
  refine ⟨⟨?_, ?_, ?_⟩, ?_⟩
  · rw [hG, if_neg (fun e => hnf e.symm)]; exact hB.frm
  · intro q v hv
    rw [hG] at hv
    have lift : ∀ i, (∃ u, mgetS K (l.getD i sv0).2.1 = some u ∧ takV (l.getD i sv0) f n u.1 = true) → ∃ u, mgetS (msetS K s.2.2.1 (s.2.2.2.2.1, (k : Int))) (l.getD i sv0).2.1 = some u ∧ takV (l.getD i sv0) f n u.1 = true := fun i ⟨u, hu, ht⟩ => by
      obtain ⟨u', h1, h2⟩ := fall _ u hu
      exact ⟨u', h1, takV_mono ht h2⟩
    by_cases e : q = s.2.2.1
    · rw [if_pos e] at hv
      cases hv
      exact .inr ⟨k, rfl, hk, by rw [hs, e], by rw [hs], lift k ⟨up, by rw [hs]; exact hup, by rw [hs]; exact c2⟩⟩
    · rw [if_neg e] at hv
      rcases hB.snd q v hv with g | ⟨i, g1, g2, g3, g4, g5⟩
      · exact .inl g
      · exact .inr ⟨i, g1, g2, g3, g4, lift i g5⟩
  · intro q v hv
    rw [hG] at hv
    by_cases e : q = s.2.2.1
    · rw [if_pos e] at hv
      cases hv
      exact ⟨by show r ≤ s.2.2.2.2.1; omega, by show s.2.2.2.2.1 ≤ 1048576; omega⟩
    · rw [if_neg e] at hv
      exact hB.low q v hv
  · refine sum_lt (fun x hx => ?_) ⟨s, by rw [← hs]; have e : l.getD k sv0 = l[k] := by simp [hk]
                                          rw [e]; exact List.getElem_mem hk, ?_⟩
    · unfold phi
      rw [hG]
      by_cases e : x.2.2.1 = s.2.2.1
      · rw [if_pos e, e]
        cases hm : mgetS K s.2.2.1 with
        | none => simp only; omega
        | some v =>
          have : ¬ tmOf K s.2.2.1 ≤ s.2.2.2.2.1 := fun q2 => c3 ⟨by rw [hm]; rfl, q2⟩
          unfold tmOf at this
          rw [hm] at this
          simp only [Option.getD_some] at this ⊢
          omega
      · rw [if_neg e]; exact Nat.le_refl _
    · unfold phi
      rw [hG, if_pos rfl]
      cases hm : mgetS K s.2.2.1 with
      | none => simp only; omega
      | some v =>
        have : ¬ tmOf K s.2.2.1 ≤ s.2.2.2.2.1 := fun q2 => c3 ⟨by rw [hm]; rfl, q2⟩
        unfold tmOf at this
        rw [hm] at this
        simp only [Option.getD_some] at this ⊢
        omega
/-- What labels are, whoever finds them. -/
theorem labels_same {l : List Svc} {f : ByteArray} {r n : Int} (hA : ArgOk l r n) {K K' : LMap} (h : LOK l f r n K) (h' : LOK l f r n K') (p : ByteArray) : (mgetS K p).map Prod.fst = (mgetS K' p).map Prod.fst := by
  have key : ∀ {A B : LMap}, LOK l f r n A → LOK l f r n B → ∀ v, mgetS A p = some v → ∃ w, mgetS B p = some w ∧ w.1 ≤ v.1 := fun {A B} hA' hB' v hv => by
    obtain ⟨g1, g2⟩ := way_goes hA hA' _ p (Nat.lt_succ_self _) (by rw [hv]; rfl)
    have e2 : tmOf A p = v.1 := by unfold tmOf; rw [hv]; rfl
    obtain ⟨w, h1, h2⟩ := least_goes hA hB' _ true f r _ (fun _ => ⟨rfl, rfl⟩) ⟨_, hB'.base.frm, Int.le_refl _⟩ (fun i hi => g2 i (List.mem_reverse.1 hi)) g1
    exact ⟨w, h1, by rw [← e2]; exact h2⟩
  cases hv : mgetS K p with
  | none =>
    cases hw : mgetS K' p with
    | none => rfl
    | some w =>
      obtain ⟨v, h1, _⟩ := key h' h w hw
      rw [hv] at h1; cases h1
  | some v =>
    obtain ⟨w, h1, h2⟩ := key h h' v hv
    obtain ⟨v', h3, h4⟩ := key h' h w h1
    rw [hv] at h3; cases h3
    rw [h1]
    show some v.1 = some w.1
    rw [show v.1 = w.1 by omega]
def con47 : Con := { ps := [.d true (.pair (.pair .str (.pair (.int .i64) (.pair .str (.int .i64)))) (.pair .str (.pair .str (.pair (.int .i64) (.pair (.int .i64) (.int .i64)))))), .d false (.sl (.pair .str (.int .i64))), .d false .str, .d false (.int .i64)], rs := [.d false .bool], pre := fun (x : Svc × List Lbl × ByteArray × Int × Unit) => svOk x.1 = true ∧ 0 ≤ x.2.2.2.1 ∧ x.2.2.2.1 ≤ 1048576 ∧ iabs x.2.1 1048576, out := fun (x : Svc × List Lbl × ByteArray × Int × Unit) => (usV x.1 x.2.1 x.2.2.1 x.2.2.2.1, ()), nw := id }
theorem c47 : CtrOk Try.prog 47 con47.ctr :=
  con_sound (G := ⟨[(22, con22.ctr)], [], [], []⟩) tab_ok (EnvOk.cons c22 has22 EnvOk.nil) rfl Try.func47 rfl con47 2098975 (by kernel_rfl) (by decide) (by decide) rfl (by decide) rfl (by
    rintro ⟨⟨⟨a1, (a2 : Int), a3, (a4 : Int)⟩, f, t, (L : Int), (A : Int), (R : Int)⟩, (lb : List Lbl), (p : ByteArray), (n : Int), _⟩ hpre hwf X hT hG hk hK
    obtain ⟨h1, h2, h3, h4⟩ := hpre
    have hb := svOk_bd h1
    dsimp only at hb h2 h3 h4
    have hlt : -1048576 ≤ (labV lb f).getD 0 ∧ (labV lb f).getD 0 ≤ 1048576 := by
      cases hv : labV lb f with
      | none => simp
      | some v =>
        unfold labV at hv
        cases hf : lb.find? (fun x => decide (x.1 = f)) with
        | none => rw [hf] at hv; cases hv
        | some y =>
          rw [hf] at hv
          cases hv
          exact h4 y (List.mem_of_find?_eq_some hf)
    (simp -implicitDefEqProofs only [go_sem, Prod.eta, Option.isSome_none, Option.isSome_some, Int.toNat_zero, Nat.reduceAdd, Nat.reduceMul, Nat.reduceSub, Nat.reduceEqDiff, Nat.reduceLT, Nat.reduceLeDiff, Nat.reduceShiftRight, Nat.reduceMod, Nat.reduceBEq, reduceCtorEq, reduceIte, reduceDIte, Int.reduceNeg, Bool.not_eq_true', Bool.not_eq_false', Bool.or_eq_true, Bool.or_eq_false_iff, Bool.and_eq_true, Bool.and_eq_false_iff, decide_eq_true_eq, decide_eq_false_iff_not, Classical.not_not, not_or, maxLen, con47, con22, hT, hG, hk, hK, Try.results47] at hwf ⊢); (try simp (disch := decide +kernel) only [drawn, true_and, and_true])
    clear hwf
    unfold usV takV
    dsimp only
    refine fun _ => ⟨fun hf => ⟨by omega, ?_⟩, fun hf => ?_⟩
    · cases hv : labV lb f with
      | none => simp
      | some v =>
        simp only [Option.isSome_some, Bool.true_and, Option.getD_some, if_neg hf]
        rw [show decide (R ≥ 1) = decide (1 ≤ R) from rfl]
        congr 1
        first | done | (rw [decide_eq_decide]; omega)
    · cases hv : labV lb f with
      | none => simp
      | some v =>
        simp only [Option.isSome_some, Bool.true_and, Option.getD_some, if_pos hf]
        first | done | rfl)
theorem setL_at (p : ByteArray) (t : Int) : ∀ (lb : List Lbl) (k : Nat), k ≤ lb.length → (∀ j, j < k → strLt (pAt lb j) p = true) → (k = lb.length ∨ strLt (pAt lb k) p = false) →
    setL lb p t = lb.take k ++ (p, t) :: (if k < lb.length ∧ pAt lb k = p then lb.drop (k + 1) else lb.drop k)
  | [], k, hk, _, _ => by
    have : k = 0 := by simpa using hk
    subst this
    simp [setL]
  | y :: ys, 0, _, _, hs => by
    have h1 : strLt y.1 p = false := by
      rcases hs with h | h
      · simp at h
      · exact h
    unfold setL
    rw [if_neg (by rw [h1]; simp)]
    have e : pAt (y :: ys) 0 = y.1 := rfl
    rw [e]
    by_cases hp : y.1 = p
    · rw [if_pos hp, if_pos ⟨by simp, hp⟩]; first | done | simp
    · rw [if_neg hp, if_neg (fun q => hp q.2)]; first | done | simp
  | y :: ys, k + 1, hk, hl, hs => by
    have h1 : strLt y.1 p = true := hl 0 (by omega)
    have ih := setL_at p t ys k (by simpa using hk) (fun j hj => hl (j + 1) (by omega)) (by
      rcases hs with h | h
      · left; simpa using h
      · right; exact h)
    unfold setL
    rw [if_pos h1, ih]
    have e : pAt (y :: ys) (k + 1) = pAt ys k := rfl
    rw [e]
    simp
def con48 : Con := { ps := [.d false (.sl (.pair .str (.int .i64))), .d false .str, .d false (.int .i64)], rs := [.o 62 (.pair .str (.int .i64))], pre := fun (x : List Lbl × ByteArray × Int × Unit) => x.1.length ≤ 1000, out := fun (x : List Lbl × ByteArray × Int × Unit) => (setL x.1 x.2.1 x.2.2.1, ()), nw := id }
theorem c48 : CtrOk Try.prog 48 con48.ctr :=
  con_sound (G := ⟨[], [], [], []⟩) tab_ok EnvOk.nil rfl Try.func48 rfl con48 140737490452935 (by kernel_rfl) (by decide) (by decide) rfl (by decide) rfl (by
    rintro ⟨(lb : List Lbl), (p : ByteArray), (t : Int), _⟩ hpre hwf X hT hG hk hK
    have hl : lb.length ≤ 1000 := hpre
    (simp -implicitDefEqProofs only [go_sem, Prod.eta, Option.isSome_none, Option.isSome_some, Int.toNat_zero, Nat.reduceAdd, Nat.reduceMul, Nat.reduceSub, Nat.reduceEqDiff, Nat.reduceLT, Nat.reduceLeDiff, Nat.reduceShiftRight, Nat.reduceMod, Nat.reduceBEq, reduceCtorEq, reduceIte, reduceDIte, Int.reduceNeg, Bool.not_eq_true', Bool.not_eq_false', Bool.or_eq_true, Bool.or_eq_false_iff, Bool.and_eq_true, Bool.and_eq_false_iff, decide_eq_true_eq, decide_eq_false_iff_not, Classical.not_not, not_or, maxLen, con48, hT, hG, hk, hK, Try.results48] at hwf ⊢); (try simp (disch := decide +kernel) only [drawn, true_and, and_true])
    clear hwf
    refine evk_loop ⟨{ k : Nat // k ≤ lb.length ∧ ∀ j, j < k → strLt (pAt lb j) p = true }, 1000, fun q => [(0, .one (.sl (.pair .str (.int .i64)) lb false)), (1, .one (.str p)), (2, .one (.int .i64 t)), (7, .one (.int .i64 q.1))], fun q => [], fun q => lb.length - q.1⟩ ⟨0, Nat.zero_le _, fun j hj => by omega⟩ ?_ ?_
    · simp only [go_sem, Prod.eta, Option.isSome_none, Option.isSome_some, Int.toNat_zero, Nat.reduceAdd, Nat.reduceMul, Nat.reduceSub, Nat.reduceEqDiff, Nat.reduceLT, Nat.reduceLeDiff, Nat.reduceShiftRight, Nat.reduceMod, Nat.reduceBEq, reduceCtorEq, reduceIte, reduceDIte, Int.reduceNeg]
      try (first | rfl | exact ⟨rfl, rfl⟩)
    · rintro ⟨k, (hk1 : k ≤ lb.length), (hlt : ∀ j, j < k → strLt (pAt lb j) p = true)⟩
      (simp -implicitDefEqProofs only [go_sem, Prod.eta, Option.isSome_none, Option.isSome_some, Int.toNat_zero, Nat.reduceAdd, Nat.reduceMul, Nat.reduceSub, Nat.reduceEqDiff, Nat.reduceLT, Nat.reduceLeDiff, Nat.reduceShiftRight, Nat.reduceMod, Nat.reduceBEq, reduceCtorEq, reduceIte, reduceDIte, Int.reduceNeg, Bool.not_eq_true', Bool.not_eq_false', Bool.or_eq_true, Bool.or_eq_false_iff, Bool.and_eq_true, Bool.and_eq_false_iff, decide_eq_true_eq, decide_eq_false_iff_not, Classical.not_not, not_or, maxLen, con48, hT, hG, hk, hK, Try.results48]); (try simp (disch := decide +kernel) only [drawn, true_and, and_true])
      have hkN : ((k : Int)).toNat = k := by omega
      have hkN1 : ((k : Int) + 1).toNat = k + 1 := by omega
      have hlN : ((lb.length : Int)).toNat = lb.length := by omega
      have hat := setL_at p t lb k hk1 hlt
      unfold pAt at hat hlt
      simp only [hkN, hkN1, hlN, List.take_length]
      have htl : (lb.take k).length ≤ 1000 := by simp; omega
      have hdl : ∀ j, (lb.drop j).length ≤ 1000 := fun j => by simp; omega
      refine fun _ => ⟨fun _ => by omega, fun _ _ => ⟨fun h => ⟨by omega, ?_⟩, fun h => ⟨by omega, by omega, by omega, fun _ => ⟨fun _ => by omega, fun _ _ => ⟨fun h2 => ⟨by omega, by omega, ?_, ?_⟩, fun h2 => ⟨by omega, ?_, ?_⟩⟩⟩⟩⟩⟩
      · refine fin_lp ⟨k + 1, by omega, fun j hj => ?_⟩ ?_ (by dsimp only; omega)
        · by_cases e : j = k
          · subst e; exact h.2
          · exact hlt j (by omega)
        · simp only [go_sem, Prod.eta, Option.isSome_none, Option.isSome_some, Int.toNat_zero, Nat.reduceAdd, Nat.reduceMul, Nat.reduceSub, Nat.reduceEqDiff, Nat.reduceLT, Nat.reduceLeDiff, Nat.reduceShiftRight, Nat.reduceMod, Nat.reduceBEq, reduceCtorEq, reduceIte, reduceDIte, Int.reduceNeg]
          try (first | rfl | exact ⟨rfl, rfl⟩ | (and_intros <;> first | rfl | omega))
      · have := hdl (k + 1)
        simp only [List.length_append, List.length_singleton]; omega
      · rw [hat (by rcases h with h | h; left; omega; right; exact h), if_pos ⟨by omega, h2.2⟩]; simp
      · have := hdl k
        simp only [List.length_append, List.length_singleton]; omega
      · rw [hat (by rcases h with h | h; left; omega; right; exact h), if_neg (fun q => by rcases h2 with h2 | h2; omega; exact h2 q.2)]; simp)
/-- The rounds' state. -/
structure RI (l : List Svc) (f : ByteArray) (r n : Int) (K : LMap) (lb : List Lbl) : Prop where
  base : LBase l f r n K
  srt : Srt lb
  eq : ∀ p, labV lb p = (mgetS K p).map Prod.fst
theorem srt_get : ∀ {lb : List Lbl}, Srt lb → ∀ x ∈ lb, labV lb x.1 = some x.2
  | [], _, x, h => by cases h
  | y :: ys, h, x, hx => by
    have h' := List.pairwise_cons.1 h
    rw [labV_cons]
    rcases List.mem_cons.1 hx with e | hx
    · rw [e, if_pos rfl]
    · have := h'.1 x hx
      rw [if_neg (fun e => by rw [e] at this; exact List.lt_irrefl _ this)]
      exact srt_get h'.2 x hx
theorem RI.len {l : List Svc} {f : ByteArray} {r n : Int} {K : LMap} {lb : List Lbl} (h : RI l f r n K lb) : lb.length ≤ l.length + 1 := by
  have hn : (lb.map Prod.fst).Nodup := by
    unfold List.Nodup
    rw [List.pairwise_map]
    exact h.srt.imp fun hab e => by rw [e] at hab; exact List.lt_irrefl _ hab
  have := len_sub (b := f :: l.map fun s => s.2.2.1) hn fun p hp => by
    obtain ⟨x, hx, rfl⟩ := List.mem_map.1 hp
    have h1 := srt_get h.srt x hx
    rw [h.eq] at h1
    cases hv : mgetS K x.1 with
    | none => rw [hv] at h1; cases h1
    | some v =>
      rcases h.base.snd x.1 v hv with ⟨e, _⟩ | ⟨i, _, h2, h3, _⟩
      · rw [e]; exact List.mem_cons_self
      · refine List.mem_cons_of_mem _ (List.mem_map.2 ⟨l.getD i sv0, ?_, h3⟩)
        have e : l.getD i sv0 = l[i] := by simp [h2]
        rw [e]; exact List.getElem_mem h2
  simpa using this
theorem RI.bd {l : List Svc} {f : ByteArray} {r n : Int} (hA : ArgOk l r n) {K : LMap} {lb : List Lbl} (h : RI l f r n K lb) : iabs lb 1048576 := fun x hx => by
  have h1 := srt_get h.srt x hx
  rw [h.eq] at h1
  cases hv : mgetS K x.1 with
  | none => rw [hv] at h1; cases h1
  | some v =>
    rw [hv] at h1
    have h2 := h.base.low x.1 v hv
    have h3 : v.1 = x.2 := Option.some.inj h1
    have := hA.r0
    omega
theorem RI.done {l : List Svc} {f : ByteArray} {r n : Int} (hA : ArgOk l r n) {K : LMap} {lb : List Lbl} (h : RI l f r n K lb) (hc : ∀ i, i < l.length → Cls l f n K i) : lb = lblsV (labelsV l f r n) :=
  srt_ext h.srt (lbls_srt (labels_nodup l f r n)) fun p => by
    rw [h.eq, labV_lbls]
    exact labels_same hA ⟨h.base, hc⟩ (labels_ok hA) p
theorem RI.start {l : List Svc} {f : ByteArray} {r n : Int} (hA : ArgOk l r n) : RI l f r n [(f, (r, -1))] [(f, r)] where
  base := (QI0_ok (n := n) hA).base
  srt := List.pairwise_singleton _ _
  eq p := by
    rw [labV_cons]
    unfold mgetS mget
    rw [keyS]
    by_cases e : p = f
    · rw [if_pos e, if_pos (by simpa using e)]; rfl
    · rw [if_neg e, if_neg (by simpa using e)]; rfl
theorem us_of {s : Svc} {lb : List Lbl} {K : LMap} {f : ByteArray} {n : Int} (he : ∀ p, labV lb p = (mgetS K p).map Prod.fst) : usV s lb f n = true ↔ ∃ u, mgetS K s.2.1 = some u ∧ takV s f n u.1 = true := by
  unfold usV
  rw [he]
  cases hv : mgetS K s.2.1 with
  | none => simp
  | some v => simp
theorem RI.closed {l : List Svc} {f : ByteArray} {r n : Int} (hA : ArgOk l r n) {K : LMap} {lb : List Lbl} (h : RI l f r n K lb) {i : Nat} (hi : i < l.length) {s : Svc} (hs : l.getD i sv0 = s)
    (hc : usV s lb f n = false ∨ s.2.2.1 = f ∨ ((labV lb s.2.2.1).isSome = true ∧ ¬ s.2.2.2.2.1 < (labV lb s.2.2.1).getD 0)) : Cls l f n K i := by
  intro u hu ht
  rw [hs] at hu ht ⊢
  rcases hc with hc | hc | hc
  · have := (us_of (n := n) (f := f) (s := s) h.eq).2 ⟨u, hu, ht⟩
    rw [hc] at this; cases this
  · rw [hc]
    refine ⟨_, h.base.frm, ?_⟩
    have h1 := h.base.low s.2.1 u hu
    have h2 := takV_bd ht hA.n0
    have h3 := svOk_bd (get_sv hA hi).1
    rw [hs] at h3
    show r ≤ _
    omega
  · rw [h.eq] at hc
    cases hv : mgetS K s.2.2.1 with
    | none => rw [hv] at hc; cases hc.1
    | some v =>
      rw [hv] at hc
      have := hc.2
      simp only [Option.map_some, Option.getD_some] at this
      exact ⟨v, rfl, by omega⟩
theorem RI.step {l : List Svc} {f : ByteArray} {r n : Int} (hA : ArgOk l r n) {K : LMap} {lb : List Lbl} (h : RI l f r n K lb) {i : Nat} (hi : i < l.length) {s : Svc} (hs : l.getD i sv0 = s)
    (h1 : usV s lb f n = true) (h2 : ¬ s.2.2.1 = f) (h3 : (labV lb s.2.2.1).isSome = false ∨ s.2.2.2.2.1 < (labV lb s.2.2.1).getD 0) :
    RI l f r n (msetS K s.2.2.1 (s.2.2.2.2.1, (i : Int))) (setL lb s.2.2.1 s.2.2.2.2.1) ∧ Phi l (msetS K s.2.2.1 (s.2.2.2.2.1, (i : Int))) < Phi l K := by
  obtain ⟨u, hu, ht⟩ := (us_of h.eq).1 h1
  obtain ⟨g1, g2⟩ := base_step hA h.base hi hs hu ht h2 (fun k => by
    rw [h.eq] at h3
    obtain ⟨v, hv⟩ := Option.isSome_iff_exists.1 k.1
    rw [hv] at h3
    have k2 := k.2
    unfold tmOf at k2
    rw [hv] at k2
    simp only [Option.map_some, Option.getD_some] at h3 k2
    rcases h3 with h3 | h3
    · cases h3
    · omega)
  refine ⟨⟨g1, setL_srt _ _ _ h.srt, fun p => ?_⟩, g2⟩
  rw [labV_set, mget_set, h.eq]
  split <;> rfl
def con21 : Con := { ps := [.d false (.sl (.pair (.pair .str (.pair (.int .i64) (.pair .str (.int .i64)))) (.pair .str (.pair .str (.pair (.int .i64) (.pair (.int .i64) (.int .i64))))))), .d false .str, .d false (.int .i64), .d false (.int .i64)], rs := [.d false (.sl (.pair .str (.int .i64)))], pre := fun (x : List Svc × ByteArray × Int × Int × Unit) => x.1.length ≤ 40 ∧ ArgOk x.1 x.2.2.1 x.2.2.2.1, out := fun (x : List Svc × ByteArray × Int × Int × Unit) => (lblsV (labelsV x.1 x.2.1 x.2.2.1 x.2.2.2.1), ()), nw := id }
theorem c21 : CtrOk Try.prog 21 con21.ctr :=
  con_sound (G := ⟨[(22, con22.ctr), (47, con47.ctr), (48, con48.ctr)], [], [], []⟩) tab_ok (EnvOk.cons c22 has22 (EnvOk.cons c47 has47 (EnvOk.cons c48 has48 EnvOk.nil))) rfl Try.func21 rfl con21 9223376434905759503 (by kernel_rfl) (by decide) (by decide) rfl (by decide) rfl (by
    rintro ⟨(l : List Svc), (f : ByteArray), (r : Int), (n : Int), _⟩ hpre hwf X hT hG hk hK
    obtain ⟨hl, hA⟩ : l.length ≤ 40 ∧ ArgOk l r n := hpre
    (simp -implicitDefEqProofs only [go_sem, Prod.eta, Option.isSome_none, Option.isSome_some, Int.toNat_zero, Nat.reduceAdd, Nat.reduceMul, Nat.reduceSub, Nat.reduceEqDiff, Nat.reduceLT, Nat.reduceLeDiff, Nat.reduceShiftRight, Nat.reduceMod, Nat.reduceBEq, reduceCtorEq, reduceIte, reduceDIte, Int.reduceNeg, Bool.not_eq_true', Bool.not_eq_false', Bool.or_eq_true, Bool.or_eq_false_iff, Bool.and_eq_true, Bool.and_eq_false_iff, decide_eq_true_eq, decide_eq_false_iff_not, Classical.not_not, not_or, maxLen, con21, con22, con47, con48, hT, hG, hk, hK, Try.results21] at hwf ⊢); (try simp (disch := decide +kernel) only [drawn, true_and, and_true])
    clear hwf
    refine evk_loop ⟨{ q : Bool × LMap × List Lbl // RI l f r n q.2.1 q.2.2 ∧ (q.1 = false → ∀ i, i < l.length → Cls l f n q.2.1 i) }, 1000, fun q => [(0, .one (.sl (.pair (.pair .str (.pair (.int .i64) (.pair .str (.int .i64)))) (.pair .str (.pair .str (.pair (.int .i64) (.pair (.int .i64) (.int .i64)))))) l false)), (1, .one (.str f)), (3, .one (.int .i64 n)), (9, .one (.row 64)), (10, .one (.bool q.1.1))], fun q => [(64, .row 62 (.pair .str (.int .i64)) q.1.2.2)], fun q => 2 * Phi l q.1.2.1 + (if q.1.1 = true then 1 else 0)⟩ ⟨(true, [(f, (r, -1))], [(f, r)]), RI.start hA, fun h => by cases h⟩ ?_ ?_
    · simp only [go_sem, Prod.eta, Option.isSome_none, Option.isSome_some, Int.toNat_zero, Nat.reduceAdd, Nat.reduceMul, Nat.reduceSub, Nat.reduceEqDiff, Nat.reduceLT, Nat.reduceLeDiff, Nat.reduceShiftRight, Nat.reduceMod, Nat.reduceBEq, reduceCtorEq, reduceIte, reduceDIte, Int.reduceNeg]
      try (first | rfl | exact ⟨rfl, rfl⟩)
    · rintro ⟨⟨ag, K, lb⟩, (hR : RI l f r n K lb), (hc : ag = false → ∀ i, i < l.length → Cls l f n K i)⟩
      cases ag with
      | false =>
        (simp -implicitDefEqProofs only [go_sem, Prod.eta, Option.isSome_none, Option.isSome_some, Int.toNat_zero, Nat.reduceAdd, Nat.reduceMul, Nat.reduceSub, Nat.reduceEqDiff, Nat.reduceLT, Nat.reduceLeDiff, Nat.reduceShiftRight, Nat.reduceMod, Nat.reduceBEq, reduceCtorEq, reduceIte, reduceDIte, Int.reduceNeg, Bool.not_eq_true', Bool.not_eq_false', Bool.or_eq_true, Bool.or_eq_false_iff, Bool.and_eq_true, Bool.and_eq_false_iff, decide_eq_true_eq, decide_eq_false_iff_not, Classical.not_not, not_or, maxLen, con21, con22, con47, con48, hT, hG, hk, hK, Try.results21]); (try simp (disch := decide +kernel) only [drawn, true_and, and_true])
        exact ⟨fun h => h.elim, hR.done hA (hc rfl)⟩
      | true =>
        (simp -implicitDefEqProofs only [go_sem, Prod.eta, Option.isSome_none, Option.isSome_some, Int.toNat_zero, Nat.reduceAdd, Nat.reduceMul, Nat.reduceSub, Nat.reduceEqDiff, Nat.reduceLT, Nat.reduceLeDiff, Nat.reduceShiftRight, Nat.reduceMod, Nat.reduceBEq, reduceCtorEq, reduceIte, reduceDIte, Int.reduceNeg, Bool.not_eq_true', Bool.not_eq_false', Bool.or_eq_true, Bool.or_eq_false_iff, Bool.and_eq_true, Bool.and_eq_false_iff, decide_eq_true_eq, decide_eq_false_iff_not, Classical.not_not, not_or, maxLen, con21, con22, con47, con48, hT, hG, hk, hK, Try.results21]); (try simp (disch := decide +kernel) only [drawn, true_and, and_true])
        refine ⟨?_, fun h => h.elim⟩
        refine evk_loop ⟨{ q : Nat × Bool × LMap × List Lbl // q.1 ≤ l.length ∧ RI l f r n q.2.2.1 q.2.2.2 ∧ (q.2.1 = false → ∀ i, i < q.1 → Cls l f n q.2.2.1 i) ∧ Phi l q.2.2.1 ≤ Phi l K ∧ (q.2.1 = true → Phi l q.2.2.1 < Phi l K) }, 1000, fun q => [(0, .one (.sl (.pair (.pair .str (.pair (.int .i64) (.pair .str (.int .i64)))) (.pair .str (.pair .str (.pair (.int .i64) (.pair (.int .i64) (.int .i64)))))) l false)), (1, .one (.str f)), (3, .one (.int .i64 n)), (9, .one (.row 64)), (10, .one (.bool q.1.2.1)), (11, .one (.int .i64 q.1.1))], fun q => [(64, .row 62 (.pair .str (.int .i64)) q.1.2.2.2)], fun q => l.length - q.1.1⟩ ⟨(0, false, K, lb), Nat.zero_le _, hR, fun _ i hi => (by simp only at hi; omega), Nat.le_refl _, fun h => by cases h⟩ ?_ ?_
        · simp only [go_sem, Prod.eta, Option.isSome_none, Option.isSome_some, Int.toNat_zero, Nat.reduceAdd, Nat.reduceMul, Nat.reduceSub, Nat.reduceEqDiff, Nat.reduceLT, Nat.reduceLeDiff, Nat.reduceShiftRight, Nat.reduceMod, Nat.reduceBEq, reduceCtorEq, reduceIte, reduceDIte, Int.reduceNeg]
          try (first | rfl | exact ⟨rfl, rfl⟩)
        · rintro ⟨⟨i, ag, K2, lb2⟩, (hi : i ≤ l.length), (hR2 : RI l f r n K2 lb2), (hc2 : ag = false → ∀ j, j < i → Cls l f n K2 j), (hP : Phi l K2 ≤ Phi l K), (hP2 : ag = true → Phi l K2 < Phi l K)⟩
          have hlen := hR2.len
          have hbd := hR2.bd hA
          (simp -implicitDefEqProofs only [go_sem, Prod.eta, Option.isSome_none, Option.isSome_some, Int.toNat_zero, Nat.reduceAdd, Nat.reduceMul, Nat.reduceSub, Nat.reduceEqDiff, Nat.reduceLT, Nat.reduceLeDiff, Nat.reduceShiftRight, Nat.reduceMod, Nat.reduceBEq, reduceCtorEq, reduceIte, reduceDIte, Int.reduceNeg, Bool.not_eq_true', Bool.not_eq_false', Bool.or_eq_true, Bool.or_eq_false_iff, Bool.and_eq_true, Bool.and_eq_false_iff, decide_eq_true_eq, decide_eq_false_iff_not, Classical.not_not, not_or, maxLen, con21, con22, con47, con48, hT, hG, hk, hK, Try.results21]); (try simp (disch := decide +kernel) only [drawn, true_and, and_true])
          have hiN : ((i : Int)).toNat = i := by omega
          obtain ⟨s, hs⟩ : ∃ s, l.getD i (((ByteArray.empty, 0, ByteArray.empty, 0), ByteArray.empty, ByteArray.empty, 0, 0, 0) : Svc) = s := ⟨_, rfl⟩
          have hs' : l.getD i sv0 = s := hs
          simp only [hiN, hs]
          have hsk : i < l.length → svOk s = true := fun h => by rw [← hs']; exact (get_sv hA h).1
          have hn0 := hA.n0
          have hn1 := hA.n1
          have hcl := fun h => @RI.closed l f r n hA K2 lb2 hR2 i h s hs'
          have hst := fun h => @RI.step l f r n hA K2 lb2 hR2 i h s hs'
          have hnext : i < l.length → (usV s lb2 f n = false ∨ s.2.2.1 = f ∨ ((labV lb2 s.2.2.1).isSome = true ∧ ¬ s.2.2.2.2.1 < (labV lb2 s.2.2.1).getD 0)) → ag = false → ∀ j, j < i + 1 → Cls l f n K2 j := fun h hh ha j hj => by
            by_cases e : j = i
            · subst e; exact hcl h hh
            · exact hc2 ha j (by omega)
          clear hs hs'
          have hsk2 : i < l.length → svOk s = true ∧ 0 ≤ n ∧ n ≤ 1048576 ∧ iabs lb2 1048576 := fun h => ⟨hsk h, hn0, hn1, hbd⟩
          (repeat' (with_reducible (first | refine And.intro ?_ ?_ | intro _))) <;> (try (first | with_reducible (first | done | assumption | omega | contradiction) | decide))
          · exact hsk (by omega)
          · rename_i h
            refine fin_lp ⟨(i + 1, ag, K2, lb2), by dsimp only; omega, hR2, hnext (by omega) (by rcases h with h | h; exact .inl h; exact .inr (.inl h)), hP, hP2⟩ ?_ (by dsimp only; omega)
            simp only [go_sem, Prod.eta, Option.isSome_none, Option.isSome_some, Int.toNat_zero, Nat.reduceAdd, Nat.reduceMul, Nat.reduceSub, Nat.reduceEqDiff, Nat.reduceLT, Nat.reduceLeDiff, Nat.reduceShiftRight, Nat.reduceMod, Nat.reduceBEq, reduceCtorEq, reduceIte, reduceDIte, Int.reduceNeg]
            try (first | rfl | exact ⟨rfl, rfl⟩ | (and_intros <;> first | rfl | omega))
          · have hu : usV s lb2 f n = true ∧ ¬ s.2.2.1 = f := by assumption
            have hv : (labV lb2 s.2.2.1).isSome = false ∨ s.2.2.2.2.1 < (labV lb2 s.2.2.1).getD 0 := by assumption
            obtain ⟨g1, g2⟩ := hst (by omega) hu.1 hu.2 hv
            refine fin_lp ⟨(i + 1, true, msetS K2 s.2.2.1 (s.2.2.2.2.1, (i : Int)), setL lb2 s.2.2.1 s.2.2.2.2.1), by dsimp only; omega, g1, fun h => (by cases h), by dsimp only; omega, fun _ => by dsimp only; omega⟩ ?_ (by dsimp only; omega)
            simp only [go_sem, Prod.eta, Option.isSome_none, Option.isSome_some, Int.toNat_zero, Nat.reduceAdd, Nat.reduceMul, Nat.reduceSub, Nat.reduceEqDiff, Nat.reduceLT, Nat.reduceLeDiff, Nat.reduceShiftRight, Nat.reduceMod, Nat.reduceBEq, reduceCtorEq, reduceIte, reduceDIte, Int.reduceNeg]
            try (first | rfl | exact ⟨rfl, rfl⟩ | (and_intros <;> first | rfl | omega))
          · rename_i h
            refine fin_lp ⟨(i + 1, ag, K2, lb2), by dsimp only; omega, hR2, hnext (by omega) (.inr (.inr h)), hP, hP2⟩ ?_ (by dsimp only; omega)
            simp only [go_sem, Prod.eta, Option.isSome_none, Option.isSome_some, Int.toNat_zero, Nat.reduceAdd, Nat.reduceMul, Nat.reduceSub, Nat.reduceEqDiff, Nat.reduceLT, Nat.reduceLeDiff, Nat.reduceShiftRight, Nat.reduceMod, Nat.reduceBEq, reduceCtorEq, reduceIte, reduceDIte, Int.reduceNeg]
            try (first | rfl | exact ⟨rfl, rfl⟩ | (and_intros <;> first | rfl | omega))
          · have hil : i = l.length := by omega
            subst hil
            refine fin_lp ⟨(ag, K2, lb2), hR2, fun h j hj => hc2 h j hj⟩ ?_ ?_
            · simp only [go_sem, Prod.eta, Option.isSome_none, Option.isSome_some, Int.toNat_zero, Nat.reduceAdd, Nat.reduceMul, Nat.reduceSub, Nat.reduceEqDiff, Nat.reduceLT, Nat.reduceLeDiff, Nat.reduceShiftRight, Nat.reduceMod, Nat.reduceBEq, reduceCtorEq, reduceIte, reduceDIte, Int.reduceNeg]
              try (first | rfl | exact ⟨rfl, rfl⟩ | (and_intros <;> first | rfl | omega))
            · dsimp only
              cases ag with
              | true => have := hP2 rfl; simp; omega
              | false => simp; omega)
end Go.Proofs.Ytjeinbfnbcempaa

/- ForwardRoutes. -/
set_option linter.unusedSimpArgs false
set_option linter.unusedVariables false
set_option maxRecDepth 100000
set_option maxHeartbeats 4000000
namespace Go.Proofs.Ytjeinbfnbcempaa
open Go.Ev

theorem lbls_ord {K : LMap} (h : (K.map Prod.fst).Nodup) : ordV (lblsV K) = true := by
  have hs := lbls_srt h
  generalize lblsV K = lb at *
  refine ordV_ok fun j hj h0 => ordAt_good ?_
  have h1 := List.pairwise_iff_getElem.1 hs (j - 1) j (by omega) hj (by omega)
  have e1 : lb.getD j (ByteArray.empty, 0) = lb[j] := by simp [hj]
  have e2 : lb.getD (j - 1) (ByteArray.empty, 0) = lb[j - 1]'(by omega) := by simp [show j - 1 < lb.length by omega]
  rw [e1, e2]
  refine ⟨?_, fun e => by rw [e] at h1; exact List.lt_irrefl _ h1⟩
  cases hh : strLt lb[j].1 (lb[j - 1]'(by omega)).1 with
  | false => rfl
  | true =>
    rw [strLt_iff] at hh
    exact absurd (List.lt_trans h1 hh) (List.lt_irrefl _)
/-- What a route is, if there is one. -/
theorem route_all {l : List Svc} {f t : ByteArray} {r n : Int} (hz : argsV l f t r n = 0) :
    ((mgetS (labelsV l f r n) t).isSome = false ∧ routeV l f t r n = (([], []), 11)) ∨
    ((mgetS (labelsV l f r n) t).isSome = true ∧ (routeV l f t r n).2 = 0 ∧ (routeV l f t r n).1.2 = lblsV (labelsV l f r n) ∧ chkV l f t r n (routeV l f t r n).1 = 0 ∧ (f = t → (routeV l f t r n).1.1 = [])) := by
  obtain ⟨hl, hA, hpf, hpt⟩ := argsV_ok hz
  have hK := labels_ok hA (f := f)
  cases hv : mgetS (labelsV l f r n) t with
  | none =>
    refine .inl ⟨rfl, ?_⟩
    unfold routeV
    rw [if_neg (by rw [hz]; simp), if_pos (by rw [hv]; rfl)]
  | some v =>
    right
    have e : routeV l f t r n = (((wayOf l (labelsV l f r n) t).reverse, lblsV (labelsV l f r n)), 0) := by
      unfold routeV; rw [if_neg (by rw [hz]; simp), if_neg (by rw [hv]; simp)]; rfl
    have e2 : tmOf (labelsV l f r n) t = v.1 := by unfold tmOf; rw [hv]; rfl
    obtain ⟨g1, g2⟩ := way_goes hA hK _ t (Nat.lt_succ_self _) (by rw [hv]; rfl)
    have harr : arrV l f t r n (wayOf l (labelsV l f r n) t).reverse = (v.1, true) := by
      unfold arrV; rw [g1, e2]; simp
    have hind : indV l (wayOf l (labelsV l f r n) t).reverse = true := List.all_eq_true.2 fun i hi => by
      have := g2 i (List.mem_reverse.1 hi)
      unfold inV
      simp only [Bool.and_eq_true, decide_eq_true_eq]; omega
    have hlf : labV (lblsV (labelsV l f r n)) f = some r := by rw [labV_lbls, hK.base.frm]; rfl
    have hlt : labV (lblsV (labelsV l f r n)) t = some v.1 := by rw [labV_lbls, hv]; rfl
    rw [e]
    refine ⟨rfl, rfl, rfl, ?_, fun hft => ?_⟩
    · unfold chkV
      rw [if_neg (by rw [hz]; simp), if_neg (by rw [hind]; simp)]
      unfold chkV1
      dsimp only
      rw [if_neg (by rw [harr]; simp), if_neg (by rw [lbls_ord (labels_nodup l f r n)]; simp)]
      unfold chkV2
      rw [if_neg (by rw [hlf, hlt]; simp), if_neg (by rw [hlf, hlt, harr]; simp), if_neg]
      rw [any_no]
      · simp
      · intro j hj
        unfold badS
        cases hu : usV (l.getD j sv0) (lblsV (labelsV l f r n)) f n with
        | false => rfl
        | true =>
          rw [Bool.true_and]
          obtain ⟨u, h1, h2⟩ := (us_of (fun p => labV_lbls (labelsV l f r n) p)).1 hu
          obtain ⟨w, h3, h4⟩ := hK.cls j hj u h1 h2
          rw [labV_lbls, h3]
          exact decide_eq_false (by show ¬ _ < w.1; omega)
    · subst hft
      dsimp only
      rw [wayOf_end (by unfold byOf; rw [hK.base.frm]; show (-1 : Int) < 0; decide)]; rfl
def con3 : Con := { ps := [.d false (.sl (.pair (.pair .str (.pair (.int .i64) (.pair .str (.int .i64)))) (.pair .str (.pair .str (.pair (.int .i64) (.pair (.int .i64) (.int .i64))))))), .d false (.sl (.int .i64)), .d false .str, .d false .str, .d false (.int .i64), .d false (.int .i64)], rs := [.d false .bool], pre := fun _ => True, out := fun _ => (true, ()), nw := id }
theorem c3 : CtrOk Try.prog 3 con3.ctr :=
  con_sound (G := ⟨[(9, con9.ctr), (10, con10.ctr), (11, con11.ctr), (12, con12.ctr), (13, con13.ctr), (14, con14.ctr), (15, con15.ctr), (16, con16.ctr), (17, con17.ctr), (18, con18.ctr), (19, con19.ctr), (20, con20.ctr), (21, con21.ctr), (22, con22.ctr), (23, con23.ctr), (24, con24.ctr)], [], [(22, 2)], []⟩) tab_ok (EnvOk.cons c9 has9 (EnvOk.cons c10 has10 (EnvOk.cons c11 has11 (EnvOk.cons c12 has12 (EnvOk.cons c13 has13 (EnvOk.cons c14 has14 (EnvOk.cons c15 has15 (EnvOk.cons c16 has16 (EnvOk.cons c17 has17 (EnvOk.cons c18 has18 (EnvOk.cons c19 has19 (EnvOk.cons c20 has20 (EnvOk.cons c21 has21 (EnvOk.cons c22 has22 (EnvOk.cons c23 has23 (EnvOk.cons c24 has24 EnvOk.nil)))))))))))))))) rfl Try.func3 rfl con3 3291009115408706624401105262053325465279608345003808716584480831 (by kernel_rfl) (by decide) (by decide) rfl (by decide) rfl (by
    rintro ⟨(raw : List Svc), (nl : List Int), (from_ : ByteArray), (to_ : ByteArray), (ready : Int), (least : Int), _⟩ hpre hwf X hT hG hk hK
    (simp -implicitDefEqProofs only [go_sem, Prod.eta, Option.isSome_none, Option.isSome_some, Int.toNat_zero, Nat.reduceAdd, Nat.reduceMul, Nat.reduceSub, Nat.reduceEqDiff, Nat.reduceLT, Nat.reduceLeDiff, Nat.reduceShiftRight, Nat.reduceMod, Nat.reduceBEq, reduceCtorEq, reduceIte, reduceDIte, Int.reduceNeg, Bool.not_eq_true', Bool.not_eq_false', Bool.or_eq_true, Bool.or_eq_false_iff, Bool.and_eq_true, Bool.and_eq_false_iff, decide_eq_true_eq, decide_eq_false_iff_not, Classical.not_not, not_or, maxLen, con3, con9, con10, con11, con12, con13, con14, con15, con16, con17, con18, con19, con20, con21, con22, con23, con24, hT, hG, hk, hK, Try.results3] at hwf ⊢); (try simp (disch := decide +kernel) only [drawn, true_and, and_true])
    clear hwf
    obtain ⟨hx, hxl, ho⟩ := servV_ok (s := (nl.take 2000, 0)) (n := 20) (by omega) (Int.le_refl _)
    generalize servV (nl.take 2000, 0) 20 = V at *
    obtain ⟨x, s⟩ := V
    have ho : 0 ≤ s.2 := ho
    have hx : ∀ s ∈ x, svOk s = true := hx
    have hxl : (x.length : Int) ≤ 20 := hxl
    have p5 := spoV_pos (l := x) ho
    dsimp only
    generalize spoV s x = S at *
    obtain ⟨odd, s5⟩ := S
    have p5 : 0 ≤ s5.2 := p5
    dsimp only
    (repeat' (with_reducible (first | refine And.intro ?_ ?_ | intro _))) <;> (try (first | with_reducible (first | done | assumption | omega | contradiction) | decide))
    obtain ⟨Y, hY⟩ : ∃ Y : List (List Svc), Y = [raw, x, odd] := ⟨_, rfl⟩
    have hYl : Y.length = 3 := by rw [hY]; rfl
    refine evk_loop ⟨{ q : Nat × Src // q.1 ≤ 3 ∧ 0 ≤ q.2.2 }, 1000, fun q => [(2, .one (.str from_)), (3, .one (.str to_)), (4, .one (.int .i64 ready)), (5, .one (.int .i64 least)), (13, .one (.loc 64 0)), (53, .one (.row 65)), (54, .one (.int .i64 3)), (55, .one (.int .i64 q.1.1))], fun q => [(64, .cells 70 [.sl (.int .i64) q.1.2.1 false, .int .i64 q.1.2.2]), (65, .row 22 (.sl (.pair (.pair .str (.pair (.int .i64) (.pair .str (.int .i64)))) (.pair .str (.pair .str (.pair (.int .i64) (.pair (.int .i64) (.int .i64))))))) Y)], fun q => 3 - q.1.1⟩ ⟨(0, s5), Nat.zero_le _, p5⟩ ?_ ?_
    · simp only [go_sem, Prod.eta, Option.isSome_none, Option.isSome_some, Int.toNat_zero, Nat.reduceAdd, Nat.reduceMul, Nat.reduceSub, Nat.reduceEqDiff, Nat.reduceLT, Nat.reduceLeDiff, Nat.reduceShiftRight, Nat.reduceMod, Nat.reduceBEq, reduceCtorEq, reduceIte, reduceDIte, Int.reduceNeg]
      rw [hY]
      try (first | rfl | exact ⟨rfl, rfl⟩ | (and_intros <;> rfl))
    · rintro ⟨⟨j, ⟨L, o⟩⟩, (hj : j ≤ 3), (hs0 : 0 ≤ o)⟩
      have p1 := Src.step_pos (L, o) hs0
      clear hY
      (simp -implicitDefEqProofs only [go_sem, Prod.eta, Option.isSome_none, Option.isSome_some, Int.toNat_zero, Nat.reduceAdd, Nat.reduceMul, Nat.reduceSub, Nat.reduceEqDiff, Nat.reduceLT, Nat.reduceLeDiff, Nat.reduceShiftRight, Nat.reduceMod, Nat.reduceBEq, reduceCtorEq, reduceIte, reduceDIte, Int.reduceNeg, Bool.not_eq_true', Bool.not_eq_false', Bool.or_eq_true, Bool.or_eq_false_iff, Bool.and_eq_true, Bool.and_eq_false_iff, decide_eq_true_eq, decide_eq_false_iff_not, Classical.not_not, not_or, maxLen, con3, con9, con10, con11, con12, con13, con14, con15, con16, con17, con18, con19, con20, con21, con22, con23, con24, hT, hG, hk, hK, Try.results3]); (try simp (disch := decide +kernel) only [drawn, true_and, and_true])
      have hjN : ((j : Int)).toNat = j := by omega
      simp only [hjN]
      obtain ⟨D, hD⟩ : ∃ D, Y.getD j [] = D := ⟨_, rfl⟩
      simp only [hD]
      generalize portV (L, o) = pq at *
      generalize Src.step (L, o) = s1 at *
      (repeat' (with_reducible (first | refine And.intro ?_ ?_ | intro _))) <;> (try (first | with_reducible (first | done | assumption | omega | contradiction) | decide))
      all_goals try rfl
      obtain ⟨P, hP⟩ : ∃ P : List ByteArray, P = [from_, pq] := ⟨_, rfl⟩
      have hPl : P.length = 2 := by rw [hP]; rfl
      refine evk_loop ⟨{ q : Nat × Src // q.1 ≤ 2 ∧ 0 ≤ q.2.2 }, 1000, fun q => [(2, .one (.str from_)), (3, .one (.str to_)), (4, .one (.int .i64 ready)), (5, .one (.int .i64 least)), (13, .one (.loc 64 0)), (53, .one (.row 65)), (54, .one (.int .i64 3)), (55, .one (.int .i64 j)), (16, .one (.sl (.pair (.pair .str (.pair (.int .i64) (.pair .str (.int .i64)))) (.pair .str (.pair .str (.pair (.int .i64) (.pair (.int .i64) (.int .i64)))))) D false)), (67, .one (.row 66)), (68, .one (.int .i64 2)), (69, .one (.int .i64 q.1.1))], fun q => [(64, .cells 70 [.sl (.int .i64) q.1.2.1 false, .int .i64 q.1.2.2]), (65, .row 22 (.sl (.pair (.pair .str (.pair (.int .i64) (.pair .str (.int .i64)))) (.pair .str (.pair .str (.pair (.int .i64) (.pair (.int .i64) (.int .i64))))))) Y), (66, .row 9 .str P)], fun q => 2 - q.1.1⟩ ⟨(0, s1), Nat.zero_le _, p1⟩ ?_ ?_
      · simp only [go_sem, Prod.eta, Option.isSome_none, Option.isSome_some, Int.toNat_zero, Nat.reduceAdd, Nat.reduceMul, Nat.reduceSub, Nat.reduceEqDiff, Nat.reduceLT, Nat.reduceLeDiff, Nat.reduceShiftRight, Nat.reduceMod, Nat.reduceBEq, reduceCtorEq, reduceIte, reduceDIte, Int.reduceNeg]
        rw [hP]
        try (first | rfl | exact ⟨rfl, rfl⟩ | (and_intros <;> rfl))
      · rintro ⟨⟨i1, ⟨L1, o1⟩⟩, (hi1 : i1 ≤ 2), (hs1 : 0 ≤ o1)⟩
        have q1 := Src.step_pos (L1, o1) hs1
        clear hP
        (simp -implicitDefEqProofs only [go_sem, Prod.eta, Option.isSome_none, Option.isSome_some, Int.toNat_zero, Nat.reduceAdd, Nat.reduceMul, Nat.reduceSub, Nat.reduceEqDiff, Nat.reduceLT, Nat.reduceLeDiff, Nat.reduceShiftRight, Nat.reduceMod, Nat.reduceBEq, reduceCtorEq, reduceIte, reduceDIte, Int.reduceNeg, Bool.not_eq_true', Bool.not_eq_false', Bool.or_eq_true, Bool.or_eq_false_iff, Bool.and_eq_true, Bool.and_eq_false_iff, decide_eq_true_eq, decide_eq_false_iff_not, Classical.not_not, not_or, maxLen, con3, con9, con10, con11, con12, con13, con14, con15, con16, con17, con18, con19, con20, con21, con22, con23, con24, hT, hG, hk, hK, Try.results3]); (try simp (disch := decide +kernel) only [drawn, true_and, and_true])
        have hiN : ((i1 : Int)).toNat = i1 := by omega
        simp only [hiN]
        obtain ⟨a, ha⟩ : ∃ a, P.getD i1 ByteArray.empty = a := ⟨_, rfl⟩
        simp only [ha]
        generalize portV (L1, o1) = pr at *
        generalize Src.step (L1, o1) = s2 at *
        (repeat' (with_reducible (first | refine And.intro ?_ ?_ | intro _))) <;> (try (first | with_reducible (first | done | assumption | omega | contradiction) | decide))
        · obtain ⟨Q, hQ⟩ : ∃ Q : List ByteArray, Q = [to_, pr, a] := ⟨_, rfl⟩
          have hQl : Q.length = 3 := by rw [hQ]; rfl
          refine evk_loop ⟨{ q : Nat × Src // q.1 ≤ 3 ∧ 0 ≤ q.2.2 }, 1000, fun q => [(2, .one (.str from_)), (3, .one (.str to_)), (4, .one (.int .i64 ready)), (5, .one (.int .i64 least)), (13, .one (.loc 64 0)), (53, .one (.row 65)), (54, .one (.int .i64 3)), (55, .one (.int .i64 j)), (16, .one (.sl (.pair (.pair .str (.pair (.int .i64) (.pair .str (.int .i64)))) (.pair .str (.pair .str (.pair (.int .i64) (.pair (.int .i64) (.int .i64)))))) D false)), (67, .one (.row 66)), (68, .one (.int .i64 2)), (69, .one (.int .i64 i1)), (18, .one (.str a)), (77, .one (.row 67)), (78, .one (.int .i64 3)), (79, .one (.int .i64 q.1.1))], fun q => [(64, .cells 70 [.sl (.int .i64) q.1.2.1 false, .int .i64 q.1.2.2]), (65, .row 22 (.sl (.pair (.pair .str (.pair (.int .i64) (.pair .str (.int .i64)))) (.pair .str (.pair .str (.pair (.int .i64) (.pair (.int .i64) (.int .i64))))))) Y), (66, .row 9 .str P), (67, .row 9 .str Q)], fun q => 3 - q.1.1⟩ ⟨(0, s2), Nat.zero_le _, q1⟩ ?_ ?_
          · simp only [go_sem, Prod.eta, Option.isSome_none, Option.isSome_some, Int.toNat_zero, Nat.reduceAdd, Nat.reduceMul, Nat.reduceSub, Nat.reduceEqDiff, Nat.reduceLT, Nat.reduceLeDiff, Nat.reduceShiftRight, Nat.reduceMod, Nat.reduceBEq, reduceCtorEq, reduceIte, reduceDIte, Int.reduceNeg]
            rw [hQ]
            try (first | rfl | exact ⟨rfl, rfl⟩ | (and_intros <;> rfl))
          · rintro ⟨⟨i2, ⟨L2, o2⟩⟩, (hi2 : i2 ≤ 3), (hs2 : 0 ≤ o2)⟩
            have q2 := Src.step_pos (L2, o2) hs2
            have q3 := Src.step_pos _ q2
            clear hQ
            (simp -implicitDefEqProofs only [go_sem, Prod.eta, Option.isSome_none, Option.isSome_some, Int.toNat_zero, Nat.reduceAdd, Nat.reduceMul, Nat.reduceSub, Nat.reduceEqDiff, Nat.reduceLT, Nat.reduceLeDiff, Nat.reduceShiftRight, Nat.reduceMod, Nat.reduceBEq, reduceCtorEq, reduceIte, reduceDIte, Int.reduceNeg, Bool.not_eq_true', Bool.not_eq_false', Bool.or_eq_true, Bool.or_eq_false_iff, Bool.and_eq_true, Bool.and_eq_false_iff, decide_eq_true_eq, decide_eq_false_iff_not, Classical.not_not, not_or, maxLen, con3, con9, con10, con11, con12, con13, con14, con15, con16, con17, con18, con19, con20, con21, con22, con23, con24, hT, hG, hk, hK, Try.results3]); (try simp (disch := decide +kernel) only [drawn, true_and, and_true])
            have hiN2 : ((i2 : Int)).toNat = i2 := by omega
            simp only [hiN2]
            obtain ⟨b, hb⟩ : ∃ b, Q.getD i2 ByteArray.empty = b := ⟨_, rfl⟩
            simp only [hb]
            generalize goMod (Src.raw (L2, o2)) 30 = t1 at *
            generalize hs3 : Src.step (L2, o2) = s3 at *
            generalize goMod s3.raw 12 = t2 at *
            generalize s3.step = s4 at *
            (repeat' (with_reducible (first | refine And.intro ?_ ?_ | intro _))) <;> (try (first | with_reducible (first | done | assumption | omega | contradiction) | decide))
            · obtain ⟨Z, hZ⟩ : ∃ Z : List (Int × Int), Z = [(ready, least), (t1, t2)] := ⟨_, rfl⟩
              have hZl : Z.length = 2 := by rw [hZ]; rfl
              clear hs3
              obtain ⟨L4, o4⟩ := s4
              have q3 : 0 ≤ o4 := q3
              refine evk_loop ⟨{ q : Nat // q ≤ 2 }, 1000, fun q => [(2, .one (.str from_)), (3, .one (.str to_)), (4, .one (.int .i64 ready)), (5, .one (.int .i64 least)), (13, .one (.loc 64 0)), (53, .one (.row 65)), (54, .one (.int .i64 3)), (55, .one (.int .i64 j)), (16, .one (.sl (.pair (.pair .str (.pair (.int .i64) (.pair .str (.int .i64)))) (.pair .str (.pair .str (.pair (.int .i64) (.pair (.int .i64) (.int .i64)))))) D false)), (67, .one (.row 66)), (68, .one (.int .i64 2)), (69, .one (.int .i64 i1)), (18, .one (.str a)), (77, .one (.row 67)), (78, .one (.int .i64 3)), (79, .one (.int .i64 i2)), (20, .one (.str b)), (91, .one (.row 68)), (92, .one (.int .i64 2)), (93, .one (.int .i64 q.1))], fun q => [(64, .cells 70 [.sl (.int .i64) L4 false, .int .i64 o4]), (65, .row 22 (.sl (.pair (.pair .str (.pair (.int .i64) (.pair .str (.int .i64)))) (.pair .str (.pair .str (.pair (.int .i64) (.pair (.int .i64) (.int .i64))))))) Y), (66, .row 9 .str P), (67, .row 9 .str Q), (68, .row 34 (.pair (.int .i64) (.int .i64)) Z)], fun q => 2 - q.1⟩ ⟨0, Nat.zero_le _⟩ ?_ ?_
              · simp only [go_sem, Prod.eta, Option.isSome_none, Option.isSome_some, Int.toNat_zero, Nat.reduceAdd, Nat.reduceMul, Nat.reduceSub, Nat.reduceEqDiff, Nat.reduceLT, Nat.reduceLeDiff, Nat.reduceShiftRight, Nat.reduceMod, Nat.reduceBEq, reduceCtorEq, reduceIte, reduceDIte, Int.reduceNeg]
                rw [hZ]
                try (first | rfl | exact ⟨rfl, rfl⟩ | (and_intros <;> rfl))
              · rintro ⟨i3, (hi3 : i3 ≤ 2)⟩
                clear hZ
                (simp -implicitDefEqProofs only [go_sem, Prod.eta, Option.isSome_none, Option.isSome_some, Int.toNat_zero, Nat.reduceAdd, Nat.reduceMul, Nat.reduceSub, Nat.reduceEqDiff, Nat.reduceLT, Nat.reduceLeDiff, Nat.reduceShiftRight, Nat.reduceMod, Nat.reduceBEq, reduceCtorEq, reduceIte, reduceDIte, Int.reduceNeg, Bool.not_eq_true', Bool.not_eq_false', Bool.or_eq_true, Bool.or_eq_false_iff, Bool.and_eq_true, Bool.and_eq_false_iff, decide_eq_true_eq, decide_eq_false_iff_not, Classical.not_not, not_or, maxLen, con3, con9, con10, con11, con12, con13, con14, con15, con16, con17, con18, con19, con20, con21, con22, con23, con24, hT, hG, hk, hK, Try.results3, Int.reduceToNat, Int.reduceLT, Int.reduceLE, Int.cast_ofNat_Int, and_self, Int.le_refl]); (try simp (disch := decide +kernel) only [drawn, true_and, and_true])
                have hiN3 : ((i3 : Int)).toNat = i3 := by omega
                simp only [hiN3]
                obtain ⟨z, hz⟩ : ∃ z, Z.getD i3 ((0, 0) : Int × Int) = z := ⟨_, rfl⟩
                simp only [hz]
                have hall := @route_all D a b z.1 z.2
                have hne : ¬ argsV D a b z.1 z.2 = 0 → (routeV D a b z.1 z.2).2 = argsV D a b z.1 z.2 := fun h => by unfold routeV; rw [if_pos (by simpa using h)]
                have harg := @argsV_ok D a b z.1 z.2
                have hlab := labV_lbls (labelsV D a z.1 z.2) b
                have hiso : (labV (lblsV (labelsV D a z.1 z.2)) b).isSome = (mgetS (labelsV D a z.1 z.2) b).isSome := by
                  rw [hlab]; cases mgetS (labelsV D a z.1 z.2) b <;> rfl
                rw [hiso]
                clear hlab hiso
                refine ⟨fun _ => ⟨by omega, fun _ => ⟨by omega, fun _ _ _ _ => ⟨fun h => ⟨fun hh => hh (hne h), fun _ => ⟨by omega, ?_⟩⟩, fun h => ⟨⟨(harg h).1, (harg h).2.1⟩, fun _ _ => ⟨fun hs _ _ => ⟨fun hh => ?_, fun _ => ⟨by omega, ?_⟩⟩, fun hs _ _ => ⟨fun hh => ⟨hh, fun he => ⟨hh, he⟩⟩, fun hh => ?_, fun _ => ⟨by omega, ?_⟩⟩⟩⟩⟩⟩⟩, fun _ => ?_⟩
                · refine fin_lp ⟨i3 + 1, by omega⟩ ?_ (by dsimp only; omega)
                  simp only [go_sem, Prod.eta, Option.isSome_none, Option.isSome_some, Int.toNat_zero, Nat.reduceAdd, Nat.reduceMul, Nat.reduceSub, Nat.reduceEqDiff, Nat.reduceLT, Nat.reduceLeDiff, Nat.reduceShiftRight, Nat.reduceMod, Nat.reduceBEq, reduceCtorEq, reduceIte, reduceDIte, Int.reduceNeg]
                  try (first | rfl | exact ⟨rfl, rfl⟩ | (and_intros <;> first | rfl | omega))
                · rcases hall h with ⟨_, e⟩ | ⟨e, _⟩
                  · rw [e] at hh
                    simp at hh
                  · rw [e] at hs; cases hs
                · refine fin_lp ⟨i3 + 1, by omega⟩ ?_ (by dsimp only; omega)
                  simp only [go_sem, Prod.eta, Option.isSome_none, Option.isSome_some, Int.toNat_zero, Nat.reduceAdd, Nat.reduceMul, Nat.reduceSub, Nat.reduceEqDiff, Nat.reduceLT, Nat.reduceLeDiff, Nat.reduceShiftRight, Nat.reduceMod, Nat.reduceBEq, reduceCtorEq, reduceIte, reduceDIte, Int.reduceNeg]
                  try (first | rfl | exact ⟨rfl, rfl⟩ | (and_intros <;> first | rfl | omega))
                · rcases hall h with ⟨e, _⟩ | ⟨_, e1, e2, e3, e4⟩
                  · rw [e] at hs; cases hs
                  · rcases hh with ((hh | hh) | hh) | hh
                    · exact hh e1
                    · exact hh e2
                    · exact hh e3
                    · exact hh.2 (by rw [e4 hh.1]; rfl)
                · refine fin_lp ⟨i3 + 1, by omega⟩ ?_ (by dsimp only; omega)
                  simp only [go_sem, Prod.eta, Option.isSome_none, Option.isSome_some, Int.toNat_zero, Nat.reduceAdd, Nat.reduceMul, Nat.reduceSub, Nat.reduceEqDiff, Nat.reduceLT, Nat.reduceLeDiff, Nat.reduceShiftRight, Nat.reduceMod, Nat.reduceBEq, reduceCtorEq, reduceIte, reduceDIte, Int.reduceNeg]
                  try (first | rfl | exact ⟨rfl, rfl⟩ | (and_intros <;> first | rfl | omega))
                · refine ⟨by omega, ?_⟩
                  refine fin_lp ⟨(i2 + 1, (L4, o4)), by dsimp only; omega, q3⟩ ?_ (by dsimp only; omega)
                  simp only [go_sem, Prod.eta, Option.isSome_none, Option.isSome_some, Int.toNat_zero, Nat.reduceAdd, Nat.reduceMul, Nat.reduceSub, Nat.reduceEqDiff, Nat.reduceLT, Nat.reduceLeDiff, Nat.reduceShiftRight, Nat.reduceMod, Nat.reduceBEq, reduceCtorEq, reduceIte, reduceDIte, Int.reduceNeg]
                  try (first | rfl | exact ⟨rfl, rfl⟩ | (and_intros <;> first | rfl | omega))
            · refine fin_lp ⟨(i1 + 1, (L2, o2)), by dsimp only; omega, hs2⟩ ?_ (by dsimp only; omega)
              simp only [go_sem, Prod.eta, Option.isSome_none, Option.isSome_some, Int.toNat_zero, Nat.reduceAdd, Nat.reduceMul, Nat.reduceSub, Nat.reduceEqDiff, Nat.reduceLT, Nat.reduceLeDiff, Nat.reduceShiftRight, Nat.reduceMod, Nat.reduceBEq, reduceCtorEq, reduceIte, reduceDIte, Int.reduceNeg]
              try (first | rfl | exact ⟨rfl, rfl⟩ | (and_intros <;> first | rfl | omega))
        · refine fin_lp ⟨(j + 1, (L1, o1)), by dsimp only; omega, hs1⟩ ?_ (by dsimp only; omega)
          simp only [go_sem, Prod.eta, Option.isSome_none, Option.isSome_some, Int.toNat_zero, Nat.reduceAdd, Nat.reduceMul, Nat.reduceSub, Nat.reduceEqDiff, Nat.reduceLT, Nat.reduceLeDiff, Nat.reduceShiftRight, Nat.reduceMod, Nat.reduceBEq, reduceCtorEq, reduceIte, reduceDIte, Int.reduceNeg]
          try (first | rfl | exact ⟨rfl, rfl⟩ | (and_intros <;> first | rfl | omega)))
end Go.Proofs.Ytjeinbfnbcempaa
