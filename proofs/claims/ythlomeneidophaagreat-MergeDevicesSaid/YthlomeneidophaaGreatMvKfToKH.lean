/- Containers: lists of them. -/
import Derived.Test.YthlomeneidophaaGreatMvKcToKD
set_option linter.unusedSimpArgs false
set_option linter.unusedVariables false
set_option maxRecDepth 100000
set_option maxHeartbeats 4000000
namespace Go.Proofs.YthlomeneidophaaGreat
open Go.Ev

/-- A set, as a map to bools. -/
def setK (kt : Ty) (l : List kt.den) : List (kt.den × Bool) := l.foldl (fun m x => mset (kt := kt) m x true) []
theorem setK_push (kt : Ty) (l : List kt.den) (x : kt.den) : setK kt (l ++ [x]) = mset (kt := kt) (setK kt l) x true := by
 unfold setK; rw [List.foldl_append]; rfl
theorem mget_mset {kt : Ty} {β : Type} (hk : ∀ a b : kt.den, keyEq kt a b = true ↔ a = b) (m : List (kt.den × β)) (x y : kt.den) (v : β) : mget (kt := kt) (mset (kt := kt) m y v) x = if keyEq kt x y = true then some v else mget (kt := kt) m x := by
 induction m with
 | nil => rfl
 | cons p m ih =>
   obtain ⟨k, w⟩ := p
   simp only [mset]
   by_cases h1 : keyEq kt y k = true
   · rw [if_pos h1]
     have e1 := (hk y k).1 h1
     subst e1
     simp only [mget]
     by_cases h2 : keyEq kt x y = true <;> simp [h2]
   · rw [if_neg h1]
     simp only [mget]
     by_cases h2 : keyEq kt x k = true
     · have e2 := (hk x k).1 h2
       subst e2
       have h3 : ¬ keyEq kt x y = true := fun h => h1 ((hk y x).2 ((hk x y).1 h).symm)
       simp [h2, h3]
     · simp only [if_neg h2]; exact ih
theorem setK_in {kt : Ty} (hk : ∀ a b : kt.den, keyEq kt a b = true ↔ a = b) (x : kt.den) : ∀ (l : List kt.den), (mget (kt := kt) (setK kt l) x).getD false = true ↔ x ∈ l := by
 have key : ∀ (l : List kt.den) (m : List (kt.den × Bool)), (mget (kt := kt) (l.foldl (fun m x => mset (kt := kt) m x true) m) x).getD false = true ↔ (x ∈ l ∨ (mget (kt := kt) m x).getD false = true) := by
  intro l
  induction l with
  | nil => intro m; simp
  | cons y l ih =>
    intro m
    rw [List.foldl_cons, ih, mget_mset hk]
    by_cases h : keyEq kt x y = true
    · rw [if_pos h]; simp [(hk x y).1 h]
    · rw [if_neg h]
      have : x ≠ y := fun e => h ((hk x y).2 e)
      simp [this]
 intro l
 rw [setK, key]
 simp [mget]
theorem keyEq_plt (a b : Plt) : keyEq yPL a b = true ↔ a = b := by
 obtain ⟨a1, a2, a3⟩ := a
 obtain ⟨b1, b2, b3⟩ := b
 simp [keyEq]
abbrev Spt := Flt × Int
theorem keyEq_spt (a b : Spt) : keyEq (.pair yFL (.int .i64)) a b = true ↔ a = b := by
 obtain ⟨⟨a1, a2, a3, a4⟩, a5⟩ := a
 obtain ⟨⟨b1, b2, b3, b4⟩, b5⟩ := b
 simp [keyEq, and_assoc]

/-- What is wrong with the container at a place. -/
def dupP (l : List Cnt) (i : Nat) : Prop := (l.getD i ct0).pos ≠ 0 ∧ ∃ k, k < i ∧ (l.getD k ct0).pos = (l.getD i ct0).pos ∧ (l.getD k ct0).flt = (l.getD i ct0).flt
def dupB (l : List Cnt) (i : Nat) : Prop := ∃ x ∈ (l.getD i ct0).pcs, ∃ k, k < i ∧ holdsV (l.getD k ct0) x.1 = true
def dupPb (l : List Cnt) (i : Nat) : Bool := decide ((l.getD i ct0).pos ≠ 0) && (List.range i).any (fun k => decide ((l.getD k ct0).pos = (l.getD i ct0).pos) && decide ((l.getD k ct0).flt = (l.getD i ct0).flt))
def dupBb (l : List Cnt) (i : Nat) : Bool := (l.getD i ct0).pcs.any (fun x => (List.range i).any (fun k => holdsV (l.getD k ct0) x.1))
instance decDupP (l : List Cnt) (i : Nat) : Decidable (dupP l i) := decidable_of_iff (dupPb l i = true) (by
 unfold dupPb dupP
 simp only [Bool.and_eq_true, decide_eq_true_eq, List.any_eq_true, List.mem_range])
instance decDupB (l : List Cnt) (i : Nat) : Decidable (dupB l i) := decidable_of_iff (dupBb l i = true) (by
 unfold dupBb dupB
 simp only [List.any_eq_true, List.mem_range])
def ckErr (l : List Cnt) (i : Nat) : Int :=
 if ctErr (l.getD i ct0) ≠ 0 then ctErr (l.getD i ct0) else if 0 < i ∧ (l.getD i ct0).num ≤ (l.getD (i - 1) ct0).num then 9 else if dupP l i then 7 else if dupB l i then 5 else 0
def checkV (l : List Cnt) : Int := if 24 < l.length then 2 else fErr (ckErr l) l.length
theorem ckErr_v {l : List Cnt} {i : Nat} (h : ctErr (l.getD i ct0) ≠ 0) : ckErr l i = ctErr (l.getD i ct0) := by unfold ckErr; rw [if_pos h]
theorem ckErr_9 {l : List Cnt} {i : Nat} (h : ctErr (l.getD i ct0) = 0) (h1 : 0 < i) (h2 : (l.getD i ct0).num ≤ (l.getD (i - 1) ct0).num) : ckErr l i = 9 := by
 unfold ckErr; rw [if_neg (by rw [h]; simp), if_pos ⟨h1, h2⟩]
theorem ckErr_7 {l : List Cnt} {i : Nat} (h : ctErr (l.getD i ct0) = 0) (h1 : ¬ (0 < i ∧ (l.getD i ct0).num ≤ (l.getD (i - 1) ct0).num)) (h2 : dupP l i) : ckErr l i = 7 := by
 unfold ckErr; rw [if_neg (by rw [h]; simp), if_neg h1, if_pos h2]
theorem ckErr_5 {l : List Cnt} {i : Nat} (h : ctErr (l.getD i ct0) = 0) (h1 : ¬ (0 < i ∧ (l.getD i ct0).num ≤ (l.getD (i - 1) ct0).num)) (h2 : ¬ dupP l i) (h3 : dupB l i) : ckErr l i = 5 := by
 unfold ckErr; rw [if_neg (by rw [h]; simp), if_neg h1, if_neg h2, if_pos h3]
theorem ckErr_0 {l : List Cnt} {i : Nat} (h : ctErr (l.getD i ct0) = 0) (h1 : ¬ (0 < i ∧ (l.getD i ct0).num ≤ (l.getD (i - 1) ct0).num)) (h2 : ¬ dupP l i) (h3 : ¬ dupB l i) : ckErr l i = 0 := by
 unfold ckErr; rw [if_neg (by rw [h]; simp), if_neg h1, if_neg h2, if_neg h3]
theorem ckErr_z {l : List Cnt} {i : Nat} (h : ckErr l i = 0) : ctErr (l.getD i ct0) = 0 ∧ (0 < i → (l.getD (i - 1) ct0).num < (l.getD i ct0).num) ∧ ¬ dupP l i ∧ ¬ dupB l i := by
 unfold ckErr at h
 split at h
 · rename_i h1; exact absurd h h1
 · rename_i h1
   split at h
   · omega
   · rename_i h2
     split at h
     · omega
     · rename_i h3
       split at h
       · omega
       · rename_i h4
         exact ⟨Classical.not_not.1 h1, fun h0 => by
          apply Classical.byContradiction
          intro hn
          exact h2 ⟨h0, by omega⟩, h3, h4⟩
theorem checkV_err {l : List Cnt} {i : Nat} (hl : ¬ 24 < l.length) (hz : ∀ k, k < i → ckErr l k = 0) (hi : i < l.length) (he : ckErr l i ≠ 0) : checkV l = ckErr l i := by
 unfold checkV; rw [if_neg hl, fErr_err hz hi he]
theorem checkV_ok {l : List Cnt} (hl : ¬ 24 < l.length) (hz : ∀ k, k < l.length → ckErr l k = 0) : checkV l = 0 := by
 unfold checkV; rw [if_neg hl, fErr_ok hz]
theorem checkV_zero {l : List Cnt} (h : checkV l = 0) : l.length ≤ 24 ∧ ∀ k, k < l.length → ckErr l k = 0 := by
 unfold checkV at h
 split at h
 · omega
 · exact ⟨by omega, fErr_zero h⟩
/-- The places and the plates that are taken. -/
def takL (l : List Cnt) : List Spt := (l.filter (fun c => decide (c.pos ≠ 0))).map (fun c => (c.flt, c.pos))
def takP (l : List Cnt) : List Plt := l.flatMap (fun c => c.pcs.map (fun x => x.1))
theorem takL_in {l : List Cnt} {i : Nat} (hi : i < l.length) : (l.getD i ct0).pos ≠ 0 → (((l.getD i ct0).flt, (l.getD i ct0).pos) ∈ takL (l.take i) ↔ dupP l i) := by
 intro h0
 unfold takL dupP
 rw [List.mem_map]
 constructor
 · rintro ⟨c, hc, he⟩
   obtain ⟨hc1, hc2⟩ := List.mem_filter.1 hc
   obtain ⟨k, hk, rfl⟩ := List.getElem_of_mem hc1
   rw [List.length_take] at hk
   refine ⟨h0, k, by omega, ?_⟩
   rw [List.getElem_take] at he
   rw [getD_lt (show k < l.length by omega)]
   simp only [Prod.mk.injEq] at he
   exact ⟨he.2, he.1⟩
 · rintro ⟨_, k, hk, h1, h2⟩
   refine ⟨l.getD k ct0, List.mem_filter.2 ⟨?_, by rw [decide_eq_true_eq, h1]; exact h0⟩, by rw [h1, h2]⟩
   rw [getD_lt (by omega)]
   rw [List.mem_take_iff_getElem]
   exact ⟨k, by omega, rfl⟩
theorem takL_succ {l : List Cnt} {i : Nat} (hi : i < l.length) : takL (l.take (i + 1)) = if (l.getD i ct0).pos ≠ 0 then takL (l.take i) ++ [((l.getD i ct0).flt, (l.getD i ct0).pos)] else takL (l.take i) := by
 unfold takL
 rw [List.take_succ_eq_append_getElem hi, List.filter_append, List.map_append, ← getD_lt hi (d := ct0)]
 by_cases h : (l.getD i ct0).pos ≠ 0
 · rw [if_pos h, List.filter_cons_of_pos (by simpa using h)]; rfl
 · rw [if_neg h, List.filter_cons_of_neg (by simpa using h)]; simp
theorem takP_succ {l : List Cnt} {i : Nat} (hi : i < l.length) : takP (l.take (i + 1)) = takP (l.take i) ++ (l.getD i ct0).pcs.map (fun x => x.1) := by
 unfold takP
 rw [List.take_succ_eq_append_getElem hi, List.flatMap_append, ← getD_lt hi (d := ct0)]
 simp
theorem holdsV_in {c : Cnt} {p : Plt} : holdsV c p = true ↔ p ∈ c.pcs.map (fun x => x.1) := by
 unfold holdsV
 rw [List.any_eq_true, List.mem_map]
 simp
theorem takP_in {l : List Cnt} {i : Nat} {p : Plt} (hi : i ≤ l.length) : p ∈ takP (l.take i) ↔ ∃ k, k < i ∧ holdsV (l.getD k ct0) p = true := by
 unfold takP
 rw [List.mem_flatMap]
 constructor
 · rintro ⟨c, hc, hp⟩
   obtain ⟨k, hk, rfl⟩ := List.getElem_of_mem hc
   rw [List.length_take] at hk
   refine ⟨k, by omega, holdsV_in.2 ?_⟩
   rw [getD_lt (show k < l.length by omega)]
   rw [List.getElem_take] at hp
   exact hp
 · rintro ⟨k, hk, hp⟩
   refine ⟨l.getD k ct0, ?_, holdsV_in.1 hp⟩
   rw [getD_lt (by omega), List.mem_take_iff_getElem]
   exact ⟨k, by omega, rfl⟩
/-- Pieces in order have plates of their own. -/
theorem pcs_apart {l : List Pce} (h : ∀ i, i < l.length → okPc (l.getD i pc0) = true ∧ (0 < i → pltC (l.getD (i - 1) pc0).1 (l.getD i pc0).1 < 0)) : ∀ j k, j < k → k < l.length → pltC (l.getD j pc0).1 (l.getD k pc0).1 < 0 := by
 intro j k hjk
 induction k with
 | zero => omega
 | succ k ih =>
   intro hk
   have h1 := (h (k + 1) hk).2 (by omega)
   rw [show k + 1 - 1 = k by omega] at h1
   by_cases e : j = k
   · subst e; exact h1
   · exact pltC_cmp.trans _ _ _ (ih (by omega) (by omega)) h1
theorem pcs_ne {l : List Pce} (h : ∀ i, i < l.length → okPc (l.getD i pc0) = true ∧ (0 < i → pltC (l.getD (i - 1) pc0).1 (l.getD i pc0).1 < 0)) {k : Nat} (hk : k < l.length) : (l.getD k pc0).1 ∉ (l.take k).map (fun x => x.1) := by
 intro hm
 obtain ⟨x, hx, he⟩ := List.mem_map.1 hm
 obtain ⟨j, hj, rfl⟩ := List.getElem_of_mem hx
 rw [List.length_take] at hj
 have := pcs_apart h j k (by omega) hk
 rw [List.getElem_take, ← getD_lt (d := pc0) (show j < l.length by omega)] at he
 rw [he] at this
 have := (pltC_cmp.eq (l.getD k pc0).1 (l.getD k pc0).1).2 rfl
 omega

theorem dupB_of {l : List Cnt} {i k : Nat} {o : Cnt} (hi : i < l.length) (ho : l.getD i ct0 = o) (hk : k < o.pcs.length) (h : (o.pcs.getD k pc0).1 ∈ takP (l.take i)) : dupB l i := by
 obtain ⟨j, hj, hh⟩ := (takP_in (by omega)).1 h
 refine ⟨o.pcs.getD k pc0, ?_, j, hj, hh⟩
 rw [ho]; exact getD_mem hk
theorem dupB_no {l : List Cnt} {i : Nat} {o : Cnt} (hi : i < l.length) (ho : l.getD i ct0 = o) (h : ∀ j, j < o.pcs.length → (o.pcs.getD j pc0).1 ∉ takP (l.take i)) : ¬ dupB l i := by
 rintro ⟨x, hx, k, hk, hh⟩
 rw [ho] at hx
 obtain ⟨j, hj, rfl⟩ := mem_getD (d := pc0) hx
 exact h j hj ((takP_in (by omega)).2 ⟨k, hk, hh⟩)
theorem pcs_push {l : List Pce} {k : Nat} (hk : k < l.length) : (l.take (k + 1)).map (fun x => x.1) = (l.take k).map (fun x => x.1) ++ [(l.getD k pc0).1] := by
 rw [List.take_succ_eq_append_getElem hk, List.map_append, ← getD_lt hk (d := pc0)]; rfl
def con27 : Con := { ps := [.d false (.sl yCT)], rs := [.d false (.int .i64)], pre := fun _ => True, out := fun (x : List Cnt × Unit) => (checkV x.1, ()), nw := id }
theorem c27 : CtrOk Tryz.prog 27 con27.ctr :=
 con_sound (G := ⟨[(52, con52.ctr)], [], [], []⟩) tab_ok (EnvOk.cons c52 has52 EnvOk.nil) rfl Tryz.func27 rfl con27 18989710403364136445 (by kernel_rfl) (by decide) (by decide) rfl (by decide) rfl (by
  rintro ⟨(l : List Cnt), _⟩ hpre hwf X hT hG hk hK
  (simp -implicitDefEqProofs only [go_sem, Bool.not_eq_true', Bool.not_eq_false', Bool.or_eq_true, Bool.or_eq_false_iff, Bool.and_eq_true, Bool.and_eq_false_iff, decide_eq_true_eq, decide_eq_false_iff_not, Classical.not_not, not_or, maxLen, con27, con52, hT, hG, hk, hK, Tryz.results27] at hwf ⊢); (try simp (disch := decide +kernel) only [drawn, true_and, and_true])
  clear hwf
  refine fun _ => ⟨fun h => ?_, fun h _ => ?_⟩
  · unfold checkV; rw [if_pos (by omega)]
  · have hl : ¬ 24 < l.length := by omega
    refine evk_loop ⟨{ i : Nat // i ≤ l.length ∧ ∀ k, k < i → ckErr l k = 0 }, 1000, fun q => [(0, .one (.sl yCT l false)), (2, .one (.int .i64 0)), (3, .one (.map 70)), (4, .one (.map 71)), (16, .one (.sl yCT l false)), (17, .one (.int .i64 l.length)), (18, .one (.int .i64 q.1))], fun q => [(70, .mapb (.pair yFL (.int .i64)) .bool true false (setK (.pair yFL (.int .i64)) (takL (l.take q.1)))), (71, .mapb yPL .bool true false (setK yPL (takP (l.take q.1))))], fun q => l.length - q.1⟩ ⟨0, by omega, fun k hk => by omega⟩ ?_ ?_
    · simp only [go_sem]
      try (first | rfl | exact ⟨rfl, rfl⟩ | (and_intros <;> first | trivial | rfl | omega))
    · rintro ⟨i, (hi : i ≤ l.length), (hz : ∀ k, k < i → ckErr l k = 0)⟩
      have he := checkV_err (i := i) hl hz
      (simp -implicitDefEqProofs only [go_sem, Bool.not_eq_true', Bool.not_eq_false', Bool.or_eq_true, Bool.or_eq_false_iff, Bool.and_eq_true, Bool.and_eq_false_iff, decide_eq_true_eq, decide_eq_false_iff_not, Classical.not_not, not_or, maxLen, con27, con52, hT, hG, hk, hK, Tryz.results27]); (try simp (disch := decide +kernel) only [drawn, true_and, and_true])
      obtain ⟨o, ho⟩ : ∃ o, l.getD i ct0 = o := ⟨_, rfl⟩
      obtain ⟨u, hu⟩ : ∃ u, l.getD (i - 1) ct0 = u := ⟨_, rfl⟩
      have eo : l.getD (i : Int).toNat (0, (ByteArray.empty, 0, ByteArray.empty, 0), 0, 0, 0, 0, 0, []) = o := ho
      have eu : l.getD ((i : Int) - 1).toNat (0, (ByteArray.empty, 0, ByteArray.empty, 0), 0, 0, 0, 0, 0, []) = u := by rw [show ((i : Int) - 1).toNat = i - 1 by omega]; exact hu
      rw [eo, eu]
      have eO : (o.1, (o.2.1.1, o.2.1.2.1, o.2.1.2.2.1, o.2.1.2.2.2), o.2.2.1, o.2.2.2.1, o.2.2.2.2.1, o.2.2.2.2.2.1, o.2.2.2.2.2.2.1, o.2.2.2.2.2.2.2) = o := rfl
      have eS : ((o.2.1.1, o.2.1.2.1, o.2.1.2.2.1, o.2.1.2.2.2), o.2.2.2.2.2.1) = (o.flt, o.pos) := rfl
      try simp only [eO, eS]
      have htk := setK_in (kt := .pair yFL (.int .i64)) keyEq_spt (o.flt, o.pos) (takL (l.take i))
      (repeat' (with_reducible (first | refine And.intro ?_ ?_ | intro _))) <;> (try (first | with_reducible (first | done | assumption | omega | contradiction) | decide))
      all_goals first
       | (have h1 : ¬ ctErr o = 0 := by assumption
          have e1 : ckErr l i = ctErr o := by rw [ckErr_v (by rw [ho]; exact h1), ho]
          rw [he (by omega) (by rw [e1]; exact h1), e1]; done)
       | (have h1 : (i : Int) > 0 ∧ o.1 ≤ u.1 := by assumption
          have e1 : ckErr l i = 9 := ckErr_9 (by rw [ho]; assumption) (by omega) (by rw [ho, hu]; exact h1.2)
          rw [he (by omega) (by rw [e1]; decide), e1]; done)
       | (have h0 : ¬ o.2.2.2.2.2.1 = 0 := by assumption
          have hm := htk.1 (by assumption)
          have h9 : ¬ (0 < i ∧ (l.getD i ct0).num ≤ (l.getD (i - 1) ct0).num) := by
           rw [ho, hu]
           have hq : ¬ (i : Int) > 0 ∨ ¬ o.1 ≤ u.1 := by assumption
           rintro ⟨q1, q2⟩
           rcases hq with hq | hq
           · omega
           · exact hq q2
          have hd : dupP l i := (takL_in (by omega) (by rw [ho]; exact h0)).1 (by rw [ho]; exact hm)
          have e1 : ckErr l i = 7 := ckErr_7 (by rw [ho]; assumption) h9 hd
          rw [he (by omega) (by rw [e1]; decide), e1]; done)
       | (have h0 : ¬ o.2.2.2.2.2.1 = 0 := by assumption
          have hm := mt htk.2 (Bool.eq_false_iff.1 (by assumption))
          have hil : i < l.length := by omega
          have hc0 : ctErr o = 0 := by assumption
          have h9 : ¬ (0 < i ∧ (l.getD i ct0).num ≤ (l.getD (i - 1) ct0).num) := by
           rw [ho, hu]
           have hq : ¬ (i : Int) > 0 ∨ ¬ o.1 ≤ u.1 := by assumption
           rintro ⟨q1, q2⟩
           rcases hq with hq | hq
           · omega
           · exact hq q2
          have h7 : ¬ dupP l i := fun hd => hm (by have := (takL_in hil (by rw [ho]; exact h0)).2 hd; rw [ho] at this; exact this)
          obtain ⟨_, _, hpc⟩ := ctErr_zero hc0
          refine evk_loop ⟨{ k : Nat // k ≤ o.pcs.length ∧ ∀ j, j < k → (o.pcs.getD j pc0).1 ∉ takP (l.take i) }, 2000, fun q => [(0, .one (.sl yCT l false)), (2, .one (.int .i64 0)), (3, .one (.map 70)), (4, .one (.map 71)), (16, .one (.sl yCT l false)), (17, .one (.int .i64 l.length)), (18, .one (.int .i64 i)), (55, .one (.sl yPC o.pcs false)), (56, .one (.int .i64 o.pcs.length)), (57, .one (.int .i64 q.1))], fun q => [(70, .mapb (.pair yFL (.int .i64)) .bool true false (setK (.pair yFL (.int .i64)) (takL (l.take (i + 1))))), (71, .mapb yPL .bool true false (setK yPL (takP (l.take i) ++ (o.pcs.take q.1).map (fun x => x.1))))], fun q => o.pcs.length - q.1⟩ ⟨0, by omega, fun k hk => by omega⟩ ?_ ?_
          · simp only [go_sem]
            rw [takL_succ hil, ho]
            rw [if_pos h0]
            try simp only [List.take_zero, List.map_nil, List.append_nil]
            try (and_intros <;> first | exact (setK_push _ _ _).symm | trivial | rfl | omega)
          · rintro ⟨k, (hkl : k ≤ o.pcs.length), (hkz : ∀ j, j < k → (o.pcs.getD j pc0).1 ∉ takP (l.take i))⟩
            (simp -implicitDefEqProofs only [go_sem, Bool.not_eq_true', Bool.not_eq_false', Bool.or_eq_true, Bool.or_eq_false_iff, Bool.and_eq_true, Bool.and_eq_false_iff, decide_eq_true_eq, decide_eq_false_iff_not, Classical.not_not, not_or, maxLen, con27, con52, hT, hG, hk, hK, Tryz.results27]); (try simp (disch := decide +kernel) only [drawn, true_and, and_true])
            obtain ⟨y, hy⟩ : ∃ y, o.pcs.getD k pc0 = y := ⟨_, rfl⟩
            have ey : (o.2.2.2.2.2.2.2).getD (k : Int).toNat ((0, 0, 0), 0, 0) = y := hy
            rw [ey]
            have eP : (y.1.1, y.1.2.1, y.1.2.2) = y.1 := rfl
            try simp only [eP]
            have hin := setK_in (kt := yPL) keyEq_plt y.1 (takP (l.take i) ++ (o.pcs.take k).map (fun x => x.1))
            (repeat' (with_reducible (first | refine And.intro ?_ ?_ | intro _))) <;> (try (first | with_reducible (first | done | assumption | omega | contradiction) | decide))
            all_goals first
             | (have hm := hin.1 (by assumption)
                have hm2 : y.1 ∈ takP (l.take i) := (List.mem_append.1 hm).resolve_right (by rw [← hy]; exact pcs_ne hpc (by omega))
                have hd : dupB l i := dupB_of hil ho (k := k) (by omega) (by rw [hy]; exact hm2)
                rw [he hil (by rw [ckErr_5 (by rw [ho]; exact hc0) h9 h7 hd]; decide), ckErr_5 (by rw [ho]; exact hc0) h9 h7 hd]; done)
             | (have hm := mt hin.2 (Bool.eq_false_iff.1 (by assumption))
                refine fin_lp ⟨k + 1, by omega, lt_succ hkz (by rw [hy]; exact fun q => hm (List.mem_append_left _ q))⟩ ?_ (by dsimp only; omega)
                simp only [go_sem]
                rw [pcs_push (by omega), hy, ← List.append_assoc]
                try (and_intros <;> first | exact (setK_push _ _ _).symm | trivial | rfl | omega)
                done)
             | (have hd : ¬ dupB l i := dupB_no hil ho fun j hj => hkz j (by omega)
                refine fin_lp ⟨i + 1, by omega, lt_succ hz (ckErr_0 (by rw [ho]; exact hc0) h9 h7 hd)⟩ ?_ (by dsimp only; omega)
                simp only [go_sem]
                rw [takP_succ hil, ho, List.take_of_length_le (show o.pcs.length ≤ k by omega)]
                try (first | rfl | exact ⟨rfl, rfl⟩ | (and_intros <;> first | trivial | rfl | omega))
                done)
             | skip)
       | (have h0 : o.2.2.2.2.2.1 = 0 := by assumption
          have hil : i < l.length := by omega
          have hc0 : ctErr o = 0 := by assumption
          have h9 : ¬ (0 < i ∧ (l.getD i ct0).num ≤ (l.getD (i - 1) ct0).num) := by
           rw [ho, hu]
           have hq : ¬ (i : Int) > 0 ∨ ¬ o.1 ≤ u.1 := by assumption
           rintro ⟨q1, q2⟩
           rcases hq with hq | hq
           · omega
           · exact hq q2
          have h7 : ¬ dupP l i := fun hd => hd.1 (by rw [ho]; exact h0)
          obtain ⟨_, _, hpc⟩ := ctErr_zero hc0
          refine evk_loop ⟨{ k : Nat // k ≤ o.pcs.length ∧ ∀ j, j < k → (o.pcs.getD j pc0).1 ∉ takP (l.take i) }, 2000, fun q => [(0, .one (.sl yCT l false)), (2, .one (.int .i64 0)), (3, .one (.map 70)), (4, .one (.map 71)), (16, .one (.sl yCT l false)), (17, .one (.int .i64 l.length)), (18, .one (.int .i64 i)), (55, .one (.sl yPC o.pcs false)), (56, .one (.int .i64 o.pcs.length)), (57, .one (.int .i64 q.1))], fun q => [(70, .mapb (.pair yFL (.int .i64)) .bool true false (setK (.pair yFL (.int .i64)) (takL (l.take (i + 1))))), (71, .mapb yPL .bool true false (setK yPL (takP (l.take i) ++ (o.pcs.take q.1).map (fun x => x.1))))], fun q => o.pcs.length - q.1⟩ ⟨0, by omega, fun k hk => by omega⟩ ?_ ?_
          · simp only [go_sem]
            rw [takL_succ hil, ho]
            rw [if_neg (fun q => q h0)]
            try simp only [List.take_zero, List.map_nil, List.append_nil]
            try (and_intros <;> first | exact (setK_push _ _ _).symm | trivial | rfl | omega)
          · rintro ⟨k, (hkl : k ≤ o.pcs.length), (hkz : ∀ j, j < k → (o.pcs.getD j pc0).1 ∉ takP (l.take i))⟩
            (simp -implicitDefEqProofs only [go_sem, Bool.not_eq_true', Bool.not_eq_false', Bool.or_eq_true, Bool.or_eq_false_iff, Bool.and_eq_true, Bool.and_eq_false_iff, decide_eq_true_eq, decide_eq_false_iff_not, Classical.not_not, not_or, maxLen, con27, con52, hT, hG, hk, hK, Tryz.results27]); (try simp (disch := decide +kernel) only [drawn, true_and, and_true])
            obtain ⟨y, hy⟩ : ∃ y, o.pcs.getD k pc0 = y := ⟨_, rfl⟩
            have ey : (o.2.2.2.2.2.2.2).getD (k : Int).toNat ((0, 0, 0), 0, 0) = y := hy
            rw [ey]
            have eP : (y.1.1, y.1.2.1, y.1.2.2) = y.1 := rfl
            try simp only [eP]
            have hin := setK_in (kt := yPL) keyEq_plt y.1 (takP (l.take i) ++ (o.pcs.take k).map (fun x => x.1))
            (repeat' (with_reducible (first | refine And.intro ?_ ?_ | intro _))) <;> (try (first | with_reducible (first | done | assumption | omega | contradiction) | decide))
            all_goals first
             | (have hm := hin.1 (by assumption)
                have hm2 : y.1 ∈ takP (l.take i) := (List.mem_append.1 hm).resolve_right (by rw [← hy]; exact pcs_ne hpc (by omega))
                have hd : dupB l i := dupB_of hil ho (k := k) (by omega) (by rw [hy]; exact hm2)
                rw [he hil (by rw [ckErr_5 (by rw [ho]; exact hc0) h9 h7 hd]; decide), ckErr_5 (by rw [ho]; exact hc0) h9 h7 hd]; done)
             | (have hm := mt hin.2 (Bool.eq_false_iff.1 (by assumption))
                refine fin_lp ⟨k + 1, by omega, lt_succ hkz (by rw [hy]; exact fun q => hm (List.mem_append_left _ q))⟩ ?_ (by dsimp only; omega)
                simp only [go_sem]
                rw [pcs_push (by omega), hy, ← List.append_assoc]
                try (and_intros <;> first | exact (setK_push _ _ _).symm | trivial | rfl | omega)
                done)
             | (have hd : ¬ dupB l i := dupB_no hil ho fun j hj => hkz j (by omega)
                refine fin_lp ⟨i + 1, by omega, lt_succ hz (ckErr_0 (by rw [ho]; exact hc0) h9 h7 hd)⟩ ?_ (by dsimp only; omega)
                simp only [go_sem]
                rw [takP_succ hil, ho, List.take_of_length_le (show o.pcs.length ≤ k by omega)]
                try (first | rfl | exact ⟨rfl, rfl⟩ | (and_intros <;> first | trivial | rfl | omega))
                done)
             | skip)
       | (rw [checkV_ok hl (fun k hk => hz k (by omega))]; done)
       | skip)
end Go.Proofs.YthlomeneidophaaGreat

/- Containers: lists of them, continued. -/
set_option linter.unusedSimpArgs false
set_option linter.unusedVariables false
set_option maxRecDepth 100000
set_option maxHeartbeats 4000000
namespace Go.Proofs.YthlomeneidophaaGreat
open Go.Ev

instance kdPlt : DecidableEq Plt := instDecidableEqProd
instance kdPce : DecidableEq Pce := instDecidableEqProd
instance kdF1 : DecidableEq (ByteArray × Int) := instDecidableEqProd
instance kdF2 : DecidableEq (Int × ByteArray × Int) := instDecidableEqProd
instance kdFlt : DecidableEq Flt := instDecidableEqProd
instance kdC1 : DecidableEq (Int × List Pce) := instDecidableEqProd
instance kdC2 : DecidableEq (Int × Int × List Pce) := instDecidableEqProd
instance kdC3 : DecidableEq (Int × Int × Int × List Pce) := instDecidableEqProd
instance kdC4 : DecidableEq (Int × Int × Int × Int × List Pce) := instDecidableEqProd
instance kdC5 : DecidableEq (Int × Int × Int × Int × Int × List Pce) := instDecidableEqProd
instance kdC6 : DecidableEq (Flt × Int × Int × Int × Int × Int × List Pce) := instDecidableEqProd
instance kdCnt : DecidableEq Cnt := instDecidableEqProd
def numIdx (l : List Cnt) (n : Int) : Int := idxV (fun c => decide (c.num = n)) l
def con53 : Con := { ps := [.d false (.sl yCT)], rs := [.o 68 yCT], pre := fun x => x.1.length ≤ 100000, out := fun x => (x.1, ()), nw := id }
theorem c53 : CtrOk Tryz.prog 53 con53.ctr :=
 con_sound (G := ⟨[], [], [], []⟩) tab_ok EnvOk.nil rfl Tryz.func53 rfl con53 21 (by kernel_rfl) (by decide) (by decide) rfl (by decide) rfl (by
  rintro ⟨(l : List Cnt), _⟩ hpre hwf X hT hG hk hK
  (simp -implicitDefEqProofs only [go_sem, con53, hT, hG, hk, hK, Tryz.results53] at hwf ⊢); (try simp (disch := decide +kernel) only [drawn, true_and, and_true])
  intro a ha
  have hpre : l.length ≤ 100000 := hpre
  refine ⟨fun h => (List.eq_nil_of_length_eq_zero (ha h)).symm, fun _ => by omega⟩)
end Go.Proofs.YthlomeneidophaaGreat

/- Valid containers, in plain words. -/
set_option linter.unusedSimpArgs false
set_option linter.unusedVariables false
set_option maxRecDepth 100000
set_option maxHeartbeats 4000000
namespace Go.Proofs.YthlomeneidophaaGreat
open Go.Ev

theorem pw_getD {α : Type} {R : α → α → Prop} (d : α) {l : List α} : l.Pairwise R ↔ ∀ i j, i < j → j < l.length → R (l.getD i d) (l.getD j d) := by
 rw [List.pairwise_iff_getElem]
 constructor
 · intro h i j hij hj
   have := h i j (by omega) hj hij
   simpa [List.getD_eq_getElem?_getD, hj, (by omega : i < l.length)] using this
 · intro h i j hi hj hij
   have := h i j hij hj
   simpa [List.getD_eq_getElem?_getD, hj, hi] using this
theorem getD_pc {l : List Pce} {x : Pce} (h : x ∈ l) : ∃ i, i < l.length ∧ l.getD i pc0 = x := by
 obtain ⟨i, hi, rfl⟩ := List.getElem_of_mem h
 exact ⟨i, hi, by simp [hi]⟩
theorem getD_ct {l : List Cnt} {x : Cnt} (h : x ∈ l) : ∃ i, i < l.length ∧ l.getD i ct0 = x := by
 obtain ⟨i, hi, rfl⟩ := List.getElem_of_mem h
 exact ⟨i, hi, by simp [hi]⟩
structure PcsOk (l : List Pce) : Prop where
 ok : ∀ x ∈ l, okPc x = true
 srt : l.Pairwise (fun a b => pltC a.1 b.1 < 0)
theorem ctErr_iff {c : Cnt} : ctErr c = 0 ↔ propC c = true ∧ c.pcs.length ≤ 60 ∧ PcsOk c.pcs := by
 constructor
 · intro h
   obtain ⟨h1, h2, h3⟩ := ctErr_zero h
   refine ⟨h1, h2, fun x hx => ?_, (pw_getD pc0).2 (pcs_apart h3)⟩
   obtain ⟨i, hi, rfl⟩ := getD_pc hx
   exact (h3 i hi).1
 · rintro ⟨h1, h2, h3⟩
   unfold ctErr
   rw [if_neg (by rw [h1]; simp), if_neg (by omega)]
   refine fErr_ok fun k hk => ?_
   have ho : okPc (c.pcs.getD k pc0) = true := h3.ok _ (getD_mem hk)
   by_cases h0 : k = 0
   · exact pcErr_f ho h0
   · have hl := (pw_getD pc0).1 h3.srt (k - 1) k (by omega) hk
     exact pcErr_0 ho h0 (by omega) (by omega)
structure CtsOk (l : List Cnt) : Prop where
 len : l.length ≤ 24
 ok : ∀ c ∈ l, propC c = true ∧ c.pcs.length ≤ 60 ∧ PcsOk c.pcs
 num : l.Pairwise (fun a b => a.num < b.num)
 pos : l.Pairwise (fun a b => b.pos ≠ 0 → a.pos = b.pos → a.flt ≠ b.flt)
 pl : l.Pairwise (fun a b => ∀ x ∈ a.pcs, ∀ y ∈ b.pcs, x.1 ≠ y.1)
theorem holdsV_iff {c : Cnt} {p : Plt} : holdsV c p = true ↔ ∃ x ∈ c.pcs, x.1 = p := by
 rw [holdsV_in, List.mem_map]
theorem num_apart {l : List Cnt} (h : ∀ i, i < l.length → 0 < i → (l.getD (i - 1) ct0).num < (l.getD i ct0).num) : ∀ j k, j < k → k < l.length → (l.getD j ct0).num < (l.getD k ct0).num := by
 intro j k hjk
 induction k with
 | zero => omega
 | succ k ih =>
   intro hk
   have h1 := h (k + 1) hk (by omega)
   rw [show k + 1 - 1 = k by omega] at h1
   by_cases e : j = k
   · subst e; exact h1
   · exact Int.lt_trans (ih (by omega) (by omega)) h1
theorem checkV_iff {l : List Cnt} : checkV l = 0 ↔ CtsOk l := by
 constructor
 · intro h
   obtain ⟨h1, h2⟩ := checkV_zero h
   have h3 : ∀ i, i < l.length → _ := fun i hi => ckErr_z (h2 i hi)
   refine ⟨h1, fun c hc => ?_, (pw_getD ct0).2 (num_apart fun i hi h0 => (h3 i hi).2.1 h0), (pw_getD ct0).2 fun i j hij hj hp he hf => (h3 j hj).2.2.1 ⟨hp, i, hij, he, hf⟩, (pw_getD ct0).2 fun i j hij hj x hx y hy he => (h3 j hj).2.2.2 ⟨y, hy, i, hij, holdsV_iff.2 ⟨x, hx, he⟩⟩⟩
   obtain ⟨i, hi, rfl⟩ := getD_ct hc
   exact ctErr_iff.1 (h3 i hi).1
 · rintro ⟨h1, h2, h3, h4, h5⟩
   refine checkV_ok (by omega) fun k hk => ?_
   refine ckErr_0 (ctErr_iff.2 (h2 _ (getD_mem hk))) ?_ ?_ ?_
   · rintro ⟨h0, hn⟩
     have := (pw_getD ct0).1 h3 (k - 1) k (by omega) hk
     omega
   · rintro ⟨hp, i, hi, he, hf⟩
     exact (pw_getD ct0).1 h4 i k hi hk hp he hf
   · rintro ⟨y, hy, i, hi, hh⟩
     obtain ⟨x, hx, he⟩ := holdsV_iff.1 hh
     exact (pw_getD ct0).1 h5 i k hi hk x hx y hy he
/-- Containers with other pieces. -/
def setPcs (c : Cnt) (p : List Pce) : Cnt := (c.1, c.2.1, c.2.2.1, c.2.2.2.1, c.2.2.2.2.1, c.2.2.2.2.2.1, c.2.2.2.2.2.2.1, p)
theorem fltsV_ok (n : Int) : fltOk (fltsV n) = true := by
 have hb := goMod_bd n 27 (by omega)
 have key : ∀ k : Nat, k < 27 → fltOk (strs3.getD ((k : Int) / 9).toNat ByteArray.empty, 1 + (k : Int) / 3 % 3, ByteArray.empty, 1 + (k : Int) % 3) = true := by decide +kernel
 have := key (goMod n 27).toNat (by omega)
 unfold fltsV
 rw [show ((goMod n 27).toNat : Int) = goMod n 27 by omega] at this
 exact this
theorem platesV_lt {a b : Int} (h0 : 0 ≤ a) (h1 : a < b) (h2 : b < 1000) : pltC (platesV a) (platesV b) < 0 := by
 have e : ∀ x : Int, 0 ≤ x → x < 1000 → goMod x 1000 = x := fun x hx hx2 => by
  unfold goMod
  rw [if_neg (by omega), Int.tmod_eq_emod_of_nonneg hx, if_neg (by omega)]; omega
 unfold platesV
 rw [e a h0 (by omega), e b (by omega) h2]
 have ea1 : a.tdiv 500 = a / 500 := Int.tdiv_eq_ediv_of_nonneg h0
 have ea2 : a.tdiv 100 = a / 100 := Int.tdiv_eq_ediv_of_nonneg h0
 have ea3 : a.tmod 100 = a % 100 := Int.tmod_eq_emod_of_nonneg h0
 have ea4 : (a / 100).tmod 5 = a / 100 % 5 := Int.tmod_eq_emod_of_nonneg (by omega)
 have eb1 : b.tdiv 500 = b / 500 := Int.tdiv_eq_ediv_of_nonneg (by omega)
 have eb2 : b.tdiv 100 = b / 100 := Int.tdiv_eq_ediv_of_nonneg (by omega)
 have eb3 : b.tmod 100 = b % 100 := Int.tmod_eq_emod_of_nonneg (by omega)
 have eb4 : (b / 100).tmod 5 = b / 100 % 5 := Int.tmod_eq_emod_of_nonneg (by omega)
 rw [ea1, ea2, ea3, ea4, eb1, eb2, eb3, eb4]
 unfold pltC lexC cmpV
 dsimp only
 (repeat' split) <;> omega
end Go.Proofs.YthlomeneidophaaGreat

/- The generator of containers. -/
set_option linter.unusedSimpArgs false
set_option linter.unusedVariables false
set_option maxRecDepth 100000
set_option maxHeartbeats 8000000
namespace Go.Proofs.YthlomeneidophaaGreat
open Go.Ev

attribute [local go_sem] List.set_cons_succ List.set_cons_zero List.getD_cons_succ List.getD_cons_zero List.set_nil
/-- What Containers gives. -/
structure CtsR (most n : Int) (l : List Cnt) : Prop where
 ok : CtsOk l
 len : (l.length : Int) ≤ most
 pl : ∀ c ∈ l, ∀ x ∈ c.pcs, ∃ j : Nat, (j : Int) < n ∧ x.1 = platesV j
 fl : ∀ c ∈ l, ∃ j : Nat, j < 3 ∧ c.flt = fltsV j
structure CtA (most k nm : Int) (xs : List Cnt) : Prop where
 len : (xs.length : Int) + k ≤ most
 n0 : 0 ≤ nm
 n1 : nm ≤ 2 * xs.length
 ok : ∀ c ∈ xs, propC c = true ∧ c.pcs = [] ∧ c.num ≤ nm ∧ ∃ j : Nat, j < 3 ∧ c.flt = fltsV j
 num : xs.Pairwise (fun a b => a.num < b.num)
 pos : ∀ i, i < xs.length → (xs.getD i ct0).pos = 0 ∨ (xs.getD i ct0).pos = i + 1
theorem CtA.push {most k nm : Int} {xs : List Cnt} (h : CtA most k nm xs) (hm : most ≤ 24) (hk : 0 < k) {v f c l m p r : Int} (hv : 1 ≤ v ∧ v ≤ 2) (hf : 0 ≤ f ∧ f < 3) (hc : 0 ≤ c ∧ c ≤ 31) (hl : 0 ≤ l ∧ l ≤ 20000) (hmo : 0 ≤ m ∧ m ≤ 60) (hp : p = 0 ∨ p = xs.length + 1) (hr : -50 ≤ r ∧ r ≤ 50) : CtA most (k - 1) (nm + v) (xs ++ [(nm + v, fltsV f, c, l, m, p, r, [])]) := by
 obtain ⟨il, in0, in1, iok, inum, ipos⟩ := h
 refine ⟨by simp; omega, by omega, by simp; omega, fun x hx => ?_, ?_, fun i hi => ?_⟩
 · rcases List.mem_append.1 hx with hx | hx
   · obtain ⟨h1, h2, h3, h4⟩ := iok x hx
     exact ⟨h1, h2, by omega, h4⟩
   · rw [List.mem_singleton.1 hx]
     refine ⟨?_, rfl, Int.le_refl _, f.toNat, by omega, by rw [show ((f.toNat : Nat) : Int) = f by omega]⟩
     unfold propC inV
     simp only [Cnt.num, Cnt.flt, Cnt.cats, Cnt.lim, Cnt.most, Cnt.pos, Cnt.arm, fltsV_ok, Bool.and_eq_true, decide_eq_true_eq, and_true]
     rcases hp with hp | hp <;> subst hp <;> omega
 · rw [List.pairwise_append]
   refine ⟨inum, List.pairwise_singleton _ _, fun x hx y hy => ?_⟩
   rw [List.mem_singleton.1 hy]
   have := (iok x hx).2.2.1
   show x.num < nm + v
   omega
 · by_cases e : i < xs.length
   · have := ipos i e
     rw [List.getD_eq_getElem?_getD, List.getElem?_append_left e, ← List.getD_eq_getElem?_getD]; exact this
   · have e : i = xs.length := by simp at hi; omega
     subst e
     rw [List.getD_eq_getElem?_getD, List.getElem?_append_right (Nat.le_refl _), Nat.sub_self]
     exact hp
structure CtB (i N : Nat) (yss : List (List Pce)) : Prop where
 len : yss.length = N
 c20 : ∀ p ∈ yss, p.length ≤ 20
 ok : ∀ p ∈ yss, PcsOk p
 pl : ∀ p ∈ yss, ∀ x ∈ p, ∃ j : Nat, j < i ∧ x.1 = platesV j
 ap : yss.Pairwise (fun a b => ∀ x ∈ a, ∀ y ∈ b, x.1 ≠ y.1)
theorem CtB.nil (N : Nat) : CtB 0 N (List.replicate N []) := by
 refine ⟨by simp, fun p hp => ?_, fun p hp => ?_, fun p hp => ?_, ?_⟩
 · rw [List.eq_of_mem_replicate hp]; simp
 · rw [List.eq_of_mem_replicate hp]; exact ⟨fun _ h => (by cases h), .nil⟩
 · rw [List.eq_of_mem_replicate hp]; intro x hx; cases hx
 · rw [List.pairwise_replicate]; right; intro x hx; cases hx
theorem CtB.step {i N : Nat} {yss : List (List Pce)} (h : CtB i N yss) : CtB (i + 1) N yss :=
 ⟨h.len, h.c20, h.ok, fun p hp x hx => (h.pl p hp x hx).imp fun j hj => ⟨by omega, hj.2⟩, h.ap⟩
theorem platesV_ne {a b : Nat} (h : a < b) (hb : b < 1000) : platesV a ≠ platesV b := fun e => by
 have := platesV_lt (a := a) (b := b) (by omega) (by omega) (by omega)
 rw [e, (pltC_cmp.eq _ _).2 rfl] at this
 omega
theorem set_getD {α : Type} (l : List α) (k : Nat) (v d : α) (j : Nat) (hj : j < l.length) : (l.set k v).getD j d = if k = j then v else l.getD j d := by
 rw [List.getD_eq_getElem?_getD, List.getD_eq_getElem?_getD, List.getElem?_set]
 split
 · rename_i e; subst e; simp [hj]
 · rfl
theorem CtB.put {i N k : Nat} {yss : List (List Pce)} (h : CtB i N yss) (hi : i < 1000) (hk : k < N) (h20 : (yss.getD k []).length < 20) {w c : Int} (hw : 1 ≤ w ∧ w ≤ 999) (hc : 0 ≤ c ∧ c ≤ 4) : CtB (i + 1) N (yss.set k (yss.getD k [] ++ [(platesV i, w, c)])) := by
 obtain ⟨h1, h2, h3, h4, h5⟩ := h
 have hmem : yss.getD k [] ∈ yss := getD_mem (by omega)
 have key : ∀ p ∈ yss.set k (yss.getD k [] ++ [(platesV i, w, c)]), p ∈ yss ∨ p = yss.getD k [] ++ [(platesV i, w, c)] := fun p hp => by
  rcases List.mem_or_eq_of_mem_set hp with h | h
  · exact .inl h
  · exact .inr h
 refine ⟨by simp [h1], fun p hp => ?_, fun p hp => ?_, fun p hp x hx => ?_, ?_⟩
 · rcases key p hp with h | h
   · exact h2 p h
   · rw [h, List.length_append, List.length_singleton]; omega
 · rcases key p hp with h | h
   · exact h3 p h
   · subst h
     refine ⟨fun x hx => ?_, ?_⟩
     · rcases List.mem_append.1 hx with hx | hx
       · exact (h3 _ hmem).ok x hx
       · rw [List.mem_singleton.1 hx]
         unfold okPc inV
         simp only [platesV_ok, Bool.and_eq_true, decide_eq_true_eq, true_and]
         omega
     · rw [List.pairwise_append]
       refine ⟨(h3 _ hmem).srt, List.pairwise_singleton _ _, fun x hx y hy => ?_⟩
       rw [List.mem_singleton.1 hy]
       obtain ⟨j, hj, e⟩ := h4 _ hmem x hx
       rw [e]
       exact platesV_lt (by omega) (by omega) (by omega)
 · rcases key p hp with h | h
   · exact (h4 p h x hx).imp fun j hj => ⟨by omega, hj.2⟩
   · subst h
     rcases List.mem_append.1 hx with hx | hx
     · exact (h4 _ hmem x hx).imp fun j hj => ⟨by omega, hj.2⟩
     · rw [List.mem_singleton.1 hx]; exact ⟨i, by omega, rfl⟩
 · rw [pw_getD []] at h5 ⊢
   intro a b hab hb x hx y hy
   rw [List.length_set] at hb
   rw [set_getD _ _ _ _ _ (by omega)] at hx hy
   have hA : yss.getD a [] ∈ yss := getD_mem (by omega)
   have hB : yss.getD b [] ∈ yss := getD_mem hb
   by_cases ea : k = a
   · rw [if_pos ea] at hx
     rw [if_neg (by omega)] at hy
     rcases List.mem_append.1 hx with hx | hx
     · rw [ea] at hx; exact h5 a b hab hb x hx y hy
     · rw [List.mem_singleton.1 hx]
       obtain ⟨j, hj, e⟩ := h4 _ hB y hy
       rw [e]; exact (platesV_ne hj hi).symm
   · rw [if_neg ea] at hx
     by_cases eb : k = b
     · rw [if_pos eb] at hy
       rcases List.mem_append.1 hy with hy | hy
       · rw [eb] at hy; exact h5 a b hab hb x hx y hy
       · rw [List.mem_singleton.1 hy]
         obtain ⟨j, hj, e⟩ := h4 _ hA x hx
         rw [e]; exact platesV_ne hj hi
     · rw [if_neg eb] at hy
       exact h5 a b hab hb x hx y hy
theorem zipS_len {xs : List Cnt} {yss : List (List Pce)} (h : yss.length = xs.length) : ((xs.zip yss).map (fun q => setPcs q.1 q.2)).length = xs.length := by simp [h]
theorem zipS_getD {xs : List Cnt} {yss : List (List Pce)} (h : yss.length = xs.length) {i : Nat} (hi : i < xs.length) : ((xs.zip yss).map (fun q => setPcs q.1 q.2)).getD i ct0 = setPcs (xs.getD i ct0) (yss.getD i []) := by
 simp [List.getD_eq_getElem?_getD, hi, h]
theorem CtsR.mk' {most n nm k : Int} {i : Nat} {xs : List Cnt} {yss : List (List Pce)} (hA : CtA most k nm xs) (hk : 0 ≤ k) (hm : most ≤ 24) (hB : CtB i xs.length yss) (hi : (i : Int) ≤ n ∨ i = 0) : CtsR most n ((xs.zip yss).map (fun q => setPcs q.1 q.2)) := by
 obtain ⟨il, in0, in1, iok, inum, ipos⟩ := hA
 obtain ⟨h1, h2, h3, h4, h5⟩ := hB
 have hl := zipS_len h1
 have hg : ∀ c ∈ (xs.zip yss).map (fun q => setPcs q.1 q.2), ∃ x ∈ xs, ∃ p ∈ yss, c = setPcs x p := fun c hc => by
  obtain ⟨q, hq, rfl⟩ := List.mem_map.1 hc
  exact ⟨q.1, (List.of_mem_zip (a := q.1) (b := q.2) hq).1, q.2, (List.of_mem_zip (a := q.1) (b := q.2) hq).2, rfl⟩
 refine ⟨⟨by omega, fun c hc => ?_, (pw_getD ct0).2 fun a b hab hb => ?_, (pw_getD ct0).2 fun a b hab hb => ?_, (pw_getD ct0).2 fun a b hab hb => ?_⟩, by omega, fun c hc x hx => ?_, fun c hc => ?_⟩
 · obtain ⟨x, hx, p, hp, rfl⟩ := hg c hc
   exact ⟨(iok x hx).1, Nat.le_trans (h2 p hp) (by omega), h3 p hp⟩
 · rw [hl] at hb
   rw [zipS_getD (i := a) h1 (by omega), zipS_getD (i := b) h1 hb]
   exact (pw_getD ct0).1 inum a b hab hb
 · rw [hl] at hb
   rw [zipS_getD (i := a) h1 (by omega), zipS_getD (i := b) h1 hb]
   intro hp he
   have hp : (xs.getD b ct0).pos ≠ 0 := hp
   have he : (xs.getD a ct0).pos = (xs.getD b ct0).pos := he
   have := ipos a (by omega)
   have := ipos b hb
   omega
 · rw [hl] at hb
   rw [zipS_getD (i := a) h1 (by omega), zipS_getD (i := b) h1 hb]
   exact (pw_getD []).1 h5 a b hab (by omega)
 · obtain ⟨x0, hx0, p, hp, rfl⟩ := hg c hc
   obtain ⟨j, hj, e⟩ := h4 p hp x hx
   exact ⟨j, by omega, e⟩
 · obtain ⟨x0, hx0, p, hp, rfl⟩ := hg c hc
   exact (iok x0 hx0).2.2.2
end Go.Proofs.YthlomeneidophaaGreat

/- The generators of empty containers and of spoilt ones. -/
set_option linter.unusedSimpArgs false
set_option linter.unusedVariables false
set_option maxRecDepth 100000
set_option maxHeartbeats 8000000
namespace Go.Proofs.YthlomeneidophaaGreat
open Go.Ev

attribute [local go_sem] List.set_cons_succ List.set_cons_zero List.getD_cons_succ List.getD_cons_zero List.set_nil
def empC (i j : Nat) : Cnt := ((i : Int) + 1, fltsV j, 31, 500, 20, (i : Int) + 1, 0, [])
/-- What Empties gives. -/
structure EmpR (most : Int) (l : List Cnt) : Prop where
 len : (l.length : Int) ≤ most
 at_ : ∀ i, i < l.length → ∃ j : Nat, j < 3 ∧ l.getD i ct0 = empC i j
theorem EmpR.ok {most : Int} {l : List Cnt} (h : EmpR most l) (hm : most ≤ 24) : CtsOk l := by
 have hl := h.len
 have hp : ∀ i j : Nat, i < 24 → propC (empC i j) = true := fun i j hi => by
  unfold propC inV empC
  simp only [Cnt.num, Cnt.flt, Cnt.cats, Cnt.lim, Cnt.most, Cnt.pos, Cnt.arm, fltsV_ok, Bool.and_eq_true, decide_eq_true_eq, and_true]
  omega
 refine ⟨by omega, fun c hc => ?_, (pw_getD ct0).2 fun a b hab hb => ?_, (pw_getD ct0).2 fun a b hab hb => ?_, (pw_getD ct0).2 fun a b hab hb => ?_⟩
 · obtain ⟨i, hi, rfl⟩ := getD_ct hc
   obtain ⟨j, _, e⟩ := h.at_ i hi
   rw [e]
   exact ⟨hp i j (by omega), (by show (0 : Nat) ≤ 60; omega), fun x hx => (by cases hx), .nil⟩
 · obtain ⟨j, _, e⟩ := h.at_ a (by omega)
   obtain ⟨k, _, e2⟩ := h.at_ b hb
   rw [e, e2]; show ((a : Int) + 1) < (b : Int) + 1; omega
 · obtain ⟨j, _, e⟩ := h.at_ a (by omega)
   obtain ⟨k, _, e2⟩ := h.at_ b hb
   rw [e, e2]; intro _ hq
   have hq : (a : Int) + 1 = (b : Int) + 1 := hq
   omega
 · obtain ⟨j, _, e⟩ := h.at_ a (by omega)
   rw [e]; intro x hx; cases hx
def con6 : RCon := { ps := [.p 63 ySR, .d false (.int .i64)], rs := [.o 68 yCT], pre := fun (x : Src × Int × Unit) => 0 ≤ x.1.2 ∧ 0 ≤ x.2.1 ∧ x.2.1 ≤ 24, rel := fun (x : Src × Int × Unit) (y : List Cnt × Unit) (z : Src × Int × Unit) => 0 ≤ z.1.2 ∧ EmpR x.2.1 y.1 }
theorem c6 : RCtrOk Tryz.prog 6 con6.rctr :=
 rcon_sound (G := ⟨[(7, con7.ctr), (21, con21.ctr)], [], [], []⟩) tab_ok (EnvOk.cons c7 has7 (EnvOk.cons c21 has21 EnvOk.nil)) rfl Tryz.func6 rfl con6 4211 (by kernel_rfl) (by decide) (by decide) rfl (by decide) rfl (by
  rintro ⟨⟨(s : List Int), (a : Int)⟩, (most : Int), _⟩ hpre hwf X hT hG hk hK
  (simp -implicitDefEqProofs only [go_sem, Bool.not_eq_true', Bool.not_eq_false', Bool.or_eq_true, Bool.or_eq_false_iff, Bool.and_eq_true, Bool.and_eq_false_iff, decide_eq_true_eq, decide_eq_false_iff_not, Classical.not_not, not_or, maxLen, con6, con7, con21, hT, hG, hk, hK, Tryz.results6] at hwf ⊢); (try simp (disch := decide +kernel) only [drawn, true_and, and_true])
  obtain ⟨h1, h2, h3⟩ : 0 ≤ a ∧ 0 ≤ most ∧ most ≤ 24 := hpre
  have hs1 : 0 ≤ (Src.step (s, a)).snd := step_pos h1
  have hkb := goMod_bd (Src.raw (s, a)) (most + 1) (by omega)
  generalize goMod (Src.raw (s, a)) (most + 1) = K at hkb ⊢
  generalize Src.step (s, a) = S1 at hs1 ⊢
  obtain ⟨s1, a1⟩ := S1
  (repeat' (with_reducible (first | refine And.intro ?_ ?_ | intro _))) <;> (try (first | with_reducible (first | done | assumption | omega | contradiction) | decide))
  refine evk_loop ⟨{ q : Src × List Cnt × Int // 0 ≤ q.1.2 ∧ EmpR (most - q.2.2) q.2.1 ∧ 0 ≤ q.2.2 }, 1000, fun q => [(0, .one (.loc 0 0)), (5, .one (.row 64)), (6, .one (.int .i64 q.1.2.2))],
   fun q => [(0, .cells 63 [.sl (.int .i64) q.1.1.1 false, .int .i64 q.1.1.2]), (64, .row 68 yCT q.1.2.1)], fun q => q.1.2.2.toNat⟩ ⟨((s1, a1), [], K), hs1, ⟨by simp; omega, fun i hi => (by simp at hi)⟩, hkb.1⟩ ?_ ?_
  · simp only [go_sem]
    try (first | rfl | exact ⟨rfl, rfl⟩ | (and_intros <;> first | trivial | rfl | omega))
  · rintro ⟨⟨⟨s, a⟩, l, k⟩, (h1 : 0 ≤ a), (hI : EmpR (most - k) l), (hk0 : 0 ≤ k)⟩
    (simp -implicitDefEqProofs only [go_sem, Bool.not_eq_true', Bool.not_eq_false', Bool.or_eq_true, Bool.or_eq_false_iff, Bool.and_eq_true, Bool.and_eq_false_iff, decide_eq_true_eq, decide_eq_false_iff_not, Classical.not_not, not_or, maxLen, con6, con7, con21, hT, hG, hk, hK, Tryz.results6]); (try simp (disch := decide +kernel) only [drawn, true_and, and_true])
    have hl := hI.len
    have p1 : 0 ≤ (Src.step (s, a)).snd := step_pos h1
    have r1 := goMod_bd (Src.raw (s, a)) 3 (by omega)
    generalize Src.step (s, a) = S1 at p1 ⊢
    obtain ⟨s1, a1⟩ := S1
    obtain ⟨j, hj⟩ : ∃ j : Nat, goMod (Src.raw (s, a)) 3 = j := ⟨(goMod (Src.raw (s, a)) 3).toNat, by omega⟩
    rw [hj] at r1 ⊢
    (repeat' (with_reducible (first | refine And.intro ?_ ?_ | intro _))) <;> (try (first | with_reducible (first | done | assumption | omega | contradiction) | decide))
    all_goals first
     | (refine fin_lp ⟨((s1, a1), l ++ [empC l.length j], k - 1), p1, ⟨?_, fun i hi => ?_⟩, (by show 0 ≤ k - 1; omega)⟩ ?_ (by dsimp only; omega)
        · rw [List.length_append, List.length_singleton]; dsimp only; omega
        · rw [List.length_append, List.length_singleton] at hi
          by_cases e : i < l.length
          · rw [List.getD_eq_getElem?_getD, List.getElem?_append_left e, ← List.getD_eq_getElem?_getD]; exact hI.at_ i e
          · have e : i = l.length := by omega
            subst e
            rw [List.getD_eq_getElem?_getD, List.getElem?_append_right (Nat.le_refl _), Nat.sub_self]
            exact ⟨j, by omega, rfl⟩
        · simp only [go_sem]
          try (first | rfl | exact ⟨rfl, rfl⟩ | (and_intros <;> first | trivial | rfl | omega))
          done)
     | exact ⟨(l, ()), ((s, a), most, ()), ⟨h1, ⟨(by show (l.length : Int) ≤ most; omega), hI.at_⟩⟩, rfl, rfl, rfl⟩
     | fail)
end Go.Proofs.YthlomeneidophaaGreat
