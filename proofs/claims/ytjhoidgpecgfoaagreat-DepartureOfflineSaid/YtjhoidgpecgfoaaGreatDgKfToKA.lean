/- Containers: lists of them. -/
import Derived.Test.YtjhoidgpecgfoaaGreatDgKcToKD
set_option linter.unusedSimpArgs false
set_option linter.unusedVariables false
set_option maxRecDepth 100000
set_option maxHeartbeats 4000000
namespace Go.Proofs.YtjhoidgpecgfoaaGreat
open Go.Ev

def setK (kt : Ty) (l : List kt.den) : List (kt.den × Bool) := l.foldl (fun m x => mset (kt := kt) m x true) []
theorem setK_push (kt : Ty) (l : List kt.den) (x : kt.den) : setK kt (l ++ [x]) = mset (kt := kt) (setK kt l) x true := by
 unfold setK; rw [List.foldl_append]; rfl
theorem mget_mset {kt : Ty} {β : Type} (hk : ∀ a b : kt.den, keyEq kt a b = true ↔ a = b) (m : List (kt.den × β)) (x y : kt.den) (v : β) : mget (kt := kt) (mset (kt := kt) m y v) x = if keyEq kt x y = true then some v else mget (kt := kt) m x := by
 induction m with
 | nil => rfl
 | cons p m ih =>
   obtain ⟨k, w⟩ := p
   simp only [mset]
   by_cases h1 : keyEq kt y k = true
   · rw [if_pos h1]
     have e1 := (hk y k).1 h1
     subst e1
     simp only [mget]
     by_cases h2 : keyEq kt x y = true <;> simp [h2]
   · rw [if_neg h1]
     simp only [mget]
     by_cases h2 : keyEq kt x k = true
     · have e2 := (hk x k).1 h2
       subst e2
       have h3 : ¬ keyEq kt x y = true := fun h => h1 ((hk y x).2 ((hk x y).1 h).symm)
       simp [h2, h3]
     · simp only [if_neg h2]; exact ih
theorem setK_in {kt : Ty} (hk : ∀ a b : kt.den, keyEq kt a b = true ↔ a = b) (x : kt.den) : ∀ (l : List kt.den), (mget (kt := kt) (setK kt l) x).getD false = true ↔ x ∈ l := by
 have key : ∀ (l : List kt.den) (m : List (kt.den × Bool)), (mget (kt := kt) (l.foldl (fun m x => mset (kt := kt) m x true) m) x).getD false = true ↔ (x ∈ l ∨ (mget (kt := kt) m x).getD false = true) := by
  intro l
  induction l with
  | nil => intro m; simp
  | cons y l ih =>
    intro m
    rw [List.foldl_cons, ih, mget_mset hk]
    by_cases h : keyEq kt x y = true
    · rw [if_pos h]; simp [(hk x y).1 h]
    · rw [if_neg h]
      have : x ≠ y := fun e => h ((hk x y).2 e)
      simp [this]
 intro l
 rw [setK, key]
 simp [mget]
theorem keyEq_plt (a b : Plt) : keyEq yPL a b = true ↔ a = b := by
 obtain ⟨a1, a2, a3⟩ := a
 obtain ⟨b1, b2, b3⟩ := b
 simp [keyEq]
theorem keyEq_int (a b : Int) : keyEq (.int .i64) a b = true ↔ a = b := by simp [keyEq]
abbrev Spt := Flt × Int
theorem keyEq_spt (a b : Spt) : keyEq (.pair yFL (.int .i64)) a b = true ↔ a = b := by
 obtain ⟨⟨a1, a2, a3, a4⟩, a5⟩ := a
 obtain ⟨⟨b1, b2, b3, b4⟩, b5⟩ := b
 simp [keyEq, and_assoc]

def dupP (l : List Cnt) (i : Nat) : Prop := (l.getD i ct0).pos ≠ 0 ∧ ∃ k, k < i ∧ (l.getD k ct0).pos = (l.getD i ct0).pos ∧ (l.getD k ct0).flt = (l.getD i ct0).flt
def dupB (l : List Cnt) (i : Nat) : Prop := ∃ x ∈ (l.getD i ct0).pcs, ∃ k, k < i ∧ holdsV (l.getD k ct0) x.1 = true
def dupPb (l : List Cnt) (i : Nat) : Bool := decide ((l.getD i ct0).pos ≠ 0) && (List.range i).any (fun k => decide ((l.getD k ct0).pos = (l.getD i ct0).pos) && decide ((l.getD k ct0).flt = (l.getD i ct0).flt))
def dupBb (l : List Cnt) (i : Nat) : Bool := (l.getD i ct0).pcs.any (fun x => (List.range i).any (fun k => holdsV (l.getD k ct0) x.1))
instance decDupP (l : List Cnt) (i : Nat) : Decidable (dupP l i) := decidable_of_iff (dupPb l i = true) (by
 unfold dupPb dupP
 simp only [Bool.and_eq_true, decide_eq_true_eq, List.any_eq_true, List.mem_range])
instance decDupB (l : List Cnt) (i : Nat) : Decidable (dupB l i) := decidable_of_iff (dupBb l i = true) (by
 unfold dupBb dupB
 simp only [List.any_eq_true, List.mem_range])
def ckErr (l : List Cnt) (i : Nat) : Int :=
 if ctErr (l.getD i ct0) ≠ 0 then ctErr (l.getD i ct0) else if 0 < i ∧ (l.getD i ct0).num ≤ (l.getD (i - 1) ct0).num then 9 else if dupP l i then 7 else if dupB l i then 5 else 0
def checkV (l : List Cnt) : Int := if 24 < l.length then 2 else fErr (ckErr l) l.length
theorem ckErr_v {l : List Cnt} {i : Nat} (h : ctErr (l.getD i ct0) ≠ 0) : ckErr l i = ctErr (l.getD i ct0) := by unfold ckErr; rw [if_pos h]
theorem ckErr_9 {l : List Cnt} {i : Nat} (h : ctErr (l.getD i ct0) = 0) (h1 : 0 < i) (h2 : (l.getD i ct0).num ≤ (l.getD (i - 1) ct0).num) : ckErr l i = 9 := by
 unfold ckErr; rw [if_neg (by rw [h]; simp), if_pos ⟨h1, h2⟩]
theorem ckErr_7 {l : List Cnt} {i : Nat} (h : ctErr (l.getD i ct0) = 0) (h1 : ¬ (0 < i ∧ (l.getD i ct0).num ≤ (l.getD (i - 1) ct0).num)) (h2 : dupP l i) : ckErr l i = 7 := by
 unfold ckErr; rw [if_neg (by rw [h]; simp), if_neg h1, if_pos h2]
theorem ckErr_5 {l : List Cnt} {i : Nat} (h : ctErr (l.getD i ct0) = 0) (h1 : ¬ (0 < i ∧ (l.getD i ct0).num ≤ (l.getD (i - 1) ct0).num)) (h2 : ¬ dupP l i) (h3 : dupB l i) : ckErr l i = 5 := by
 unfold ckErr; rw [if_neg (by rw [h]; simp), if_neg h1, if_neg h2, if_pos h3]
theorem ckErr_0 {l : List Cnt} {i : Nat} (h : ctErr (l.getD i ct0) = 0) (h1 : ¬ (0 < i ∧ (l.getD i ct0).num ≤ (l.getD (i - 1) ct0).num)) (h2 : ¬ dupP l i) (h3 : ¬ dupB l i) : ckErr l i = 0 := by
 unfold ckErr; rw [if_neg (by rw [h]; simp), if_neg h1, if_neg h2, if_neg h3]
theorem ckErr_z {l : List Cnt} {i : Nat} (h : ckErr l i = 0) : ctErr (l.getD i ct0) = 0 ∧ (0 < i → (l.getD (i - 1) ct0).num < (l.getD i ct0).num) ∧ ¬ dupP l i ∧ ¬ dupB l i := by
 unfold ckErr at h
 split at h
 · rename_i h1; exact absurd h h1
 · rename_i h1
   split at h
   · omega
   · rename_i h2
     split at h
     · omega
     · rename_i h3
       split at h
       · omega
       · rename_i h4
         exact ⟨Classical.not_not.1 h1, fun h0 => by
          apply Classical.byContradiction
          intro hn
          exact h2 ⟨h0, by omega⟩, h3, h4⟩
theorem checkV_err {l : List Cnt} {i : Nat} (hl : ¬ 24 < l.length) (hz : ∀ k, k < i → ckErr l k = 0) (hi : i < l.length) (he : ckErr l i ≠ 0) : checkV l = ckErr l i := by
 unfold checkV; rw [if_neg hl, fErr_err hz hi he]
theorem checkV_ok {l : List Cnt} (hl : ¬ 24 < l.length) (hz : ∀ k, k < l.length → ckErr l k = 0) : checkV l = 0 := by
 unfold checkV; rw [if_neg hl, fErr_ok hz]
theorem checkV_zero {l : List Cnt} (h : checkV l = 0) : l.length ≤ 24 ∧ ∀ k, k < l.length → ckErr l k = 0 := by
 unfold checkV at h
 split at h
 · omega
 · exact ⟨by omega, fErr_zero h⟩
def takL (l : List Cnt) : List Spt := (l.filter (fun c => decide (c.pos ≠ 0))).map (fun c => (c.flt, c.pos))
def takP (l : List Cnt) : List Plt := l.flatMap (fun c => c.pcs.map (fun x => x.1))
theorem takL_in {l : List Cnt} {i : Nat} (hi : i < l.length) : (l.getD i ct0).pos ≠ 0 → (((l.getD i ct0).flt, (l.getD i ct0).pos) ∈ takL (l.take i) ↔ dupP l i) := by
 intro h0
 unfold takL dupP
 rw [List.mem_map]
 constructor
 · rintro ⟨c, hc, he⟩
   obtain ⟨hc1, hc2⟩ := List.mem_filter.1 hc
   obtain ⟨k, hk, rfl⟩ := List.getElem_of_mem hc1
   rw [List.length_take] at hk
   refine ⟨h0, k, by omega, ?_⟩
   rw [List.getElem_take] at he
   rw [getD_lt (show k < l.length by omega)]
   simp only [Prod.mk.injEq] at he
   exact ⟨he.2, he.1⟩
 · rintro ⟨_, k, hk, h1, h2⟩
   refine ⟨l.getD k ct0, List.mem_filter.2 ⟨?_, by rw [decide_eq_true_eq, h1]; exact h0⟩, by rw [h1, h2]⟩
   rw [getD_lt (by omega)]
   rw [List.mem_take_iff_getElem]
   exact ⟨k, by omega, rfl⟩
theorem takL_succ {l : List Cnt} {i : Nat} (hi : i < l.length) : takL (l.take (i + 1)) = if (l.getD i ct0).pos ≠ 0 then takL (l.take i) ++ [((l.getD i ct0).flt, (l.getD i ct0).pos)] else takL (l.take i) := by
 unfold takL
 rw [List.take_succ_eq_append_getElem hi, List.filter_append, List.map_append, ← getD_lt hi (d := ct0)]
 by_cases h : (l.getD i ct0).pos ≠ 0
 · rw [if_pos h, List.filter_cons_of_pos (by simpa using h)]; rfl
 · rw [if_neg h, List.filter_cons_of_neg (by simpa using h)]; simp
theorem takP_succ {l : List Cnt} {i : Nat} (hi : i < l.length) : takP (l.take (i + 1)) = takP (l.take i) ++ (l.getD i ct0).pcs.map (fun x => x.1) := by
 unfold takP
 rw [List.take_succ_eq_append_getElem hi, List.flatMap_append, ← getD_lt hi (d := ct0)]
 simp
theorem holdsV_in {c : Cnt} {p : Plt} : holdsV c p = true ↔ p ∈ c.pcs.map (fun x => x.1) := by
 unfold holdsV
 rw [List.any_eq_true, List.mem_map]
 simp
theorem takP_in {l : List Cnt} {i : Nat} {p : Plt} (hi : i ≤ l.length) : p ∈ takP (l.take i) ↔ ∃ k, k < i ∧ holdsV (l.getD k ct0) p = true := by
 unfold takP
 rw [List.mem_flatMap]
 constructor
 · rintro ⟨c, hc, hp⟩
   obtain ⟨k, hk, rfl⟩ := List.getElem_of_mem hc
   rw [List.length_take] at hk
   refine ⟨k, by omega, holdsV_in.2 ?_⟩
   rw [getD_lt (show k < l.length by omega)]
   rw [List.getElem_take] at hp
   exact hp
 · rintro ⟨k, hk, hp⟩
   refine ⟨l.getD k ct0, ?_, holdsV_in.1 hp⟩
   rw [getD_lt (by omega), List.mem_take_iff_getElem]
   exact ⟨k, by omega, rfl⟩
theorem pcs_apart {l : List Pce} (h : ∀ i, i < l.length → okPc (l.getD i pc0) = true ∧ (0 < i → pltC (l.getD (i - 1) pc0).1 (l.getD i pc0).1 < 0)) : ∀ j k, j < k → k < l.length → pltC (l.getD j pc0).1 (l.getD k pc0).1 < 0 := by
 intro j k hjk
 induction k with
 | zero => omega
 | succ k ih =>
   intro hk
   have h1 := (h (k + 1) hk).2 (by omega)
   rw [show k + 1 - 1 = k by omega] at h1
   by_cases e : j = k
   · subst e; exact h1
   · exact pltC_cmp.trans _ _ _ (ih (by omega) (by omega)) h1
theorem pcs_ne {l : List Pce} (h : ∀ i, i < l.length → okPc (l.getD i pc0) = true ∧ (0 < i → pltC (l.getD (i - 1) pc0).1 (l.getD i pc0).1 < 0)) {k : Nat} (hk : k < l.length) : (l.getD k pc0).1 ∉ (l.take k).map (fun x => x.1) := by
 intro hm
 obtain ⟨x, hx, he⟩ := List.mem_map.1 hm
 obtain ⟨j, hj, rfl⟩ := List.getElem_of_mem hx
 rw [List.length_take] at hj
 have := pcs_apart h j k (by omega) hk
 rw [List.getElem_take, ← getD_lt (d := pc0) (show j < l.length by omega)] at he
 rw [he] at this
 have := (pltC_cmp.eq (l.getD k pc0).1 (l.getD k pc0).1).2 rfl
 omega

theorem dupB_of {l : List Cnt} {i k : Nat} {o : Cnt} (hi : i < l.length) (ho : l.getD i ct0 = o) (hk : k < o.pcs.length) (h : (o.pcs.getD k pc0).1 ∈ takP (l.take i)) : dupB l i := by
 obtain ⟨j, hj, hh⟩ := (takP_in (by omega)).1 h
 refine ⟨o.pcs.getD k pc0, ?_, j, hj, hh⟩
 rw [ho]; exact getD_mem hk
theorem dupB_no {l : List Cnt} {i : Nat} {o : Cnt} (hi : i < l.length) (ho : l.getD i ct0 = o) (h : ∀ j, j < o.pcs.length → (o.pcs.getD j pc0).1 ∉ takP (l.take i)) : ¬ dupB l i := by
 rintro ⟨x, hx, k, hk, hh⟩
 rw [ho] at hx
 obtain ⟨j, hj, rfl⟩ := mem_getD (d := pc0) hx
 exact h j hj ((takP_in (by omega)).2 ⟨k, hk, hh⟩)
theorem pcs_push {l : List Pce} {k : Nat} (hk : k < l.length) : (l.take (k + 1)).map (fun x => x.1) = (l.take k).map (fun x => x.1) ++ [(l.getD k pc0).1] := by
 rw [List.take_succ_eq_append_getElem hk, List.map_append, ← getD_lt hk (d := pc0)]; rfl
def con65 : Con := { ps := [.d false (.sl yCT)], rs := [.d false (.int .i64)], pre := fun _ => True, out := fun (x : List Cnt × Unit) => (checkV x.1, ()), nw := id }
theorem c65 : CtrOk Tryz.prog 65 con65.ctr :=
 con_sound (G := ⟨[(111, con111.ctr)], [], [], []⟩) tab_ok (EnvOk.cons c111 has111 EnvOk.nil) rfl Tryz.func65 rfl con65 18989710403364136445 (by kernel_rfl) (by decide) (by decide) rfl (by decide) rfl (by
  rintro ⟨(l : List Cnt), _⟩ hpre hwf X hT hG hk hK
  (simp -implicitDefEqProofs only [go_sem, Bool.not_eq_true', Bool.not_eq_false', Bool.or_eq_true, Bool.or_eq_false_iff, Bool.and_eq_true, Bool.and_eq_false_iff, decide_eq_true_eq, decide_eq_false_iff_not, Classical.not_not, not_or, maxLen, con65, con111, hT, hG, hk, hK, Tryz.results65] at hwf ⊢); (try simp (disch := decide +kernel) only [drawn, true_and, and_true])
  clear hwf
  refine fun _ => ⟨fun h => ?_, fun h _ => ?_⟩
  · unfold checkV; rw [if_pos (by omega)]
  · have hl : ¬ 24 < l.length := by omega
    refine evk_loop ⟨{ i : Nat // i ≤ l.length ∧ ∀ k, k < i → ckErr l k = 0 }, 1000, fun q => [(0, .one (.sl yCT l false)), (2, .one (.int .i64 0)), (3, .one (.map 70)), (4, .one (.map 71)), (16, .one (.sl yCT l false)), (17, .one (.int .i64 l.length)), (18, .one (.int .i64 q.1))], fun q => [(70, .mapb (.pair yFL (.int .i64)) .bool true false (setK (.pair yFL (.int .i64)) (takL (l.take q.1)))), (71, .mapb yPL .bool true false (setK yPL (takP (l.take q.1))))], fun q => l.length - q.1⟩ ⟨0, by omega, fun k hk => by omega⟩ ?_ ?_
    · simp only [go_sem]
      try (first | rfl | exact ⟨rfl, rfl⟩ | (and_intros <;> first | trivial | rfl | omega))
    · rintro ⟨i, (hi : i ≤ l.length), (hz : ∀ k, k < i → ckErr l k = 0)⟩
      have he := checkV_err (i := i) hl hz
      (simp -implicitDefEqProofs only [go_sem, Bool.not_eq_true', Bool.not_eq_false', Bool.or_eq_true, Bool.or_eq_false_iff, Bool.and_eq_true, Bool.and_eq_false_iff, decide_eq_true_eq, decide_eq_false_iff_not, Classical.not_not, not_or, maxLen, con65, con111, hT, hG, hk, hK, Tryz.results65]); (try simp (disch := decide +kernel) only [drawn, true_and, and_true])
      obtain ⟨o, ho⟩ : ∃ o, l.getD i ct0 = o := ⟨_, rfl⟩
      obtain ⟨u, hu⟩ : ∃ u, l.getD (i - 1) ct0 = u := ⟨_, rfl⟩
      have eo : l.getD (i : Int).toNat (0, (ByteArray.empty, 0, ByteArray.empty, 0), 0, 0, 0, 0, 0, []) = o := ho
      have eu : l.getD ((i : Int) - 1).toNat (0, (ByteArray.empty, 0, ByteArray.empty, 0), 0, 0, 0, 0, 0, []) = u := by rw [show ((i : Int) - 1).toNat = i - 1 by omega]; exact hu
      rw [eo, eu]
      have eO : (o.1, (o.2.1.1, o.2.1.2.1, o.2.1.2.2.1, o.2.1.2.2.2), o.2.2.1, o.2.2.2.1, o.2.2.2.2.1, o.2.2.2.2.2.1, o.2.2.2.2.2.2.1, o.2.2.2.2.2.2.2) = o := rfl
      have eS : ((o.2.1.1, o.2.1.2.1, o.2.1.2.2.1, o.2.1.2.2.2), o.2.2.2.2.2.1) = (o.flt, o.pos) := rfl
      try simp only [eO, eS]
      have htk := setK_in (kt := .pair yFL (.int .i64)) keyEq_spt (o.flt, o.pos) (takL (l.take i))
      (repeat' (with_reducible (first | refine And.intro ?_ ?_ | intro _))) <;> (try (first | with_reducible (first | done | assumption | omega | contradiction) | decide))
      all_goals first
       | (have h1 : ¬ ctErr o = 0 := by assumption
          have e1 : ckErr l i = ctErr o := by rw [ckErr_v (by rw [ho]; exact h1), ho]
          rw [he (by omega) (by rw [e1]; exact h1), e1]; done)
       | (have h1 : (i : Int) > 0 ∧ o.1 ≤ u.1 := by assumption
          have e1 : ckErr l i = 9 := ckErr_9 (by rw [ho]; assumption) (by omega) (by rw [ho, hu]; exact h1.2)
          rw [he (by omega) (by rw [e1]; decide), e1]; done)
       | (have h0 : ¬ o.2.2.2.2.2.1 = 0 := by assumption
          have hm := htk.1 (by assumption)
          have h9 : ¬ (0 < i ∧ (l.getD i ct0).num ≤ (l.getD (i - 1) ct0).num) := by
           rw [ho, hu]
           have hq : ¬ (i : Int) > 0 ∨ ¬ o.1 ≤ u.1 := by assumption
           rintro ⟨q1, q2⟩
           rcases hq with hq | hq
           · omega
           · exact hq q2
          have hd : dupP l i := (takL_in (by omega) (by rw [ho]; exact h0)).1 (by rw [ho]; exact hm)
          have e1 : ckErr l i = 7 := ckErr_7 (by rw [ho]; assumption) h9 hd
          rw [he (by omega) (by rw [e1]; decide), e1]; done)
       | (have h0 : ¬ o.2.2.2.2.2.1 = 0 := by assumption
          have hm := mt htk.2 (Bool.eq_false_iff.1 (by assumption))
          have hil : i < l.length := by omega
          have hc0 : ctErr o = 0 := by assumption
          have h9 : ¬ (0 < i ∧ (l.getD i ct0).num ≤ (l.getD (i - 1) ct0).num) := by
           rw [ho, hu]
           have hq : ¬ (i : Int) > 0 ∨ ¬ o.1 ≤ u.1 := by assumption
           rintro ⟨q1, q2⟩
           rcases hq with hq | hq
           · omega
           · exact hq q2
          have h7 : ¬ dupP l i := fun hd => hm (by have := (takL_in hil (by rw [ho]; exact h0)).2 hd; rw [ho] at this; exact this)
          obtain ⟨_, _, hpc⟩ := ctErr_zero hc0
          refine evk_loop ⟨{ k : Nat // k ≤ o.pcs.length ∧ ∀ j, j < k → (o.pcs.getD j pc0).1 ∉ takP (l.take i) }, 2000, fun q => [(0, .one (.sl yCT l false)), (2, .one (.int .i64 0)), (3, .one (.map 70)), (4, .one (.map 71)), (16, .one (.sl yCT l false)), (17, .one (.int .i64 l.length)), (18, .one (.int .i64 i)), (55, .one (.sl yPC o.pcs false)), (56, .one (.int .i64 o.pcs.length)), (57, .one (.int .i64 q.1))], fun q => [(70, .mapb (.pair yFL (.int .i64)) .bool true false (setK (.pair yFL (.int .i64)) (takL (l.take (i + 1))))), (71, .mapb yPL .bool true false (setK yPL (takP (l.take i) ++ (o.pcs.take q.1).map (fun x => x.1))))], fun q => o.pcs.length - q.1⟩ ⟨0, by omega, fun k hk => by omega⟩ ?_ ?_
          · simp only [go_sem]
            rw [takL_succ hil, ho]
            rw [if_pos h0]
            try simp only [List.take_zero, List.map_nil, List.append_nil]
            try (and_intros <;> first | exact (setK_push _ _ _).symm | trivial | rfl | omega)
          · rintro ⟨k, (hkl : k ≤ o.pcs.length), (hkz : ∀ j, j < k → (o.pcs.getD j pc0).1 ∉ takP (l.take i))⟩
            (simp -implicitDefEqProofs only [go_sem, Bool.not_eq_true', Bool.not_eq_false', Bool.or_eq_true, Bool.or_eq_false_iff, Bool.and_eq_true, Bool.and_eq_false_iff, decide_eq_true_eq, decide_eq_false_iff_not, Classical.not_not, not_or, maxLen, con65, con111, hT, hG, hk, hK, Tryz.results65]); (try simp (disch := decide +kernel) only [drawn, true_and, and_true])
            obtain ⟨y, hy⟩ : ∃ y, o.pcs.getD k pc0 = y := ⟨_, rfl⟩
            have ey : (o.2.2.2.2.2.2.2).getD (k : Int).toNat ((0, 0, 0), 0, 0) = y := hy
            rw [ey]
            have eP : (y.1.1, y.1.2.1, y.1.2.2) = y.1 := rfl
            try simp only [eP]
            have hin := setK_in (kt := yPL) keyEq_plt y.1 (takP (l.take i) ++ (o.pcs.take k).map (fun x => x.1))
            (repeat' (with_reducible (first | refine And.intro ?_ ?_ | intro _))) <;> (try (first | with_reducible (first | done | assumption | omega | contradiction) | decide))
            all_goals first
             | (have hm := hin.1 (by assumption)
                have hm2 : y.1 ∈ takP (l.take i) := (List.mem_append.1 hm).resolve_right (by rw [← hy]; exact pcs_ne hpc (by omega))
                have hd : dupB l i := dupB_of hil ho (k := k) (by omega) (by rw [hy]; exact hm2)
                rw [he hil (by rw [ckErr_5 (by rw [ho]; exact hc0) h9 h7 hd]; decide), ckErr_5 (by rw [ho]; exact hc0) h9 h7 hd]; done)
             | (have hm := mt hin.2 (Bool.eq_false_iff.1 (by assumption))
                refine fin_lp ⟨k + 1, by omega, lt_succ hkz (by rw [hy]; exact fun q => hm (List.mem_append_left _ q))⟩ ?_ (by dsimp only; omega)
                simp only [go_sem]
                rw [pcs_push (by omega), hy, ← List.append_assoc]
                try (and_intros <;> first | exact (setK_push _ _ _).symm | trivial | rfl | omega)
                done)
             | (have hd : ¬ dupB l i := dupB_no hil ho fun j hj => hkz j (by omega)
                refine fin_lp ⟨i + 1, by omega, lt_succ hz (ckErr_0 (by rw [ho]; exact hc0) h9 h7 hd)⟩ ?_ (by dsimp only; omega)
                simp only [go_sem]
                rw [takP_succ hil, ho, List.take_of_length_le (show o.pcs.length ≤ k by omega)]
                try (first | rfl | exact ⟨rfl, rfl⟩ | (and_intros <;> first | trivial | rfl | omega))
                done)
             | skip)
       | (have h0 : o.2.2.2.2.2.1 = 0 := by assumption
          have hil : i < l.length := by omega
          have hc0 : ctErr o = 0 := by assumption
          have h9 : ¬ (0 < i ∧ (l.getD i ct0).num ≤ (l.getD (i - 1) ct0).num) := by
           rw [ho, hu]
           have hq : ¬ (i : Int) > 0 ∨ ¬ o.1 ≤ u.1 := by assumption
           rintro ⟨q1, q2⟩
           rcases hq with hq | hq
           · omega
           · exact hq q2
          have h7 : ¬ dupP l i := fun hd => hd.1 (by rw [ho]; exact h0)
          obtain ⟨_, _, hpc⟩ := ctErr_zero hc0
          refine evk_loop ⟨{ k : Nat // k ≤ o.pcs.length ∧ ∀ j, j < k → (o.pcs.getD j pc0).1 ∉ takP (l.take i) }, 2000, fun q => [(0, .one (.sl yCT l false)), (2, .one (.int .i64 0)), (3, .one (.map 70)), (4, .one (.map 71)), (16, .one (.sl yCT l false)), (17, .one (.int .i64 l.length)), (18, .one (.int .i64 i)), (55, .one (.sl yPC o.pcs false)), (56, .one (.int .i64 o.pcs.length)), (57, .one (.int .i64 q.1))], fun q => [(70, .mapb (.pair yFL (.int .i64)) .bool true false (setK (.pair yFL (.int .i64)) (takL (l.take (i + 1))))), (71, .mapb yPL .bool true false (setK yPL (takP (l.take i) ++ (o.pcs.take q.1).map (fun x => x.1))))], fun q => o.pcs.length - q.1⟩ ⟨0, by omega, fun k hk => by omega⟩ ?_ ?_
          · simp only [go_sem]
            rw [takL_succ hil, ho]
            rw [if_neg (fun q => q h0)]
            try simp only [List.take_zero, List.map_nil, List.append_nil]
            try (and_intros <;> first | exact (setK_push _ _ _).symm | trivial | rfl | omega)
          · rintro ⟨k, (hkl : k ≤ o.pcs.length), (hkz : ∀ j, j < k → (o.pcs.getD j pc0).1 ∉ takP (l.take i))⟩
            (simp -implicitDefEqProofs only [go_sem, Bool.not_eq_true', Bool.not_eq_false', Bool.or_eq_true, Bool.or_eq_false_iff, Bool.and_eq_true, Bool.and_eq_false_iff, decide_eq_true_eq, decide_eq_false_iff_not, Classical.not_not, not_or, maxLen, con65, con111, hT, hG, hk, hK, Tryz.results65]); (try simp (disch := decide +kernel) only [drawn, true_and, and_true])
            obtain ⟨y, hy⟩ : ∃ y, o.pcs.getD k pc0 = y := ⟨_, rfl⟩
            have ey : (o.2.2.2.2.2.2.2).getD (k : Int).toNat ((0, 0, 0), 0, 0) = y := hy
            rw [ey]
            have eP : (y.1.1, y.1.2.1, y.1.2.2) = y.1 := rfl
            try simp only [eP]
            have hin := setK_in (kt := yPL) keyEq_plt y.1 (takP (l.take i) ++ (o.pcs.take k).map (fun x => x.1))
            (repeat' (with_reducible (first | refine And.intro ?_ ?_ | intro _))) <;> (try (first | with_reducible (first | done | assumption | omega | contradiction) | decide))
            all_goals first
             | (have hm := hin.1 (by assumption)
                have hm2 : y.1 ∈ takP (l.take i) := (List.mem_append.1 hm).resolve_right (by rw [← hy]; exact pcs_ne hpc (by omega))
                have hd : dupB l i := dupB_of hil ho (k := k) (by omega) (by rw [hy]; exact hm2)
                rw [he hil (by rw [ckErr_5 (by rw [ho]; exact hc0) h9 h7 hd]; decide), ckErr_5 (by rw [ho]; exact hc0) h9 h7 hd]; done)
             | (have hm := mt hin.2 (Bool.eq_false_iff.1 (by assumption))
                refine fin_lp ⟨k + 1, by omega, lt_succ hkz (by rw [hy]; exact fun q => hm (List.mem_append_left _ q))⟩ ?_ (by dsimp only; omega)
                simp only [go_sem]
                rw [pcs_push (by omega), hy, ← List.append_assoc]
                try (and_intros <;> first | exact (setK_push _ _ _).symm | trivial | rfl | omega)
                done)
             | (have hd : ¬ dupB l i := dupB_no hil ho fun j hj => hkz j (by omega)
                refine fin_lp ⟨i + 1, by omega, lt_succ hz (ckErr_0 (by rw [ho]; exact hc0) h9 h7 hd)⟩ ?_ (by dsimp only; omega)
                simp only [go_sem]
                rw [takP_succ hil, ho, List.take_of_length_le (show o.pcs.length ≤ k by omega)]
                try (first | rfl | exact ⟨rfl, rfl⟩ | (and_intros <;> first | trivial | rfl | omega))
                done)
             | skip)
       | (rw [checkV_ok hl (fun k hk => hz k (by omega))]; done)
       | skip)
end Go.Proofs.YtjhoidgpecgfoaaGreat

/- Containers: lists of them, continued. -/
set_option linter.unusedSimpArgs false
set_option linter.unusedVariables false
set_option maxRecDepth 100000
set_option maxHeartbeats 4000000
namespace Go.Proofs.YtjhoidgpecgfoaaGreat
open Go.Ev

instance kdPlt : DecidableEq Plt := instDecidableEqProd
instance kdPce : DecidableEq Pce := instDecidableEqProd
instance kdF1 : DecidableEq (ByteArray × Int) := instDecidableEqProd
instance kdF2 : DecidableEq (Int × ByteArray × Int) := instDecidableEqProd
instance kdFlt : DecidableEq Flt := instDecidableEqProd
instance kdC1 : DecidableEq (Int × List Pce) := instDecidableEqProd
instance kdC2 : DecidableEq (Int × Int × List Pce) := instDecidableEqProd
instance kdC3 : DecidableEq (Int × Int × Int × List Pce) := instDecidableEqProd
instance kdC4 : DecidableEq (Int × Int × Int × Int × List Pce) := instDecidableEqProd
instance kdC5 : DecidableEq (Int × Int × Int × Int × Int × List Pce) := instDecidableEqProd
instance kdC6 : DecidableEq (Flt × Int × Int × Int × Int × Int × List Pce) := instDecidableEqProd
instance kdCnt : DecidableEq Cnt := instDecidableEqProd
def numIdx (l : List Cnt) (n : Int) : Int := idxV (fun c => decide (c.num = n)) l
def con68 : Con := { ps := [.d false (.sl yCT)], rs := [.o 107 yCT], pre := fun x => x.1.length ≤ 100000, out := fun x => (x.1, ()), nw := id }
theorem c68 : CtrOk Tryz.prog 68 con68.ctr :=
 con_sound (G := ⟨[], [], [], []⟩) tab_ok EnvOk.nil rfl Tryz.func68 rfl con68 21 (by kernel_rfl) (by decide) (by decide) rfl (by decide) rfl (by
  rintro ⟨(l : List Cnt), _⟩ hpre hwf X hT hG hk hK
  (simp -implicitDefEqProofs only [go_sem, con68, hT, hG, hk, hK, Tryz.results68] at hwf ⊢)
  intro a ha
  have hpre : l.length ≤ 100000 := hpre
  refine ⟨fun h => (List.eq_nil_of_length_eq_zero (ha h)).symm, fun _ => by omega⟩)
def con70 : Con := { ps := [.d false (.sl yPC)], rs := [.o 79 yPC], pre := fun x => x.1.length ≤ 100000, out := fun x => (x.1, ()), nw := id }
theorem c70 : CtrOk Tryz.prog 70 con70.ctr :=
 con_sound (G := ⟨[], [], [], []⟩) tab_ok EnvOk.nil rfl Tryz.func70 rfl con70 21 (by kernel_rfl) (by decide) (by decide) rfl (by decide) rfl (by
  rintro ⟨(l : List Pce), _⟩ hpre hwf X hT hG hk hK
  (simp -implicitDefEqProofs only [go_sem, con70, hT, hG, hk, hK, Tryz.results70] at hwf ⊢)
  intro a ha
  have hpre : l.length ≤ 100000 := hpre
  refine ⟨fun h => (List.eq_nil_of_length_eq_zero (ha h)).symm, fun _ => by omega⟩)
end Go.Proofs.YtjhoidgpecgfoaaGreat

/- Valid containers, in plain words. -/
set_option linter.unusedSimpArgs false
set_option linter.unusedVariables false
set_option maxRecDepth 100000
set_option maxHeartbeats 4000000
namespace Go.Proofs.YtjhoidgpecgfoaaGreat
open Go.Ev

theorem pw_getD {α : Type} {R : α → α → Prop} (d : α) {l : List α} : l.Pairwise R ↔ ∀ i j, i < j → j < l.length → R (l.getD i d) (l.getD j d) := by
 rw [List.pairwise_iff_getElem]
 constructor
 · intro h i j hij hj
   have := h i j (by omega) hj hij
   simpa [List.getD_eq_getElem?_getD, hj, (by omega : i < l.length)] using this
 · intro h i j hi hj hij
   have := h i j hij hj
   simpa [List.getD_eq_getElem?_getD, hj, hi] using this
theorem getD_pc {l : List Pce} {x : Pce} (h : x ∈ l) : ∃ i, i < l.length ∧ l.getD i pc0 = x := by
 obtain ⟨i, hi, rfl⟩ := List.getElem_of_mem h
 exact ⟨i, hi, by simp [hi]⟩
theorem getD_ct {l : List Cnt} {x : Cnt} (h : x ∈ l) : ∃ i, i < l.length ∧ l.getD i ct0 = x := by
 obtain ⟨i, hi, rfl⟩ := List.getElem_of_mem h
 exact ⟨i, hi, by simp [hi]⟩
structure PcsOk (l : List Pce) : Prop where
 ok : ∀ x ∈ l, okPc x = true
 srt : l.Pairwise (fun a b => pltC a.1 b.1 < 0)
theorem ctErr_iff {c : Cnt} : ctErr c = 0 ↔ propC c = true ∧ c.pcs.length ≤ 60 ∧ PcsOk c.pcs := by
 constructor
 · intro h
   obtain ⟨h1, h2, h3⟩ := ctErr_zero h
   refine ⟨h1, h2, fun x hx => ?_, (pw_getD pc0).2 (pcs_apart h3)⟩
   obtain ⟨i, hi, rfl⟩ := getD_pc hx
   exact (h3 i hi).1
 · rintro ⟨h1, h2, h3⟩
   unfold ctErr
   rw [if_neg (by rw [h1]; simp), if_neg (by omega)]
   refine fErr_ok fun k hk => ?_
   have ho : okPc (c.pcs.getD k pc0) = true := h3.ok _ (getD_mem hk)
   by_cases h0 : k = 0
   · exact pcErr_f ho h0
   · have hl := (pw_getD pc0).1 h3.srt (k - 1) k (by omega) hk
     exact pcErr_0 ho h0 (by omega) (by omega)
structure CtsOk (l : List Cnt) : Prop where
 len : l.length ≤ 24
 ok : ∀ c ∈ l, propC c = true ∧ c.pcs.length ≤ 60 ∧ PcsOk c.pcs
 num : l.Pairwise (fun a b => a.num < b.num)
 pos : l.Pairwise (fun a b => b.pos ≠ 0 → a.pos = b.pos → a.flt ≠ b.flt)
 pl : l.Pairwise (fun a b => ∀ x ∈ a.pcs, ∀ y ∈ b.pcs, x.1 ≠ y.1)
theorem holdsV_iff {c : Cnt} {p : Plt} : holdsV c p = true ↔ ∃ x ∈ c.pcs, x.1 = p := by
 rw [holdsV_in, List.mem_map]
theorem num_apart {l : List Cnt} (h : ∀ i, i < l.length → 0 < i → (l.getD (i - 1) ct0).num < (l.getD i ct0).num) : ∀ j k, j < k → k < l.length → (l.getD j ct0).num < (l.getD k ct0).num := by
 intro j k hjk
 induction k with
 | zero => omega
 | succ k ih =>
   intro hk
   have h1 := h (k + 1) hk (by omega)
   rw [show k + 1 - 1 = k by omega] at h1
   by_cases e : j = k
   · subst e; exact h1
   · exact Int.lt_trans (ih (by omega) (by omega)) h1
theorem checkV_iff {l : List Cnt} : checkV l = 0 ↔ CtsOk l := by
 constructor
 · intro h
   obtain ⟨h1, h2⟩ := checkV_zero h
   have h3 : ∀ i, i < l.length → _ := fun i hi => ckErr_z (h2 i hi)
   refine ⟨h1, fun c hc => ?_, (pw_getD ct0).2 (num_apart fun i hi h0 => (h3 i hi).2.1 h0), (pw_getD ct0).2 fun i j hij hj hp he hf => (h3 j hj).2.2.1 ⟨hp, i, hij, he, hf⟩, (pw_getD ct0).2 fun i j hij hj x hx y hy he => (h3 j hj).2.2.2 ⟨y, hy, i, hij, holdsV_iff.2 ⟨x, hx, he⟩⟩⟩
   obtain ⟨i, hi, rfl⟩ := getD_ct hc
   exact ctErr_iff.1 (h3 i hi).1
 · rintro ⟨h1, h2, h3, h4, h5⟩
   refine checkV_ok (by omega) fun k hk => ?_
   refine ckErr_0 (ctErr_iff.2 (h2 _ (getD_mem hk))) ?_ ?_ ?_
   · rintro ⟨h0, hn⟩
     have := (pw_getD ct0).1 h3 (k - 1) k (by omega) hk
     omega
   · rintro ⟨hp, i, hi, he, hf⟩
     exact (pw_getD ct0).1 h4 i k hi hk hp he hf
   · rintro ⟨y, hy, i, hi, hh⟩
     obtain ⟨x, hx, he⟩ := holdsV_iff.1 hh
     exact (pw_getD ct0).1 h5 i k hi hk x hx y hy he
def setPcs (c : Cnt) (p : List Pce) : Cnt := (c.1, c.2.1, c.2.2.1, c.2.2.2.1, c.2.2.2.2.1, c.2.2.2.2.2.1, c.2.2.2.2.2.2.1, p)
theorem fltsV_ok (n : Int) : fltOk (fltsV n) = true := by
 have hb := goMod_bd n 27 (by omega)
 have key : ∀ k : Nat, k < 27 → fltOk (strs3.getD ((k : Int) / 9).toNat ByteArray.empty, 1 + (k : Int) / 3 % 3, ByteArray.empty, 1 + (k : Int) % 3) = true := by decide +kernel
 have := key (goMod n 27).toNat (by omega)
 unfold fltsV
 rw [show ((goMod n 27).toNat : Int) = goMod n 27 by omega] at this
 exact this
theorem platesV_lt {a b : Int} (h0 : 0 ≤ a) (h1 : a < b) (h2 : b < 1000) : pltC (platesV a) (platesV b) < 0 := by
 have e : ∀ x : Int, 0 ≤ x → x < 1000 → goMod x 1000 = x := fun x hx hx2 => by
  unfold goMod
  rw [if_neg (by omega), Int.tmod_eq_emod_of_nonneg hx, if_neg (by omega)]; omega
 unfold platesV
 rw [e a h0 (by omega), e b (by omega) h2]
 have ea1 : a.tdiv 500 = a / 500 := Int.tdiv_eq_ediv_of_nonneg h0
 have ea2 : a.tdiv 100 = a / 100 := Int.tdiv_eq_ediv_of_nonneg h0
 have ea3 : a.tmod 100 = a % 100 := Int.tmod_eq_emod_of_nonneg h0
 have ea4 : (a / 100).tmod 5 = a / 100 % 5 := Int.tmod_eq_emod_of_nonneg (by omega)
 have eb1 : b.tdiv 500 = b / 500 := Int.tdiv_eq_ediv_of_nonneg (by omega)
 have eb2 : b.tdiv 100 = b / 100 := Int.tdiv_eq_ediv_of_nonneg (by omega)
 have eb3 : b.tmod 100 = b % 100 := Int.tmod_eq_emod_of_nonneg (by omega)
 have eb4 : (b / 100).tmod 5 = b / 100 % 5 := Int.tmod_eq_emod_of_nonneg (by omega)
 rw [ea1, ea2, ea3, ea4, eb1, eb2, eb3, eb4]
 unfold pltC lexC cmpV
 dsimp only
 (repeat' split) <;> omega
end Go.Proofs.YtjhoidgpecgfoaaGreat

/- Containers: a piece is put in, taken out. -/
set_option linter.unusedSimpArgs false
set_option linter.unusedVariables false
set_option maxRecDepth 100000
set_option maxHeartbeats 8000000
namespace Go.Proofs.YtjhoidgpecgfoaaGreat
open Go.Ev

def PcSrt (l : List Pce) : Prop := l.Pairwise (fun a b : Pce => pltC a.1 b.1 < 0)
def posP (l : List Pce) (p : Plt) : Nat := (l.takeWhile (fun x => decide (pltC x.1 p < 0))).length
theorem posP_at {l : List Pce} {p : Plt} {k : Nat} (hk : k ≤ l.length) (h1 : ∀ j, j < k → pltC (l.getD j pc0).1 p < 0) (h2 : k < l.length → ¬ pltC (l.getD k pc0).1 p < 0) : posP l p = k := by
 unfold posP
 induction l generalizing k with
 | nil => simp at hk; subst hk; rfl
 | cons a l ih =>
   cases k with
   | zero =>
     have := h2 (by simp)
     rw [List.takeWhile_cons_of_neg (by simpa using this)]; rfl
   | succ k =>
     have h0 : pltC a.1 p < 0 := h1 0 (by omega)
     rw [List.takeWhile_cons_of_pos (by simpa using h0), List.length_cons, ih (by simpa using hk) (fun j hj => h1 (j + 1) (by omega)) (fun hh => h2 (by simpa using hh))]
theorem posP_le (l : List Pce) (p : Plt) : posP l p ≤ l.length := (List.takeWhile_sublist _).length_le
theorem posP_take (l : List Pce) (p : Plt) : ∀ j, j < posP l p → pltC (l.getD j pc0).1 p < 0 := by
 unfold posP
 induction l with
 | nil => intro j hj; simp at hj
 | cons a l ih =>
   intro j hj
   by_cases h : pltC a.1 p < 0
   · rw [List.takeWhile_cons_of_pos (by simpa using h), List.length_cons] at hj
     cases j with
     | zero => exact h
     | succ j => exact ih j (by omega)
   · rw [List.takeWhile_cons_of_neg (by simpa using h)] at hj; simp at hj
theorem posP_drop (l : List Pce) (p : Plt) : posP l p < l.length → ¬ pltC (l.getD (posP l p) pc0).1 p < 0 := by
 unfold posP
 induction l with
 | nil => intro h; simp at h
 | cons a l ih =>
   intro hj
   by_cases h : pltC a.1 p < 0
   · rw [List.takeWhile_cons_of_pos (by simpa using h), List.length_cons] at hj ⊢
     exact ih (by simpa using hj)
   · rw [List.takeWhile_cons_of_neg (by simpa using h)] at hj ⊢; exact h
theorem lt_succ' {P : Nat → Prop} {k : Nat} (h : ∀ j, j < k → P j) (hk : P k) : ∀ j, j < k + 1 → P j := fun j hj => by
 by_cases e : j = k
 · rw [e]; exact hk
 · exact h j (by omega)
def hasP (l : List Pce) (p : Plt) : Bool := l.any (fun x => decide (x.1 = p))
theorem hasP_pos {l : List Pce} (hs : PcSrt l) (p : Plt) : hasP l p = (decide (posP l p < l.length) && decide ((l.getD (posP l p) pc0).1 = p)) := by
 rw [Bool.eq_iff_iff, Bool.and_eq_true, decide_eq_true_eq, decide_eq_true_eq]
 unfold hasP
 rw [List.any_eq_true]
 constructor
 · rintro ⟨x, hx, he⟩
   have he := of_decide_eq_true he
   obtain ⟨i, hi, rfl⟩ := getD_pc hx
   have hz : pltC (l.getD i pc0).1 p = 0 := (pltC_cmp.eq _ _).2 he
   have : posP l p = i := posP_at (by omega) (fun j hj => by rw [← he]; exact (pw_getD pc0).1 hs j i hj hi) (fun _ => by omega)
   rw [this]; exact ⟨hi, he⟩
 · rintro ⟨h1, h2⟩
   exact ⟨_, getD_mem h1, decide_eq_true h2⟩
def insP (l : List Pce) (x : Pce) : List Pce := l.take (posP l x.1) ++ x :: l.drop (posP l x.1)
def forceV (c : Cnt) (x : Pce) : Cnt × Int := if ctErr c ≠ 0 then (ct0, ctErr c) else if okPc x = false then (ct0, 1) else if hasP c.pcs x.1 = true then (ct0, 5) else if 60 ≤ c.pcs.length then (ct0, 2) else (setPcs c (insP c.pcs x), 0)
def con162 : Con := { ps := [.d false (.sl yPC), .d true yPL], rs := [.d false (.int .i64), .d false .bool], pre := fun (x : List Pce × Plt × Unit) => PcSrt x.1 ∧ x.1.length ≤ 1000000, out := fun (x : List Pce × Plt × Unit) => ((posP x.1 x.2.1 : Nat), hasP x.1 x.2.1, ()), nw := id }
theorem c162 : CtrOk Tryz.prog 162 con162.ctr :=
 con_sound (G := ⟨[(49, con49.ctr)], [], [], []⟩) tab_ok (EnvOk.cons c49 has49 EnvOk.nil) rfl Tryz.func162 rfl con162 33563131 (by kernel_rfl) (by decide) (by decide) rfl (by decide) rfl (by
  rintro ⟨(l : List Pce), ⟨(p1 : Int), (p2 : Int), (p3 : Int)⟩, _⟩ hpre hwf X hT hG hk hK
  obtain ⟨hs, hl⟩ : PcSrt l ∧ l.length ≤ 1000000 := hpre
  (simp -implicitDefEqProofs only [go_sem, Bool.not_eq_true', Bool.not_eq_false', Bool.or_eq_true, Bool.or_eq_false_iff, Bool.and_eq_true, Bool.and_eq_false_iff, decide_eq_true_eq, decide_eq_false_iff_not, Classical.not_not, not_or, maxLen, con162, con49, hT, hG, hk, hK, Tryz.results162] at hwf ⊢); (try simp (disch := decide +kernel) only [drawn, true_and, and_true])
  clear hwf
  obtain ⟨P, hP⟩ : ∃ P : Plt, P = (p1, p2, p3) := ⟨_, rfl⟩
  refine fun _ => evk_loop ⟨{ q : Nat × Nat // q.1 ≤ q.2 ∧ q.2 ≤ l.length ∧ (∀ k, k < q.1 → pltC (l.getD k pc0).1 P < 0) ∧ ∀ k, q.2 ≤ k → k < l.length → ¬ pltC (l.getD k pc0).1 P < 0 }, 1000, fun q => [(0, .one (.sl yPC l false)), (3, .one (.loc 70 0)), (6, .one (.int .i64 q.1.1)), (7, .one (.int .i64 q.1.2))], fun q => [(70, .cells 65 [.int .i64 p1, .int .i64 p2, .int .i64 p3])], fun q => q.1.2 - q.1.1⟩ ⟨(0, l.length), Nat.zero_le _, Nat.le_refl _, fun k hk => by omega, fun k h1 h2 => by omega⟩ ?_ ?_
  · simp only [go_sem]
    try (first | rfl | exact ⟨rfl, rfl⟩ | (and_intros <;> first | trivial | rfl | omega))
  · rintro ⟨⟨a, b⟩, (hab : a ≤ b), (hb : b ≤ l.length), h1, h2⟩
    have h1 : ∀ k, k < a → pltC (l.getD k pc0).1 P < 0 := h1
    have h2 : ∀ k, b ≤ k → k < l.length → ¬ pltC (l.getD k pc0).1 P < 0 := h2
    (simp -implicitDefEqProofs only [go_sem, Bool.not_eq_true', Bool.not_eq_false', Bool.or_eq_true, Bool.or_eq_false_iff, Bool.and_eq_true, Bool.and_eq_false_iff, decide_eq_true_eq, decide_eq_false_iff_not, Classical.not_not, not_or, maxLen, con162, con49, hT, hG, hk, hK, Tryz.results162]); (try simp (disch := decide +kernel) only [drawn, true_and, and_true])
    have em : ((a : Int) + b).tdiv 2 = ((a + b) / 2 : Nat) := by rw [Int.tdiv_eq_ediv_of_nonneg (by omega)]; omega
    simp only [em]
    obtain ⟨m, hm⟩ : ∃ m, (a + b) / 2 = m := ⟨_, rfl⟩
    simp only [hm]
    obtain ⟨o, ho⟩ : ∃ o, l.getD m pc0 = o := ⟨_, rfl⟩
    have eo : l.getD (m : Int).toNat ((0, 0, 0), 0, 0) = o := ho
    have eO : (o.1.1, o.1.2.1, o.1.2.2) = o.1 := rfl
    simp only [eo, eO, ← hP]
    obtain ⟨u, hu⟩ : ∃ u, l.getD a pc0 = u := ⟨_, rfl⟩
    have eu : l.getD (a : Int).toNat ((0, 0, 0), 0, 0) = u := hu
    try simp only [eu]
    have hfin : b ≤ a → posP l P = a := fun h => posP_at (by omega) h1 (fun hh => h2 a (by omega) hh)
    have hap : ∀ j k, j < k → k < l.length → pltC (l.getD j pc0).1 (l.getD k pc0).1 < 0 := (pw_getD pc0).1 hs
    (repeat' (with_reducible (first | refine And.intro ?_ ?_ | intro _))) <;> (try (first | with_reducible (first | done | assumption | omega | contradiction) | decide))
    all_goals first
     | (have hq : pltC o.1 P < 0 := by assumption
        refine fin_lp ⟨(m + 1, b), (by show m + 1 ≤ b; omega), hb, (fun k hk => ?_), h2⟩ ?_ (by dsimp only; omega)
        · have hk : k < m + 1 := hk
          by_cases e : k = m
          · rw [e, ho]; exact hq
          · exact pltC_cmp.trans _ _ _ (hap k m (by omega) (by omega)) (by rw [ho]; exact hq)
        · simp only [go_sem]
          try (first | rfl | exact ⟨rfl, rfl⟩ | (and_intros <;> first | trivial | rfl | omega))
          done)
     | (have hq : ¬ pltC o.1 P < 0 := by assumption
        refine fin_lp ⟨(a, m), (by show a ≤ m; omega), (by show m ≤ l.length; omega), h1, (fun k hk hk2 => ?_)⟩ ?_ (by dsimp only; omega)
        · have hk : m ≤ k := hk
          by_cases e : k = m
          · rw [e, ho]; exact hq
          · intro hc
            exact hq (by rw [← ho]; exact pltC_cmp.trans _ _ _ (hap m k (by omega) hk2) hc)
        · simp only [go_sem]
          try (first | rfl | exact ⟨rfl, rfl⟩ | (and_intros <;> first | trivial | rfl | omega))
          done)
     | (have e1 : u.1.1 = p1 ∧ u.1.2.1 = p2 ∧ u.1.2.2 = p3 ↔ u.1 = P := by rw [hP]; exact Iff.of_eq (pltE u.1 (p1, p2, p3))
        rw [hasP_pos hs, hfin (by omega), hu, Bool.eq_iff_iff]
        simp only [Bool.and_eq_true, decide_eq_true_eq, ← e1]
        omega)
     | (rw [hfin (by omega)])
     | fail)
def con163 : Con := { ps := [.d false (.sl yPC), .d false (.int .i64), .d true yPC], rs := [.d false (.sl yPC)], pre := fun (x : List Pce × Int × Pce × Unit) => 0 ≤ x.2.1 ∧ x.2.1 ≤ x.1.length ∧ x.1.length ≤ 100000, out := fun (x : List Pce × Int × Pce × Unit) => (x.1.take x.2.1.toNat ++ x.2.2.1 :: x.1.drop x.2.1.toNat, ()), nw := id }
theorem c163 : CtrOk Tryz.prog 163 con163.ctr :=
 con_sound (G := ⟨[], [], [], []⟩) tab_ok EnvOk.nil rfl Tryz.func163 rfl con163 231 (by kernel_rfl) (by decide) (by decide) rfl (by decide) rfl (by
  rintro ⟨(l : List Pce), (i : Int), ⟨⟨(a : Int), (b : Int), (c : Int)⟩, (d : Int), (e : Int)⟩, _⟩ hpre hwf X hT hG hk hK
  obtain ⟨h1, h2, h3⟩ : 0 ≤ i ∧ i ≤ l.length ∧ l.length ≤ 100000 := hpre
  (simp -implicitDefEqProofs only [go_sem, Bool.not_eq_true', Bool.not_eq_false', Bool.or_eq_true, Bool.or_eq_false_iff, Bool.and_eq_true, Bool.and_eq_false_iff, decide_eq_true_eq, decide_eq_false_iff_not, Classical.not_not, not_or, maxLen, con163, hT, hG, hk, hK, Tryz.results163] at hwf ⊢)
  clear hwf
  (repeat' (with_reducible (first | refine And.intro ?_ ?_ | intro _))) <;> (try (first | with_reducible (first | done | assumption | omega | contradiction) | decide))
  all_goals first
   | (rw [show ((l.length : Nat) : Int).toNat = l.length by omega, List.take_length]; simp; done)
   | (simp only [List.length_append, List.length_replicate, List.length_take, List.length_drop, List.length_cons, List.length_nil]; omega)
   | fail)
def con124 : Con := { ps := [.d true yCT, .d true yPC, .d false .bool], rs := [.d true yCT, .d false (.int .i64)], pre := fun (x : Cnt × Pce × Bool × Unit) => x.2.2.1 = false, out := fun (x : Cnt × Pce × Bool × Unit) => ((forceV x.1 x.2.1).1, (forceV x.1 x.2.1).2, ()), nw := id }
theorem c124 : CtrOk Tryz.prog 124 con124.ctr :=
 con_sound (G := ⟨[(111, con111.ctr), (159, con159.ctr), (162, con162.ctr), (163, con163.ctr), (112, con112.ctr), (160, con160.ctr)], [], [], []⟩) tab_ok (EnvOk.cons c111 has111 (EnvOk.cons c159 has159 (EnvOk.cons c162 has162 (EnvOk.cons c163 has163 (EnvOk.cons c112 has112 (EnvOk.cons c160 has160 EnvOk.nil)))))) rfl Tryz.func124 rfl con124 18446761685224034271 (by kernel_rfl) (by decide) (by decide) rfl (by decide) rfl (by
  rintro ⟨⟨(n : Int), ⟨a1, (a2 : Int), a3, (a4 : Int)⟩, (c : Int), (lm : Int), (t : Int), (p : Int), (r : Int), (l : List Pce)⟩, ⟨⟨(p1 : Int), (p2 : Int), (p3 : Int)⟩, (p4 : Int), (p5 : Int)⟩, (b : Bool), _⟩ hpre hwf X hT hG hk hK
  have hb : b = false := hpre
  subst hb
  (simp -implicitDefEqProofs only [go_sem, Bool.not_eq_true', Bool.not_eq_false', Bool.or_eq_true, Bool.or_eq_false_iff, Bool.and_eq_true, Bool.and_eq_false_iff, decide_eq_true_eq, decide_eq_false_iff_not, Classical.not_not, not_or, maxLen, con124, con111, con159, con162, con163, con112, con160, hT, hG, hk, hK, Tryz.results124] at hwf ⊢); (try simp (disch := decide +kernel) only [drawn, true_and, and_true])
  clear hwf
  obtain ⟨C, hC⟩ : ∃ C : Cnt, (n, (a1, a2, a3, a4), c, lm, t, p, r, l) = C := ⟨_, rfl⟩
  obtain ⟨x, hx⟩ : ∃ x : Pce, ((p1, p2, p3), p4, p5) = x := ⟨_, rfl⟩
  have hl : C.pcs = l := by rw [← hC]
  have hx1 : (p1, p2, p3) = x.1 := by rw [← hx]
  simp only [hC, hx]
  simp only [hx1]
  refine fun _ => ⟨fun h => ?_, fun h => ⟨fun h2 => ?_, fun h2 => ?_⟩⟩
  · have e : forceV C x = (ct0, ctErr C) := by unfold forceV; rw [if_pos h]
    rw [e]; (and_intros <;> rfl)
  · have e : forceV C x = (ct0, 1) := by unfold forceV; rw [if_neg (by simp [h]), if_pos h2]
    rw [e]; (and_intros <;> rfl)
  · obtain ⟨g1, g2, g3⟩ := ctErr_iff.1 h
    have hsl : PcSrt l := by rw [← hl]; exact g3.srt
    have hll : l.length ≤ 60 := by rw [← hl]; exact g2
    have hpl := posP_le l x.1
    (repeat' (with_reducible (first | refine And.intro ?_ ?_ | intro _))) <;> (try (first | with_reducible (first | done | assumption | omega | contradiction) | decide))
    all_goals first
     | exact hsl
     | (have hq : hasP l x.1 = true := by assumption
        have e : forceV C x = (ct0, 5) := by unfold forceV; rw [if_neg (by simp [h]), if_neg (by simp [h2]), if_pos (by rw [hl]; exact hq)]
        first | (rw [e]; done) | (rw [e]; rfl))
     | (have hq : hasP l x.1 = false := by assumption
        have hq2 : ((l.length : Nat) : Int) ≥ 60 := by assumption
        have e : forceV C x = (ct0, 2) := by unfold forceV; rw [if_neg (by simp [h]), if_neg (by simp [h2]), if_neg (by rw [hl, hq]; simp), if_pos (by rw [hl]; omega)]
        first | (rw [e]; done) | (rw [e]; rfl))
     | (have hq : hasP l x.1 = false := by assumption
        have hq2 : ¬ ((l.length : Nat) : Int) ≥ 60 := by assumption
        have e : forceV C x = (setPcs C (insP C.pcs x), 0) := by unfold forceV; rw [if_neg (by simp [h]), if_neg (by simp [h2]), if_neg (by rw [hl, hq]; simp), if_neg (by rw [hl]; omega)]
        first | (rw [e]; done) | (rw [e]; rfl) | (rw [e]; show _ = insP C.pcs x; rw [hl]; rfl) | (rw [e, ← hC]; rfl))
     | fail)
def con72 : Con := { ps := [.d true yCT, .d true yPC], rs := [.d true yCT, .d false (.int .i64)], pre := fun _ => True, out := fun (x : Cnt × Pce × Unit) => ((forceV x.1 x.2.1).1, (forceV x.1 x.2.1).2, ()), nw := id }
theorem c72 : CtrOk Tryz.prog 72 con72.ctr :=
 con_sound (G := ⟨[(124, con124.ctr)], [], [], []⟩) tab_ok (EnvOk.cons c124 has124 EnvOk.nil) rfl Tryz.func72 rfl con72 63 (by kernel_rfl) (by decide) (by decide) rfl (by decide) rfl (by
  rintro ⟨⟨(n : Int), ⟨a1, (a2 : Int), a3, (a4 : Int)⟩, (c : Int), (lm : Int), (t : Int), (p : Int), (r : Int), (l : List Pce)⟩, ⟨⟨(p1 : Int), (p2 : Int), (p3 : Int)⟩, (p4 : Int), (p5 : Int)⟩, _⟩ hpre hwf X hT hG hk hK
  (simp -implicitDefEqProofs only [go_sem, Bool.not_eq_true', Bool.not_eq_false', Bool.or_eq_true, Bool.or_eq_false_iff, Bool.and_eq_true, Bool.and_eq_false_iff, decide_eq_true_eq, decide_eq_false_iff_not, Classical.not_not, not_or, maxLen, con72, con124, hT, hG, hk, hK, Tryz.results72] at hwf ⊢))
end Go.Proofs.YtjhoidgpecgfoaaGreat
