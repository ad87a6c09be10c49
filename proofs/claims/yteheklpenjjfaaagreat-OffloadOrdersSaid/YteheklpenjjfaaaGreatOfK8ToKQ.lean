/- No smaller set of containers would do: the plain law. -/
import Derived.Test.YteheklpenjjfaaaGreatOfKYToKZ
import Derived.Test.YteheklpenjjfaaaGreatOfKOToKD
import Derived.Test.YteheklpenjjfaaaGreatEvSealToKX
set_option linter.unusedSimpArgs false
set_option linter.unusedVariables false
set_option maxRecDepth 100000
set_option maxHeartbeats 2000000
namespace Go.Proofs.YteheklpenjjfaaaGreat
open Go.Ev

theorem sortC_le (l : List Cnt) : (sortC l).Pairwise (fun a b => a.pos ≤ b.pos) := by
 have := List.pairwise_mergeSort (le := fun a b : Cnt => decide (a.pos ≤ b.pos)) (fun a b d h1 h2 => by simp at *; omega) (fun a b => by simp; omega) l
 exact this.imp (fun h => by simpa using h)
theorem posN_sort {l : List Cnt} (h : PosN l) : PosN (sortC l) := by
 unfold PosN at h ⊢
 exact h.perm (List.mergeSort_perm l _).symm (fun e q => e q.symm)
/-- On board: ascending, each position once. -/
theorem abo_lt {c : List Cnt} (h : CtsOk c) (f : Flt) : ∀ i j, i < j → j < (aboV c f).length → ((aboV c f).getD i ct0).pos < ((aboV c f).getD j ct0).pos := by
 intro i j hij hj
 have h1 := (pw_getD ct0).1 (sortC_le (c.filter (onB f))) i j hij hj
 have h2 := (pw_getD ct0).1 (posN_sort (posN_of h f)) i j hij hj
 unfold aboV
 have h2 : ¬ _ := h2
 omega
theorem abo_last {c : List Cnt} {f : Flt} {x : Cnt} (hx : x ∈ aboV c f) : x.pos ≤ (lastV (aboV c f)).pos := by
 obtain ⟨i, hi, rfl⟩ := getD_ct hx
 by_cases e : i = (aboV c f).length - 1
 · rw [e]; exact Int.le_refl _
 · exact (pw_getD ct0).1 (sortC_le (c.filter (onB f))) i ((aboV c f).length - 1) (by omega) (by show (aboV c f).length - 1 < (aboV c f).length; omega)
/-- A number belongs to one container. -/
theorem num_inj {c : List Cnt} (h : CtsOk c) {i j : Nat} (hi : i < c.length) (hj : j < c.length) (e : (c.getD i ct0).num = (c.getD j ct0).num) : i = j := by
 have hp := (pw_getD ct0).1 h.num
 rcases Nat.lt_trichotomy i j with q | q | q
 · have := hp i j q hj; omega
 · exact q
 · have := hp j i q hi; omega
/-- Behind some containers that were taken off: the one that stays is where it was. -/
def FwI (c : List Cnt) (O : List Int) (k : Nat) (x : List Cnt) : Prop := x.length = c.length ∧ ∀ j, j < c.length → (x.getD j ct0).num = (c.getD j ct0).num ∧ (x.getD j ct0).flt = (c.getD j ct0).flt ∧ ((x.getD j ct0).pos = (c.getD j ct0).pos ∨ (x.getD j ct0).pos = 0) ∧ ((c.getD j ct0).num = O.getD k 0 → (x.getD j ct0).pos = (c.getD j ct0).pos)
theorem FwI.zero (c : List Cnt) (O : List Int) (k : Nat) : FwI c O k c := ⟨rfl, fun j _ => ⟨rfl, rfl, .inl rfl, fun _ => rfl⟩⟩
/-- What a container that could be taken off says. -/
theorem off_ok {x : List Cnt} {n : Int} (h : (offV x n).2 = 0) : checkV x = 0 ∧ ∃ i : Nat, i < x.length ∧ (x.getD i ct0).num = n ∧ (x.getD i ct0).pos ≠ 0 ∧ (lastV (aboV x (x.getD i ct0).flt)).num = n ∧ (offV x n).1 = x.set i (setPos (x.getD i ct0) 0) := by
 unfold offV at h ⊢
 by_cases h1 : checkV x ≠ 0
 · rw [if_pos h1] at h; exact absurd h h1
 · rw [if_neg h1] at h ⊢
   by_cases h2 : numIdx x n < 0
   · rw [if_pos h2] at h; exact absurd h (by decide)
   · rw [if_neg h2] at h ⊢
     by_cases h3 : (x.getD (numIdx x n).toNat ct0).pos = 0
     · rw [if_pos h3] at h; exact absurd h (by decide)
     · rw [if_neg h3] at h ⊢
       by_cases h4 : (lastV (aboV x (x.getD (numIdx x n).toNat ct0).flt)).num ≠ n
       · rw [if_pos h4] at h; exact absurd h (by decide)
       · rw [if_neg h4]
         obtain ⟨g1, g2, _⟩ := idxV_spec (d := ct0) (p := fun (y : Cnt) => decide (y.num = n)) (l := x) (by unfold numIdx at h2; omega)
         exact ⟨by omega, (numIdx x n).toNat, g1, of_decide_eq_true g2, h3, by simpa using h4, rfl⟩
theorem set_getC {l : List Cnt} {i j : Nat} {v : Cnt} (hi : i < l.length) : (l.set i v).getD j ct0 = if i = j then v else l.getD j ct0 := by
 rw [List.getD_eq_getElem?_getD, List.getElem?_set]
 by_cases e : i = j
 · rw [if_pos e, if_pos (by omega), if_pos e]; rfl
 · rw [if_neg e, if_neg e, List.getD_eq_getElem?_getD]
theorem FwI.off {c x : List Cnt} {O : List Int} {k i : Nat} (h : FwI c O k x) (hn : O.getD i 0 ≠ O.getD k 0) (ho : (offV x (O.getD i 0)).2 = 0) : FwI c O k (offV x (O.getD i 0)).1 := by
 obtain ⟨h1, h2⟩ := h
 obtain ⟨_, j, j1, j2, _, _, j5⟩ := off_ok ho
 rw [j5]
 refine ⟨by rw [List.length_set]; exact h1, fun q hq => ?_⟩
 rw [set_getC j1]
 obtain ⟨g1, g2, g3, g4⟩ := h2 q hq
 by_cases e : j = q
 · subst e
   rw [if_pos rfl]
   refine ⟨g1, g2, .inr rfl, fun e => ?_⟩
   exact absurd (by rw [← j2, g1, e]) hn
 · rw [if_neg e]; exact ⟨g1, g2, g3, g4⟩
end Go.Proofs.YteheklpenjjfaaaGreat

/- Containers taken off and put on again: the plain law. -/
set_option linter.unusedSimpArgs false
set_option linter.unusedVariables false
set_option maxRecDepth 100000
set_option maxHeartbeats 2000000
namespace Go.Proofs.YteheklpenjjfaaaGreat
open Go.Ev

/-- The containers at other positions. -/
def XS (c x : List Cnt) (P : Nat → Int) : Prop := x.length = c.length ∧ ∀ j, j < c.length → x.getD j ct0 = setPos (c.getD j ct0) (P j)
theorem XS.congr {c x : List Cnt} {P Q : Nat → Int} (h : XS c x P) (e : ∀ j, j < c.length → P j = Q j) : XS c x Q := ⟨h.1, fun j hj => by rw [h.2 j hj, e j hj]⟩
section
variable {c : List Cnt} {f : Flt} {t : List Tsk} {O : List Int} {d : Nat}
theorem abo_pos (hC : CtsOk c) {r : Nat} (hr : r < (aboV c f).length) : 0 < ((aboV c f).getD r ct0).pos ∧ ((aboV c f).getD r ct0).pos ≤ 24 ∧ ((aboV c f).getD r ct0).flt = f := by
 obtain ⟨m1, m2, m3⟩ := aboV_mem.1 (getD_mem (d := ct0) hr)
 have := (hC.ok _ m1).1
 unfold propC inV at this
 simp only [Bool.and_eq_true, decide_eq_true_eq] at this
 exact ⟨by omega, by omega, m2⟩
theorem pos_bd (hC : CtsOk c) {j : Nat} (hj : j < c.length) : 0 ≤ (c.getD j ct0).pos ∧ (c.getD j ct0).pos ≤ 24 := by
 have := (hC.ok _ (getD_mem (d := ct0) hj)).1
 unfold propC inV at this
 simp only [Bool.and_eq_true, decide_eq_true_eq] at this
 omega
theorem pos_ap (hC : CtsOk c) {i j : Nat} (hi : i < c.length) (hj : j < c.length) (hne : i ≠ j) (h0 : (c.getD j ct0).pos ≠ 0) (e : (c.getD i ct0).pos = (c.getD j ct0).pos) : (c.getD i ct0).flt ≠ (c.getD j ct0).flt := by
 have hp := (pw_getD ct0).1 hC.pos
 rcases Nat.lt_or_ge i j with q | q
 · exact hp i j q hj h0 e
 · exact fun k => hp j i (by omega) hi (by rw [e]; exact h0) e.symm k.symm
end
end Go.Proofs.YteheklpenjjfaaaGreat

/- Containers: a piece is put in, taken out. -/
set_option linter.unusedSimpArgs false
set_option linter.unusedVariables false
set_option maxRecDepth 100000
set_option maxHeartbeats 8000000
namespace Go.Proofs.YteheklpenjjfaaaGreat
open Go.Ev

def con41 : Con := { ps := [.d false (.sl yCT)], rs := [.o 44 yCT], pre := fun (x : List Cnt × Unit) => x.1.length ≤ 1000 ∧ ∀ o ∈ x.1, o.pcs.length ≤ 100000, out := fun (x : List Cnt × Unit) => (x.1, ()), nw := id }
theorem c41 : CtrOk Tryz.prog 41 con41.ctr :=
 con_sound (G := ⟨[], [], [], [], []⟩) tab_ok EnvOk.nil rfl Tryz.func41 rfl con41 573 (by kernel_rfl) (by decide) (by decide) rfl (by decide) rfl (by
  rintro ⟨(l : List Cnt), _⟩ hpre hwf X hT hG hk hK
  obtain ⟨hl, hlo⟩ : l.length ≤ 1000 ∧ ∀ o ∈ l, o.pcs.length ≤ 100000 := hpre
  (simp -implicitDefEqProofs (maxSteps := 4000000) only [go_sem, Bool.not_eq_true', Bool.not_eq_false', Bool.or_eq_true, Bool.or_eq_false_iff, Bool.and_eq_true, Bool.and_eq_false_iff, decide_eq_true_eq, decide_eq_false_iff_not, Classical.not_not, not_or, maxLen, con41, hT, hG, hk, hK, Tryz.results41] at hwf ⊢); (try simp (disch := decide +kernel) only [drawn, true_and, and_true])
  clear hwf
  refine evk_loop ⟨{ i : Nat // i ≤ l.length }, 1000, fun q => [(0, .one (.sl yCT l false)), (3, .one (.row 64)), (4, .one (.int .i64 q.1))], fun q => [(64, .row 44 yCT (l.take q.1))], fun q => l.length - q.1⟩ ⟨0, Nat.zero_le _⟩ ?_ ?_
  · simp only [go_sem]
    try (first | rfl | exact ⟨rfl, rfl⟩ | (and_intros <;> first | trivial | rfl | omega))
  · rintro ⟨i, (hi : i ≤ l.length)⟩
    (simp -implicitDefEqProofs (maxSteps := 4000000) only [go_sem, Bool.not_eq_true', Bool.not_eq_false', Bool.or_eq_true, Bool.or_eq_false_iff, Bool.and_eq_true, Bool.and_eq_false_iff, decide_eq_true_eq, decide_eq_false_iff_not, Classical.not_not, not_or, maxLen, con41, hT, hG, hk, hK, Tryz.results41]); (try simp (disch := decide +kernel) only [drawn, true_and, and_true])
    obtain ⟨o, ho⟩ : ∃ o, l.getD i ct0 = o := ⟨_, rfl⟩
    have eo : l.getD (i : Int).toNat (0, (ByteArray.empty, 0, ByteArray.empty, 0), 0, 0, 0, 0, 0, []) = o := ho
    try simp only [eo]
    have hts : i < l.length → l.take (i + 1) = l.take i ++ [o] := fun h => by rw [List.take_succ_eq_append_getElem h, ← getD_lt (d := ct0) h, ho]
    have htl : (l.take i).length ≤ l.length := by rw [List.length_take]; omega
    have hop : i < l.length → o.pcs.length ≤ 100000 := fun h => hlo o (by rw [← ho]; exact getD_mem h)
    (repeat' (with_reducible (first | refine And.intro ?_ ?_ | intro _))) <;> (try (first | with_reducible (first | done | assumption | omega | contradiction) | decide))
    all_goals first
     | (have e1 := hts (by omega)
        refine fin_lp ⟨i + 1, by omega⟩ ?_ (by dsimp only; omega)
        simp only [go_sem]
        rw [e1]
        try (first | rfl | exact ⟨rfl, rfl⟩ | (and_intros <;> first | trivial | rfl | omega))
        done)
     | (rw [List.take_of_length_le (by omega)]; done)
     | (have h5 : List.length o.2.2.2.2.2.2.2 ≤ 100000 := hop (by omega)
        omega)
     | fail)
end Go.Proofs.YteheklpenjjfaaaGreat

/- The reference's Greatest, Off, On, Order. -/
set_option linter.unusedSimpArgs false
set_option linter.unusedVariables false
set_option maxRecDepth 100000
set_option maxHeartbeats 8000000
namespace Go.Proofs.YteheklpenjjfaaaGreat
open Go.Ev

/-- The greatest position of a flight. -/
def grV (c : List Cnt) (f : Flt) : Int := c.foldl (fun n o => if o.flt = f then max n o.pos else n) 0
theorem grV_snoc (c : List Cnt) (o : Cnt) (f : Flt) : grV (c ++ [o]) f = if o.flt = f then max (grV c f) o.pos else grV c f := by
 unfold grV; rw [List.foldl_append]; rfl
theorem maxE (a b : Int) : max a b = if b > a then b else a := by
 split <;> omega
theorem grV_spec (c : List Cnt) (f : Flt) : 0 ≤ grV c f ∧ (∀ o ∈ c, o.flt = f → o.pos ≤ grV c f) ∧ (grV c f = 0 ∨ ∃ o ∈ c, o.flt = f ∧ o.pos = grV c f) := by
 have key : ∀ i, i ≤ c.length → 0 ≤ grV (c.take i) f ∧ (∀ o ∈ c.take i, o.flt = f → o.pos ≤ grV (c.take i) f) ∧ (grV (c.take i) f = 0 ∨ ∃ o ∈ c.take i, o.flt = f ∧ o.pos = grV (c.take i) f) := by
  intro i
  induction i with
  | zero => intro _; exact ⟨Int.le_refl _, fun o h => (by cases h), .inl rfl⟩
  | succ i ih =>
    intro hi
    obtain ⟨h1, h2, h3⟩ := ih (by omega)
    rw [List.take_succ_eq_append_getElem (by omega), grV_snoc]
    by_cases q : (c[i]).flt = f
    · rw [if_pos q]
      refine ⟨by omega, fun o ho hf => ?_, ?_⟩
      · rcases List.mem_append.1 ho with h | h
        · have := h2 o h hf; omega
        · rw [List.mem_singleton.1 h]; omega
      · by_cases g : grV (c.take i) f ≤ (c[i]).pos
        · exact .inr ⟨c[i], List.mem_append_right _ (List.mem_singleton.2 rfl), q, by omega⟩
        · rcases h3 with h | ⟨o, ho, hf, e⟩
          · exact .inl (by omega)
          · exact .inr ⟨o, List.mem_append_left _ ho, hf, by omega⟩
    · rw [if_neg q]
      refine ⟨h1, fun o ho hf => ?_, ?_⟩
      · rcases List.mem_append.1 ho with h | h
        · exact h2 o h hf
        · rw [List.mem_singleton.1 h] at hf; exact absurd hf q
      · rcases h3 with h | ⟨o, ho, hf, e⟩
        · exact .inl h
        · exact .inr ⟨o, List.mem_append_left _ ho, hf, e⟩
 have := key c.length (Nat.le_refl _)
 rwa [List.take_length] at this
theorem gr_abo {c : List Cnt} (hC : CtsOk c) (f : Flt) : (0 < (aboV c f).length → (lastV (aboV c f)).pos = grV c f) ∧ (¬ 0 < (aboV c f).length → grV c f = 0) := by
 obtain ⟨h1, h2, h3⟩ := grV_spec c f
 refine ⟨fun hl => ?_, fun hl => ?_⟩
 · have hlm : lastV (aboV c f) ∈ aboV c f := getD_mem (by omega)
   obtain ⟨m1, m2, m3⟩ := aboV_mem.1 hlm
   have := h2 _ m1 m2
   obtain ⟨j, hj, e⟩ := getD_ct m1
   have hb := pos_bd hC hj
   rw [e] at hb
   rcases h3 with h | ⟨o, ho, hf, e2⟩
   · omega
   · have := abo_last (aboV_mem.2 ⟨ho, hf, by omega⟩)
     omega
 · rcases h3 with h | ⟨o, ho, hf, e2⟩
   · exact h
   · apply Classical.byContradiction
     intro q
     exact hl (List.length_pos_of_mem (aboV_mem.2 ⟨ho, hf, by omega⟩))
theorem gr_next {c : List Cnt} (hC : CtsOk c) (f : Flt) : nextP c f = grV c f + 1 := by
 obtain ⟨h1, h2⟩ := gr_abo hC f
 unfold nextP
 by_cases hl : 0 < (aboV c f).length
 · rw [if_pos hl, h1 hl]; omega
 · rw [if_neg hl, h2 hl]; omega
theorem gr_last {c : List Cnt} (hC : CtsOk c) {k : Nat} (hk : k < c.length) (h0 : (c.getD k ct0).pos ≠ 0) : (lastV (aboV c (c.getD k ct0).flt)).num ≠ (c.getD k ct0).num ↔ grV c (c.getD k ct0).flt > (c.getD k ct0).pos := by
 have hm : c.getD k ct0 ∈ aboV c (c.getD k ct0).flt := aboV_mem.2 ⟨getD_mem hk, rfl, h0⟩
 have hl : 0 < (aboV c (c.getD k ct0).flt).length := List.length_pos_of_mem hm
 have h1 := (gr_abo hC (c.getD k ct0).flt).1 hl
 have hle := abo_last hm
 have hlm : lastV (aboV c (c.getD k ct0).flt) ∈ aboV c (c.getD k ct0).flt := getD_mem (by omega)
 obtain ⟨m1, m2, m3⟩ := aboV_mem.1 hlm
 obtain ⟨j, hj, e⟩ := getD_ct m1
 rw [← e] at m2 hle h1 ⊢
 constructor
 · intro hne
   have hjk : j ≠ k := fun q => hne (by rw [q])
   have hp : (c.getD j ct0).pos ≠ (c.getD k ct0).pos := fun q => pos_ap hC hj hk hjk h0 q m2
   rw [← h1]; omega
 · intro hgt hne
   have := num_inj hC hj hk hne
   rw [this] at h1
   rw [← h1] at hgt
   exact Int.lt_irrefl _ hgt
def con40 : Con := { ps := [.d false (.sl yCT), .d true yFL], rs := [.d false (.int .i64)], pre := fun _ => True, out := fun (x : List Cnt × Flt × Unit) => (grV x.1 x.2.1, ()), nw := id }
theorem c40 : CtrOk Tryz.prog 40 con40.ctr :=
 con_sound (G := ⟨[], [], [], [], []⟩) tab_ok EnvOk.nil rfl Tryz.func40 rfl con40 525435 (by kernel_rfl) (by decide) (by decide) rfl (by decide) rfl (by
  rintro ⟨(l : List Cnt), ⟨f1, (f2 : Int), f3, (f4 : Int)⟩, _⟩ hpre hwf X hT hG hk hK
  (simp -implicitDefEqProofs (maxSteps := 4000000) only [go_sem, Bool.not_eq_true', Bool.not_eq_false', Bool.or_eq_true, Bool.or_eq_false_iff, Bool.and_eq_true, Bool.and_eq_false_iff, decide_eq_true_eq, decide_eq_false_iff_not, Classical.not_not, not_or, maxLen, con40, hT, hG, hk, hK, Tryz.results40] at hwf ⊢); (try simp (disch := decide +kernel) only [drawn, true_and, and_true])
  clear hwf
  have hbnd : ∀ i, i ≤ l.length → True := fun _ _ => trivial
  refine evk_loop ⟨{ i : Nat // i ≤ l.length }, 1000, fun q => [(0, .one (.sl yCT l false)), (3, .one (.loc 70 0)), (5, .one (.int .i64 (grV (l.take q.1) (f1, f2, f3, f4)))), (6, .one (.int .i64 q.1))], fun q => [(70, .cells 25 [.str f1, .int .i64 f2, .str f3, .int .i64 f4])], fun q => l.length - q.1⟩ ⟨0, Nat.zero_le _⟩ ?_ ?_
  · simp only [go_sem]
    try (first | rfl | exact ⟨rfl, rfl⟩ | (and_intros <;> first | trivial | rfl | omega))
  · rintro ⟨i, (hi : i ≤ l.length)⟩
    (simp -implicitDefEqProofs (maxSteps := 4000000) only [go_sem, Bool.not_eq_true', Bool.not_eq_false', Bool.or_eq_true, Bool.or_eq_false_iff, Bool.and_eq_true, Bool.and_eq_false_iff, decide_eq_true_eq, decide_eq_false_iff_not, Classical.not_not, not_or, maxLen, con40, hT, hG, hk, hK, Tryz.results40]); (try simp (disch := decide +kernel) only [drawn, true_and, and_true])
    obtain ⟨o, ho⟩ : ∃ o, l.getD i ct0 = o := ⟨_, rfl⟩
    have eo : l.getD (i : Int).toNat (0, (ByteArray.empty, 0, ByteArray.empty, 0), 0, 0, 0, 0, 0, []) = o := ho
    try simp only [eo]
    have hst : i < l.length → grV (l.take (i + 1)) (f1, f2, f3, f4) = if o.flt = (f1, f2, f3, f4) then (if o.pos > grV (l.take i) (f1, f2, f3, f4) then o.pos else grV (l.take i) (f1, f2, f3, f4)) else grV (l.take i) (f1, f2, f3, f4) := fun h => by
     rw [List.take_succ_eq_append_getElem h, ← getD_lt (d := ct0) h, ho, grV_snoc, maxE]
    (repeat' (with_reducible (first | refine And.intro ?_ ?_ | intro _))) <;> (try (first | with_reducible (first | done | assumption | omega | contradiction) | decide))
    all_goals first
     | omega
     | (have h : o.2.1.1 = f1 ∧ o.2.1.2.1 = f2 ∧ o.2.1.2.2.1 = f3 ∧ o.2.1.2.2.2 = f4 := by assumption
        have h9 := hst (by omega)
        rw [if_pos (by exact (fltE o.2.1 (f1, f2, f3, f4)).mp h)] at h9
        refine fin_lp ⟨i + 1, by omega⟩ ?_ (by dsimp only; omega)
        simp only [go_sem]
        rw [h9]
        try (first | rfl | exact ⟨rfl, rfl⟩ | (and_intros <;> first | trivial | rfl | omega))
        done)
     | (have h : ¬ o.2.1.1 = f1 ∨ ¬ o.2.1.2.1 = f2 ∨ ¬ o.2.1.2.2.1 = f3 ∨ ¬ o.2.1.2.2.2 = f4 := by assumption
        have h9 := hst (by omega)
        rw [if_neg (by exact (fltN o.2.1 (f1, f2, f3, f4)).mp h)] at h9
        refine fin_lp ⟨i + 1, by omega⟩ ?_ (by dsimp only; omega)
        simp only [go_sem]
        rw [h9]
        try (first | rfl | exact ⟨rfl, rfl⟩ | (and_intros <;> first | trivial | rfl | omega))
        done)
     | (rw [List.take_of_length_le (by omega)]; done)
     | fail)
def con18 : Con := { ps := [.d false (.sl yCT), .d false (.int .i64)], rs := [.d false (.sl yCT), .d false (.int .i64)], pre := fun _ => True, out := fun (x : List Cnt × Int × Unit) => ((offV x.1 x.2.1).1, (offV x.1 x.2.1).2, ()), nw := id }
theorem c18 : CtrOk Tryz.prog 18 con18.ctr :=
 con_sound (G := ⟨[(38, con38.ctr), (24, con24.ctr), (40, con40.ctr), (41, con41.ctr)], [], [], [], []⟩) tab_ok (EnvOk.cons c38 has38 (EnvOk.cons c24 has24 (EnvOk.cons c40 has40 (EnvOk.cons c41 has41 EnvOk.nil)))) rfl Tryz.func18 rfl con18 137455997427 (by kernel_rfl) (by decide) (by decide) rfl (by decide) rfl (by
  rintro ⟨(c : List Cnt), (n : Int), _⟩ hpre hwf X hT hG hk hK
  (simp -implicitDefEqProofs (maxSteps := 4000000) only [go_sem, Bool.not_eq_true', Bool.not_eq_false', Bool.or_eq_true, Bool.or_eq_false_iff, Bool.and_eq_true, Bool.and_eq_false_iff, decide_eq_true_eq, decide_eq_false_iff_not, Classical.not_not, not_or, maxLen, con18, con38, con24, con40, con41, hT, hG, hk, hK, Tryz.results18] at hwf ⊢); (try simp (disch := decide +kernel) only [drawn, true_and, and_true])
  clear hwf
  have hni := idxV_lt (fun (x : Cnt) => decide (x.num = n)) c
  have hni1 : -1 ≤ numIdx c n := hni.1
  have hni2 : numIdx c n < c.length := hni.2
  refine fun _ => ⟨fun h => ?_, fun h _ => ⟨fun h2 => ?_, fun h2 => ?_⟩⟩
  · have e : offV c n = ([], checkV c) := by unfold offV; rw [if_pos h]
    rw [e]; exact ⟨rfl, rfl⟩
  · have e : offV c n = ([], 6) := by unfold offV; rw [if_neg (by omega), if_pos h2]
    rw [e]; exact ⟨rfl, rfl⟩
  have hC := checkV_iff.1 h
  have hlen := hC.len
  have hpc : ∀ o ∈ c, o.pcs.length ≤ 100000 := fun o ho => by have := (hC.ok o ho).2.1; omega
  obtain ⟨k, hkk⟩ : ∃ k : Nat, numIdx c n = k := ⟨(numIdx c n).toNat, by omega⟩
  have hF : offV c n = (if (c.getD k ct0).pos = 0 then ([], 7) else if (lastV (aboV c (c.getD k ct0).flt)).num ≠ n then ([], 9) else (c.set k (setPos (c.getD k ct0) 0), 0)) := by
   unfold offV; rw [if_neg (by omega), if_neg (by omega), hkk]; rfl
  rw [hF, hkk]
  have hkl : k < c.length := by omega
  have ekn : ((k : Int)).toNat = k := by omega
  have hkn : (c.getD k ct0).num = n := by
   have h0 : 0 ≤ numIdx c n := by omega
   obtain ⟨_, g2, _⟩ := idxV_spec (d := ct0) (p := fun (y : Cnt) => decide (y.num = n)) (l := c) h0
   have g2 : decide ((c.getD (numIdx c n).toNat ct0).num = n) = true := g2
   rw [hkk, ekn] at g2
   exact of_decide_eq_true g2
  have hgl := gr_last hC hkl
  have hgn := gr_next hC (c.getD k ct0).flt
  obtain ⟨hg0, hg1, hg2⟩ := grV_spec c (c.getD k ct0).flt
  have hg24 : grV c (c.getD k ct0).flt ≤ 24 := by
   rcases hg2 with q | ⟨o, ho, _, q⟩
   · omega
   · obtain ⟨j, hj, rfl⟩ := getD_ct ho
     have := (pos_bd hC hj).2; omega
  obtain ⟨o, ho⟩ : ∃ o, c.getD k ct0 = o := ⟨_, rfl⟩
  have eo : c.getD k (0, (ByteArray.empty, 0, ByteArray.empty, 0), 0, 0, 0, 0, 0, []) = o := ho
  have hom : o ∈ c := by rw [← ho]; exact getD_mem hkl
  rw [ho] at hkn hgl hgn hg0 hg24
  rw [hkn] at hgl
  simp only [ekn, eo, ho]
  refine ⟨⟨by omega, by omega⟩, fun _ _ => ⟨fun q => ?_, fun q => ?_⟩⟩
  · rw [if_pos q]; exact ⟨rfl, rfl⟩
  rw [if_neg q]
  have hgl := hgl q
  have hg5 : grV c o.2.1 = grV c o.flt := rfl
  have hp5 : o.2.2.2.2.2.1 = o.pos := rfl
  simp only [hg5, hp5]
  (repeat' (with_reducible (first | refine And.intro ?_ ?_ | intro _))) <;> (try (first | with_reducible (first | done | assumption | omega | contradiction) | decide))
  all_goals first
   | omega
   | exact hpc _ (by assumption)
   | (have h : grV c o.flt > o.pos := by assumption
      rw [if_pos (hgl.2 h)])
   | (have h : ¬ grV c o.flt > o.pos := by first | assumption | omega
      rw [if_neg (fun r => h (hgl.1 r))]; done)
   | (have h : ¬ grV c o.flt > o.pos := by first | assumption | omega
      rw [if_neg (fun r => h (hgl.1 r))]; rfl)
   | fail)
def con21 : Con := { ps := [.d false (.sl yCT), .d false (.int .i64)], rs := [.d false (.sl yCT), .d false (.int .i64)], pre := fun _ => True, out := fun (x : List Cnt × Int × Unit) => ((onV x.1 x.2.1).1, (onV x.1 x.2.1).2, ()), nw := id }
theorem c21 : CtrOk Tryz.prog 21 con21.ctr :=
 con_sound (G := ⟨[(38, con38.ctr), (24, con24.ctr), (40, con40.ctr), (41, con41.ctr)], [], [], [], []⟩) tab_ok (EnvOk.cons c38 has38 (EnvOk.cons c24 has24 (EnvOk.cons c40 has40 (EnvOk.cons c41 has41 EnvOk.nil)))) rfl Tryz.func21 rfl con21 34393826291 (by kernel_rfl) (by decide) (by decide) rfl (by decide) rfl (by
  rintro ⟨(c : List Cnt), (n : Int), _⟩ hpre hwf X hT hG hk hK
  (simp -implicitDefEqProofs (maxSteps := 4000000) only [go_sem, Bool.not_eq_true', Bool.not_eq_false', Bool.or_eq_true, Bool.or_eq_false_iff, Bool.and_eq_true, Bool.and_eq_false_iff, decide_eq_true_eq, decide_eq_false_iff_not, Classical.not_not, not_or, maxLen, con21, con38, con24, con40, con41, hT, hG, hk, hK, Tryz.results21] at hwf ⊢); (try simp (disch := decide +kernel) only [drawn, true_and, and_true])
  clear hwf
  have hni := idxV_lt (fun (x : Cnt) => decide (x.num = n)) c
  have hni1 : -1 ≤ numIdx c n := hni.1
  have hni2 : numIdx c n < c.length := hni.2
  refine fun _ => ⟨fun h => ?_, fun h _ => ⟨fun h2 => ?_, fun h2 => ?_⟩⟩
  · have e : onV c n = ([], checkV c) := by unfold onV; rw [if_pos h]
    rw [e]; exact ⟨rfl, rfl⟩
  · have e : onV c n = ([], 6) := by unfold onV; rw [if_neg (by omega), if_pos h2]
    rw [e]; exact ⟨rfl, rfl⟩
  have hC := checkV_iff.1 h
  have hlen := hC.len
  have hpc : ∀ o ∈ c, o.pcs.length ≤ 100000 := fun o ho => by have := (hC.ok o ho).2.1; omega
  obtain ⟨k, hkk⟩ : ∃ k : Nat, numIdx c n = k := ⟨(numIdx c n).toNat, by omega⟩
  have hF : onV c n = (if (c.getD k ct0).pos ≠ 0 then ([], 7) else if nextP c (c.getD k ct0).flt > 24 then ([], 8) else (c.set k (setPos (c.getD k ct0) (nextP c (c.getD k ct0).flt)), 0)) := by
   unfold onV; rw [if_neg (by omega), if_neg (by omega), hkk]; rfl
  rw [hF, hkk]
  have hkl : k < c.length := by omega
  have ekn : ((k : Int)).toNat = k := by omega
  have hkn : (c.getD k ct0).num = n := by
   have h0 : 0 ≤ numIdx c n := by omega
   obtain ⟨_, g2, _⟩ := idxV_spec (d := ct0) (p := fun (y : Cnt) => decide (y.num = n)) (l := c) h0
   have g2 : decide ((c.getD (numIdx c n).toNat ct0).num = n) = true := g2
   rw [hkk, ekn] at g2
   exact of_decide_eq_true g2
  have hgl := gr_last hC hkl
  have hgn := gr_next hC (c.getD k ct0).flt
  obtain ⟨hg0, hg1, hg2⟩ := grV_spec c (c.getD k ct0).flt
  have hg24 : grV c (c.getD k ct0).flt ≤ 24 := by
   rcases hg2 with q | ⟨o, ho, _, q⟩
   · omega
   · obtain ⟨j, hj, rfl⟩ := getD_ct ho
     have := (pos_bd hC hj).2; omega
  obtain ⟨o, ho⟩ : ∃ o, c.getD k ct0 = o := ⟨_, rfl⟩
  have eo : c.getD k (0, (ByteArray.empty, 0, ByteArray.empty, 0), 0, 0, 0, 0, 0, []) = o := ho
  have hom : o ∈ c := by rw [← ho]; exact getD_mem hkl
  rw [ho] at hkn hgl hgn hg0 hg24
  rw [hkn] at hgl
  simp only [ekn, eo, ho]
  refine ⟨⟨by omega, by omega⟩, fun _ _ => ⟨fun q => ?_, fun q => ?_⟩⟩
  · rw [if_pos q]; exact ⟨rfl, rfl⟩
  rw [if_neg (by exact fun r => r q)]
  have hg5 : grV c o.2.1 = grV c o.flt := rfl
  simp only [hg5, hgn]
  (repeat' (with_reducible (first | refine And.intro ?_ ?_ | intro _))) <;> (try (first | with_reducible (first | done | assumption | omega | contradiction) | decide))
  all_goals first
   | omega
   | exact hpc _ (by assumption)
   | (rw [if_pos (by omega)]; done)
   | (rw [if_neg (by omega)]; done)
   | (rw [if_neg (by omega)]; rfl)
   | fail)
end Go.Proofs.YteheklpenjjfaaaGreat

/- The reference's Order. -/
set_option linter.unusedSimpArgs false
set_option linter.unusedVariables false
set_option maxRecDepth 100000
set_option maxHeartbeats 8000000
namespace Go.Proofs.YteheklpenjjfaaaGreat
open Go.Ev

/-- The container that a task wants. -/
def wnV (c : List Cnt) (u : Tsk) : Cnt := c.getD (numIdx c u.1).toNat ct0
/-- The least position of a wanted container of the flight; none: 0. -/
def lsS (c : List Cnt) (f : Flt) (n : Int) (u : Tsk) : Int := if (wnV c u).flt = f ∧ 0 < (wnV c u).pos ∧ (n = 0 ∨ (wnV c u).pos < n) then (wnV c u).pos else n
def lsV (c : List Cnt) (f : Flt) (t : List Tsk) : Int := t.foldl (lsS c f) 0
theorem lsV_snoc (c : List Cnt) (f : Flt) (t : List Tsk) (u : Tsk) : lsV c f (t ++ [u]) = lsS c f (lsV c f t) u := by
 unfold lsV; rw [List.foldl_append]; rfl
theorem lsV_spec (c : List Cnt) (f : Flt) (t : List Tsk) : 0 ≤ lsV c f t ∧ (∀ u ∈ t, (wnV c u).flt = f → 0 < (wnV c u).pos → lsV c f t ≠ 0 ∧ lsV c f t ≤ (wnV c u).pos) ∧ (lsV c f t = 0 ∨ ∃ u ∈ t, (wnV c u).flt = f ∧ 0 < (wnV c u).pos ∧ (wnV c u).pos = lsV c f t) := by
 have key : ∀ i, i ≤ t.length → 0 ≤ lsV c f (t.take i) ∧ (∀ u ∈ t.take i, (wnV c u).flt = f → 0 < (wnV c u).pos → lsV c f (t.take i) ≠ 0 ∧ lsV c f (t.take i) ≤ (wnV c u).pos) ∧ (lsV c f (t.take i) = 0 ∨ ∃ u ∈ t.take i, (wnV c u).flt = f ∧ 0 < (wnV c u).pos ∧ (wnV c u).pos = lsV c f (t.take i)) := by
  intro i
  induction i with
  | zero => intro _; exact ⟨Int.le_refl _, fun o h => (by cases h), .inl rfl⟩
  | succ i ih =>
    intro hi
    obtain ⟨h1, h2, h3⟩ := ih (by omega)
    rw [List.take_succ_eq_append_getElem (by omega), lsV_snoc]
    unfold lsS
    by_cases q : (wnV c t[i]).flt = f ∧ 0 < (wnV c t[i]).pos ∧ (lsV c f (t.take i) = 0 ∨ (wnV c t[i]).pos < lsV c f (t.take i))
    · rw [if_pos q]
      refine ⟨by omega, fun o ho hf hp => ?_, ?_⟩
      · rcases List.mem_append.1 ho with h | h
        · have := h2 o h hf hp; omega
        · rw [List.mem_singleton.1 h]; omega
      · exact .inr ⟨t[i], List.mem_append_right _ (List.mem_singleton.2 rfl), q.1, q.2.1, rfl⟩
    · rw [if_neg q]
      refine ⟨h1, fun o ho hf hp => ?_, ?_⟩
      · rcases List.mem_append.1 ho with h | h
        · exact h2 o h hf hp
        · rw [List.mem_singleton.1 h] at hf hp ⊢
          have q2 : ¬ (lsV c f (t.take i) = 0 ∨ (wnV c t[i]).pos < lsV c f (t.take i)) := fun z => q ⟨hf, hp, z⟩
          omega
      · rcases h3 with h | ⟨o, ho, hf, hp, e⟩
        · exact .inl h
        · exact .inr ⟨o, List.mem_append_left _ ho, hf, hp, e⟩
 have := key t.length (Nat.le_refl _)
 rwa [List.take_length] at this
theorem drop_sel {p : Cnt → Bool} {L : Int} : ∀ (st : List Cnt), st.Pairwise (fun a b => a.pos < b.pos) → (∀ x ∈ st, p x = true → L ≤ x.pos) → (∃ x ∈ st, p x = true ∧ x.pos = L) → st.dropWhile (fun x => !p x) = st.filter (fun x => decide (L ≤ x.pos))
 | [], _, _, ⟨x, h, _⟩ => by cases h
 | x :: r, hs, h1, h2 => by
   rw [List.pairwise_cons] at hs
   by_cases q : p x = true
   · rw [List.dropWhile_cons_of_neg (by rw [q]; simp)]
     symm
     apply List.filter_eq_self.2
     intro y hy
     have hx := h1 x List.mem_cons_self q
     rcases List.mem_cons.1 hy with e | e
     · rw [e]; exact decide_eq_true hx
     · have := hs.1 y e; exact decide_eq_true (by omega)
   · rw [List.dropWhile_cons_of_pos (by simpa using q)]
     obtain ⟨y, hy, e1, e2⟩ := h2
     have hyr : y ∈ r := by
      rcases List.mem_cons.1 hy with e | e
      · rw [e] at e1; exact absurd e1 q
      · exact e
     have hlt := hs.1 y hyr
     have e9 : decide (L ≤ x.pos) = false := decide_eq_false (by omega)
     rw [List.filter_cons, e9, if_neg (by simp)]
     exact drop_sel r hs.2 (fun z hz => h1 z (List.mem_cons_of_mem _ hz)) ⟨y, hyr, e1, e2⟩
theorem split_sel {q : Int} : ∀ (st : List Cnt), st.Pairwise (fun a b => a.pos < b.pos) → st.filter (fun x => decide (q ≤ x.pos)) = st.filter (fun x => decide (x.pos = q)) ++ st.filter (fun x => decide (q + 1 ≤ x.pos))
 | [], _ => rfl
 | x :: r, hs => by
   rw [List.pairwise_cons] at hs
   have ih := split_sel (q := q) r hs.2
   rcases Int.lt_trichotomy x.pos q with h | h | h
   · have e1 : decide (q ≤ x.pos) = false := decide_eq_false (by omega)
     have e2 : decide (x.pos = q) = false := decide_eq_false (by omega)
     have e3 : decide (q + 1 ≤ x.pos) = false := decide_eq_false (by omega)
     simp only [List.filter_cons, e1, e2, e3, Bool.false_eq_true, if_false]
     exact ih
   · have e1 : decide (q ≤ x.pos) = true := decide_eq_true (by omega)
     have e2 : decide (x.pos = q) = true := decide_eq_true (by omega)
     have e3 : decide (q + 1 ≤ x.pos) = false := decide_eq_false (by omega)
     simp only [List.filter_cons, e1, e2, e3, Bool.false_eq_true, if_false, if_true]
     rw [ih]; rfl
   · have e1 : decide (q ≤ x.pos) = true := decide_eq_true (by omega)
     have e2 : decide (x.pos = q) = false := decide_eq_false (by omega)
     have e3 : decide (q + 1 ≤ x.pos) = true := decide_eq_true (by omega)
     simp only [List.filter_cons, e1, e2, e3, Bool.false_eq_true, if_false, if_true]
     have e4 : r.filter (fun x => decide (x.pos = q)) = [] := List.filter_eq_nil_iff.2 (fun y hy e => by
      have := hs.1 y hy
      have := of_decide_eq_true e
      omega)
     rw [ih, e4]; rfl
theorem len1 {α : Type} {p : α → Bool} : ∀ (l : List α), l.Pairwise (fun a b => p a = true → p b = true → False) → (l.filter p).length ≤ 1
 | [], _ => Nat.zero_le _
 | x :: r, h => by
   rw [List.pairwise_cons] at h
   by_cases q : p x = true
   · rw [List.filter_cons_of_pos q, List.filter_eq_nil_iff.2 (fun y hy e => h.1 y hy q e)]; exact Nat.le_refl _
   · rw [List.filter_cons_of_neg q]; exact len1 r h.2
theorem perm1 {α : Type} {l m : List α} (h : l.Perm m) (hl : l.length ≤ 1) : l = m := by
 match l, h, hl with
 | [], h, _ => exact (List.nil_perm.1 h).symm
 | [a], h, _ => exact List.singleton_perm.1 h
 | _ :: _ :: _, _, hl => simp at hl
theorem rev1 {α : Type} {l : List α} (hl : l.length ≤ 1) : l.reverse = l := by
 match l, hl with
 | [], _ => rfl
 | [a], _ => rfl
 | _ :: _ :: _, hl => simp at hl
/-- A flight's containers at a position. -/
def atV (f : Flt) (p : Int) (o : Cnt) : Bool := decide (o.flt = f) && decide (o.pos = p)
def selV (c : List Cnt) (f : Flt) (p : Int) : List Cnt := c.filter (atV f p)
/-- Numbers from position 24 downward. -/
def dnV (c : List Cnt) (f : Flt) : Nat → List Int
 | 0 => []
 | m + 1 => dnV c f m ++ (selV c f (24 - m)).map (fun x => x.num)
theorem sel_len {c : List Cnt} (hC : CtsOk c) (f : Flt) {p : Int} (hp : p ≠ 0) : (selV c f p).length ≤ 1 := by
 refine len1 c (hC.pos.imp fun {a b} h h1 h2 => ?_)
 unfold atV at h1 h2
 rw [Bool.and_eq_true, decide_eq_true_eq, decide_eq_true_eq] at h1 h2
 exact h (by rw [h2.2]; exact hp) (h1.2.trans h2.2.symm) (h1.1.trans h2.1.symm)
theorem sel_abo {c : List Cnt} (hC : CtsOk c) (f : Flt) {p : Int} (hp : p ≠ 0) : (aboV c f).filter (fun x => decide (x.pos = p)) = selV c f p := by
 have h1 : ((aboV c f).filter (fun x => decide (x.pos = p))).Perm ((c.filter (onB f)).filter (fun x => decide (x.pos = p))) := (List.mergeSort_perm _ _).filter _
 have h2 : (c.filter (onB f)).filter (fun x => decide (x.pos = p)) = selV c f p := by
  rw [List.filter_filter]
  unfold selV
  refine List.filter_congr fun x _ => ?_
  unfold atV onB
  rw [Bool.eq_iff_iff]
  simp only [Bool.and_eq_true, decide_eq_true_eq]
  constructor
  · rintro ⟨a, b, _⟩; exact ⟨b, a⟩
  · rintro ⟨a, b⟩; exact ⟨b, a, by omega⟩
 rw [h2] at h1
 exact (perm1 h1.symm (sel_len hC f hp)).symm
theorem abo_pw {c : List Cnt} (hC : CtsOk c) (f : Flt) : (aboV c f).Pairwise (fun a b => a.pos < b.pos) := (pw_getD ct0).2 (abo_lt hC f)
theorem dn_eq {c : List Cnt} (hC : CtsOk c) (f : Flt) : ∀ m : Nat, m ≤ 24 → dnV c f m = (((aboV c f).filter (fun x => decide (25 - (m : Int) ≤ x.pos))).map (fun x => x.num)).reverse
 | 0, _ => by
   have : (aboV c f).filter (fun x => decide (25 - ((0 : Nat) : Int) ≤ x.pos)) = [] := List.filter_eq_nil_iff.2 (fun x hx e => by
    obtain ⟨r, hr, rfl⟩ := getD_ct hx
    have := (abo_pos (f := f) hC hr).2.1
    have := of_decide_eq_true e
    omega)
   rw [this]; rfl
 | m + 1, hm => by
   rw [dnV, dn_eq hC f m (by omega), show (25 - ((m + 1 : Nat) : Int)) = 24 - (m : Int) by omega, split_sel (q := 24 - (m : Int)) _ (abo_pw hC f), sel_abo hC f (by omega), show (24 - (m : Int) + 1) = 25 - (m : Int) by omega, List.map_append, List.reverse_append, rev1 (l := (selV c f (24 - (m : Int))).map _) (by rw [List.length_map]; exact sel_len hC f (by omega))]
theorem dn_len {c : List Cnt} (hC : CtsOk c) (f : Flt) : ∀ m : Nat, m ≤ 24 → (dnV c f m).length ≤ m
 | 0, _ => Nat.le_refl _
 | m + 1, hm => by
   rw [dnV, List.length_append, List.length_map]
   have := dn_len hC f m (by omega)
   have := sel_len hC f (p := 24 - (m : Int)) (by omega)
   omega
/-- How many positions are looked at. -/
def stV (L : Int) : Nat := if L = 0 then 0 else (25 - L).toNat
theorem wn_spec {c : List Cnt} {u : Tsk} (h0 : ¬ numIdx c u.1 < 0) : wnV c u ∈ c ∧ (wnV c u).num = u.1 := by
 obtain ⟨g1, g2, _⟩ := idxV_spec (d := ct0) (p := fun (y : Cnt) => decide (y.num = u.1)) (l := c) (by unfold numIdx at h0; omega)
 exact ⟨getD_mem g1, of_decide_eq_true g2⟩
theorem ord_dn {c : List Cnt} (hC : CtsOk c) (f : Flt) {t : List Tsk} (ht : ∀ u ∈ t, ¬ numIdx c u.1 < 0) : lsV c f t ≤ 24 ∧ orderL (aboV c f) t = dnV c f (stV (lsV c f t)) := by
 obtain ⟨h1, h2, h3⟩ := lsV_spec c f t
 have hin : ∀ x ∈ aboV c f, hitV t x = true → lsV c f t ≠ 0 ∧ lsV c f t ≤ x.pos := fun x hx hh => by
  obtain ⟨m1, m2, m3⟩ := aboV_mem.1 hx
  obtain ⟨u, hu, e⟩ := List.any_eq_true.1 hh
  have e := of_decide_eq_true e
  obtain ⟨w1, w2⟩ := wn_spec (ht u hu)
  obtain ⟨i, hi, ei⟩ := getD_ct m1
  obtain ⟨j, hj, ej⟩ := getD_ct w1
  have hij : i = j := num_inj hC hi hj (by rw [ei, ej, w2]; exact e.symm)
  have ex : wnV c u = x := by rw [← ej, ← hij, ei]
  have hb := (pos_bd hC hi).1
  rw [ei] at hb
  have := h2 u hu (by rw [ex]; exact m2) (by rw [ex]; omega)
  rwa [ex] at this
 have hb : lsV c f t ≤ 24 := by
  rcases h3 with h | ⟨u, hu, hf, hp, e⟩
  · omega
  · obtain ⟨j, hj, ej⟩ := getD_ct (wn_spec (ht u hu)).1
    have := (pos_bd hC hj).2
    rw [ej] at this; omega
 refine ⟨hb, ?_⟩
 unfold orderL stV
 rcases h3 with h | ⟨u, hu, hf, hp, e⟩
 · rw [if_pos h]
   have : (aboV c f).dropWhile (fun x => !hitV t x) = [] := by
    have := dropW (p := fun x => !hitV t x) (aboV c f) [] (fun x hx => by
     cases hh : hitV t x with
     | false => rfl
     | true => exact absurd h (hin x hx hh).1) (fun x hx => by cases hx)
    rwa [List.append_nil] at this
   rw [this]; rfl
 · rw [if_neg (by omega), dn_eq hC f _ (by omega), drop_sel (L := lsV c f t) _ (abo_pw hC f) (fun x hx hh => (hin x hx hh).2) ⟨wnV c u, aboV_mem.2 ⟨(wn_spec (ht u hu)).1, hf, by omega⟩, List.any_eq_true.2 ⟨u, hu, decide_eq_true (wn_spec (ht u hu)).2.symm⟩, e⟩, show (25 - (((25 - lsV c f t).toNat : Nat) : Int)) = lsV c f t by omega]
def con15 : Con := { ps := [.d false (.sl yCT), .d true yFL, .d false (.sl yTK)], rs := [.d false (.sl (.int .i64)), .d false (.int .i64)], pre := fun _ => True, out := fun (x : List Cnt × Flt × List Tsk × Unit) => ((ordV x.1 x.2.1 x.2.2.1).1, (ordV x.1 x.2.1 x.2.2.1).2, ()), nw := id }
theorem c15 : CtrOk Tryz.prog 15 con15.ctr :=
 con_sound (G := ⟨[(38, con38.ctr), (24, con24.ctr)], [], [], [], []⟩) tab_ok (EnvOk.cons c38 has38 (EnvOk.cons c24 has24 EnvOk.nil)) rfl Tryz.func15 rfl con15 2475889671165909289293905879 (by kernel_rfl) (by decide) (by decide) rfl (by decide) rfl (by
  rintro ⟨(c : List Cnt), ⟨f1, (f2 : Int), f3, (f4 : Int)⟩, (t : List Tsk), _⟩ hpre hwf X hT hG hk hK
  (simp -implicitDefEqProofs (maxSteps := 4000000) only [go_sem, Bool.not_eq_true', Bool.not_eq_false', Bool.or_eq_true, Bool.or_eq_false_iff, Bool.and_eq_true, Bool.and_eq_false_iff, decide_eq_true_eq, decide_eq_false_iff_not, Classical.not_not, not_or, maxLen, con15, con38, con24, hT, hG, hk, hK, Tryz.results15] at hwf ⊢); (try simp (disch := decide +kernel) only [drawn, true_and, and_true])
  clear hwf
  obtain ⟨f, hf⟩ : ∃ f : Flt, (f1, f2, f3, f4) = f := ⟨_, rfl⟩
  simp only [hf]
  refine fun _ => ⟨fun h => ?_, fun h => ?_⟩
  · have e : ordV c f t = ([], checkV c) := by unfold ordV; rw [if_pos h]
    rw [e]; exact ⟨rfl, rfl⟩
  have hC := checkV_iff.1 h
  have hlen := hC.len
  have hoA : t.any (fun u => decide (numIdx c u.1 < 0)) = true → ordV c f t = ([], 6) := fun q => by unfold ordV; rw [if_neg (by omega), if_pos q]
  have hoB : ¬ t.any (fun u => decide (numIdx c u.1 < 0)) = true → ordV c f t = (orderL (aboV c f) t, 0) := fun q => by unfold ordV; rw [if_neg (by omega), if_neg q]
  refine evk_loop ⟨{ i : Nat // i ≤ t.length ∧ ∀ k, k < i → ¬ numIdx c (t.getD k tk0).1 < 0 }, 1000, fun q => [(0, .one (.sl yCT c false)), (2, .one (.sl yTK t false)), (4, .one (.loc 70 0)), (9, .one (.int .i64 (lsV c f (t.take q.1)))), (10, .one (.int .i64 q.1))], fun q => [(70, .cells 25 [.str f.1, .int .i64 f.2.1, .str f.2.2.1, .int .i64 f.2.2.2])], fun q => t.length - q.1⟩ ⟨0, Nat.zero_le _, fun k hk => by omega⟩ ?_ ?_
  · subst hf
    simp only [go_sem]
    try (first | rfl | exact ⟨rfl, rfl⟩ | (and_intros <;> first | trivial | rfl | omega))
  · rintro ⟨i, (hi : i ≤ t.length), hz⟩
    (simp -implicitDefEqProofs (maxSteps := 4000000) only [go_sem, Bool.not_eq_true', Bool.not_eq_false', Bool.or_eq_true, Bool.or_eq_false_iff, Bool.and_eq_true, Bool.and_eq_false_iff, decide_eq_true_eq, decide_eq_false_iff_not, Classical.not_not, not_or, maxLen, con15, con38, con24, hT, hG, hk, hK, Tryz.results15]); (try simp (disch := decide +kernel) only [drawn, true_and, and_true])
    obtain ⟨o, ho⟩ : ∃ o, t.getD i tk0 = o := ⟨_, rfl⟩
    have eo : t.getD (i : Int).toNat (0, []) = o := ho
    try simp only [eo, hf]
    have hst : i < t.length → lsV c f (t.take (i + 1)) = lsS c f (lsV c f (t.take i)) o := fun h => by
     rw [List.take_succ_eq_append_getElem h, ← getD_lt (d := tk0) h, ho, lsV_snoc]
    refine fun _ => ⟨fun hlt => ⟨⟨by omega, hlt⟩, fun _ _ _ => ⟨fun hq => ?_, fun hq => ⟨?_, fun _ _ => ?_⟩⟩⟩, fun hge => ?_⟩
    · rw [hoA (List.any_eq_true.2 ⟨o, by rw [← ho]; exact getD_mem (by omega), decide_eq_true hq⟩)]; exact ⟨rfl, rfl⟩
    · have hni := (idxV_lt (fun (x : Cnt) => decide (x.num = o.1)) c).2
      have hni : numIdx c o.1 < c.length := hni
      omega
    · obtain ⟨w, hw⟩ : ∃ w, wnV c o = w := ⟨_, rfl⟩
      have ew : c.getD (numIdx c o.1).toNat (0, (ByteArray.empty, 0, ByteArray.empty, 0), 0, 0, 0, 0, 0, []) = w := hw
      simp only [ew]
      have h1 := hst (by omega)
      unfold lsS at h1
      rw [hw] at h1
      refine ⟨fun h => ⟨h, fun h2 => ⟨h, h2⟩⟩, fun h => ⟨by omega, ?_⟩, fun h => ⟨by omega, ?_⟩⟩
      · rw [if_pos ⟨(fltE w.2.1 f).mp h.1.1, h.1.2, h.2⟩] at h1
        refine fin_lp ⟨i + 1, by omega, lt_succ hz (by rw [ho]; exact hq)⟩ ?_ (by dsimp only; omega)
        simp only [go_sem]
        rw [h1]
        try (first | rfl | exact ⟨rfl, rfl⟩ | (and_intros <;> first | trivial | rfl | omega))
      · rw [if_neg (fun q => by
         rcases h with (g | g) | g
         · exact (fltN w.2.1 f).mp g q.1
         · exact g q.2.1
         · exact g.2 (q.2.2.resolve_left g.1))] at h1
        refine fin_lp ⟨i + 1, by omega, lt_succ hz (by rw [ho]; exact hq)⟩ ?_ (by dsimp only; omega)
        simp only [go_sem]
        rw [h1]
        try (first | rfl | exact ⟨rfl, rfl⟩ | (and_intros <;> first | trivial | rfl | omega))
    · have hall : ∀ u ∈ t, ¬ numIdx c u.1 < 0 := fun u hu => by
       obtain ⟨k, hk, rfl⟩ := List.mem_iff_getElem.1 hu
       have := hz k (by omega)
       rwa [getD_lt hk] at this
      have hoC := hoB (fun q => by
       obtain ⟨x, hx, hq⟩ := List.any_eq_true.1 q
       exact hall x hx (of_decide_eq_true hq))
      obtain ⟨hL, hO⟩ := ord_dn hC f hall
      have hL0 := (lsV_spec c f t).1
      have e3 : t.take i = t := List.take_of_length_le (by omega)
      rw [hO] at hoC
      simp only [e3]
      generalize lsV c f t = L at hL hL0 hoC ⊢
      have hM : stV L ≤ 24 := by unfold stV; split <;> omega
      refine evk_loop ⟨{ m : Nat // m ≤ stV L }, 3000, fun q => [(0, .one (.sl yCT c false)), (4, .one (.loc 70 0)), (9, .one (.int .i64 L)), (13, .one (.row 66)), (14, .one (.int .i64 (24 - (q.1 : Int))))], fun q => [(66, .row 3 (.int .i64) (dnV c f q.1)), (70, .cells 25 [.str f.1, .int .i64 f.2.1, .str f.2.2.1, .int .i64 f.2.2.2])], fun q => stV L - q.1⟩ ⟨0, Nat.zero_le _⟩ ?_ ?_
      · simp only [go_sem]
        try (first | rfl | exact ⟨rfl, rfl⟩ | (and_intros <;> first | trivial | rfl | omega))
      · rintro ⟨m, (hm : m ≤ stV L)⟩
        (simp -implicitDefEqProofs (maxSteps := 4000000) only [go_sem, Bool.not_eq_true', Bool.not_eq_false', Bool.or_eq_true, Bool.or_eq_false_iff, Bool.and_eq_true, Bool.and_eq_false_iff, decide_eq_true_eq, decide_eq_false_iff_not, Classical.not_not, not_or, maxLen, con15, con38, con24, hT, hG, hk, hK, Tryz.results15]); (try simp (disch := decide +kernel) only [drawn, true_and, and_true])
        try simp only [hf]
        refine ⟨fun hc => ?_, fun hn => ?_⟩
        · have hm1 : m < stV L := by unfold stV; rw [if_neg (by omega)]; omega
          have hdl := dn_len hC f m (by omega)
          have hsn : ∀ i, i < c.length → ((c.take (i + 1)).filter (atV f (24 - (m : Int)))).map (fun x => x.num) = ((c.take i).filter (atV f (24 - (m : Int)))).map (fun x => x.num) ++ (if atV f (24 - (m : Int)) (c.getD i ct0) = true then [(c.getD i ct0).num] else []) := fun i hi => by
           rw [List.take_succ_eq_append_getElem hi, ← getD_lt (d := ct0) hi, List.filter_append, List.map_append]
           congr 1
           by_cases q : atV f (24 - (m : Int)) (c.getD i ct0) = true
           · rw [if_pos q, List.filter_cons_of_pos q]; rfl
           · rw [if_neg q, List.filter_cons_of_neg q]; rfl
          have hfl : ∀ i, (((c.take i).filter (atV f (24 - (m : Int)))).map (fun x => x.num)).length ≤ 24 := fun i => by
           have := List.length_filter_le (atV f (24 - (m : Int))) (c.take i)
           rw [List.length_take] at this
           rw [List.length_map]; omega
          refine evk_loop ⟨{ i : Nat // i ≤ c.length }, 4000, fun q => [(0, .one (.sl yCT c false)), (4, .one (.loc 70 0)), (9, .one (.int .i64 L)), (13, .one (.row 66)), (14, .one (.int .i64 (24 - (m : Int)))), (15, .one (.int .i64 q.1))], fun q => [(66, .row 3 (.int .i64) (dnV c f m ++ ((c.take q.1).filter (atV f (24 - (m : Int)))).map (fun x => x.num))), (70, .cells 25 [.str f.1, .int .i64 f.2.1, .str f.2.2.1, .int .i64 f.2.2.2])], fun q => c.length - q.1⟩ ⟨0, Nat.zero_le _⟩ ?_ ?_
          · simp only [go_sem]
            simp only [List.take_zero, List.filter_nil, List.map_nil, List.append_nil]
            try (first | rfl | exact ⟨rfl, rfl⟩ | (and_intros <;> first | trivial | rfl | omega))
          · rintro ⟨i2, (hi2 : i2 ≤ c.length)⟩
            (simp -implicitDefEqProofs (maxSteps := 4000000) only [go_sem, Bool.not_eq_true', Bool.not_eq_false', Bool.or_eq_true, Bool.or_eq_false_iff, Bool.and_eq_true, Bool.and_eq_false_iff, decide_eq_true_eq, decide_eq_false_iff_not, Classical.not_not, not_or, maxLen, con15, con38, con24, hT, hG, hk, hK, Tryz.results15]); (try simp (disch := decide +kernel) only [drawn, true_and, and_true])
            obtain ⟨o2, ho2⟩ : ∃ o, c.getD i2 ct0 = o := ⟨_, rfl⟩
            have eo2 : c.getD (i2 : Int).toNat (0, (ByteArray.empty, 0, ByteArray.empty, 0), 0, 0, 0, 0, 0, []) = o2 := ho2
            try simp only [eo2, hf]
            have hs2 := hsn i2
            have hf2 := hfl i2
            have hz2 := hfl (i2 + 1)
            rw [ho2] at hs2
            have hAp : (o2.2.1.1 = f.1 ∧ o2.2.1.2.1 = f.2.1 ∧ o2.2.1.2.2.1 = f.2.2.1 ∧ o2.2.1.2.2.2 = f.2.2.2) ∧ o2.pos = 24 - (m : Int) → atV f (24 - (m : Int)) o2 = true := fun h => by
             unfold atV
             rw [Bool.and_eq_true, decide_eq_true_eq, decide_eq_true_eq]
             exact ⟨(fltE o2.2.1 f).mp h.1, h.2⟩
            have hAn : ¬ ((o2.2.1.1 = f.1 ∧ o2.2.1.2.1 = f.2.1 ∧ o2.2.1.2.2.1 = f.2.2.1 ∧ o2.2.1.2.2.2 = f.2.2.2) ∧ o2.pos = 24 - (m : Int)) → ¬ atV f (24 - (m : Int)) o2 = true := fun h q => by
             unfold atV at q
             rw [Bool.and_eq_true, decide_eq_true_eq, decide_eq_true_eq] at q
             exact h ⟨(fltE o2.2.1 f).mpr q.1, q.2⟩
            have hle2 : ((dnV c f m ++ ((c.take i2).filter (atV f (24 - (m : Int)))).map (fun x => x.num)).length + 1) * 8 ≤ 140737488355328 := by rw [List.length_append]; omega
            refine fun _ => ⟨fun hlt => ⟨⟨by omega, hlt⟩, fun _ _ => ⟨fun _ => ⟨by omega, hlt⟩, fun _ _ => ⟨fun hh => ⟨⟨by omega, hlt⟩, fun _ _ => ⟨hle2, by omega, ?_⟩⟩, fun hh => ⟨by omega, ?_⟩⟩⟩⟩, fun hge2 => ?_⟩
            · have h9 := hs2 (by omega)
              rw [if_pos (hAp hh)] at h9
              refine fin_lp ⟨i2 + 1, by omega⟩ ?_ (by dsimp only; omega)
              simp only [go_sem]
              rw [h9, ← List.append_assoc]
              first | (try (first | rfl | exact ⟨rfl, rfl⟩ | (and_intros <;> first | trivial | rfl | omega)); done) | (and_intros <;> first | rfl | omega) | fail
            · have h9 := hs2 (by omega)
              rw [if_neg (hAn (fun q => by
               rcases hh with g | g
               · exact (fltN o2.2.1 f).mp g ((fltE o2.2.1 f).mp q.1)
               · exact g q.2)), List.append_nil] at h9
              refine fin_lp ⟨i2 + 1, by omega⟩ ?_ (by dsimp only; omega)
              simp only [go_sem]
              rw [h9]
              first | (try (first | rfl | exact ⟨rfl, rfl⟩ | (and_intros <;> first | trivial | rfl | omega)); done) | (and_intros <;> first | rfl | omega) | fail
            · have e5 : c.take i2 = c := List.take_of_length_le (by omega)
              simp only [e5]
              refine ⟨by omega, ?_⟩
              refine fin_lp ⟨m + 1, by omega⟩ ?_ (by dsimp only; omega)
              simp only [go_sem]
              have e6 : dnV c f (m + 1) = dnV c f m ++ (c.filter (atV f (24 - (m : Int)))).map (fun x => x.num) := rfl
              rw [e6]
              first | (try (first | rfl | exact ⟨rfl, rfl⟩ | (and_intros <;> first | trivial | rfl | omega)); done) | (and_intros <;> first | rfl | omega) | fail
        · have hme : m = stV L := by
           unfold stV at hm ⊢
           split
           · rw [if_pos (by assumption)] at hm; omega
           · rw [if_neg (by assumption)] at hm; omega
          rw [hoC, ← hme]
          exact ⟨rfl, rfl⟩)
end Go.Proofs.YteheklpenjjfaaaGreat
