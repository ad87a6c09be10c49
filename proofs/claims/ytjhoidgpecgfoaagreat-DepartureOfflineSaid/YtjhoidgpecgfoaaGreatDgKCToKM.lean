/- The plates that concern a flight. -/
import Derived.Test.YtjhoidgpecgfoaaGreatDgKcToKD
import Derived.Test.YtjhoidgpecgfoaaGreatDgKOToIt
import Derived.Test.YtjhoidgpecgfoaaGreatDgKfToKA
import Derived.Test.YtjhoidgpecgfoaaGreatEvBox
import Derived.Test.YtjhoidgpecgfoaaGreatDgK2ToKeys
import Derived.Test.YtjhoidgpecgfoaaGreatDgKXToKZ
set_option linter.unusedSimpArgs false
set_option linter.unusedVariables false
set_option maxRecDepth 100000
set_option maxHeartbeats 4000000
namespace Go.Proofs.YtjhoidgpecgfoaaGreat
open Go.Ev

def setU (l : List Int) : List (Int × Unit) := l.foldl (fun m x => mset (kt := .int .i64) m x ()) []
theorem setU_push (l : List Int) (x : Int) : setU (l ++ [x]) = mset (kt := .int .i64) (setU l) x () := by
 unfold setU; rw [List.foldl_append]; rfl
theorem setU_in (x : Int) : ∀ (l : List Int), (mget (kt := .int .i64) (setU l) x).isSome = true ↔ x ∈ l := by
 have key : ∀ (l : List Int) (m : List (Int × Unit)), (mget (kt := .int .i64) (l.foldl (fun m x => mset (kt := .int .i64) m x ()) m) x).isSome = true ↔ (x ∈ l ∨ (mget (kt := .int .i64) m x).isSome = true) := by
  intro l
  induction l with
  | nil => intro m; simp
  | cons y l ih =>
    intro m
    rw [List.foldl_cons, ih, mget_mset (kt := .int .i64) (β := Unit) keyEq_int]
    by_cases h : keyEq (.int .i64) x y = true
    · rw [if_pos h]; simp [(keyEq_int x y).1 h]
    · rw [if_neg h]
      have : x ≠ y := fun e => h ((keyEq_int x y).2 e)
      simp [this]
 intro l
 rw [setU, key]
 simp [mget]
def rawC (f : Flt) (o : Cnt) : List Plt := if o.flt = f then o.pcs.map (fun x => x.1) else []
def rawA (f : Flt) (c : List Cnt) : List Plt := c.flatMap (rawC f)
def ownC (f : Flt) (o : Cnt) : List Int := if o.flt = f then [o.num] else []
def ownL (f : Flt) (c : List Cnt) : List Int := c.flatMap (ownC f)
def rawP (f : Flt) (c : List Cnt) (y : Plm) : List Plt := if y.2.2.any (fun n => decide (n ∈ ownL f c)) = true then [y.1.1] else []
def concV (f : Flt) (c : List Cnt) (p : List Plm) : List Plt := setP (rawA f c ++ p.flatMap (rawP f c))
def SmC (c : List Cnt) (p : List Plm) : Prop := c.length ≤ 1000 ∧ (∀ o ∈ c, o.pcs.length ≤ 1000) ∧ p.length ≤ 1000 ∧ ∀ y ∈ p, y.2.2.length ≤ 1000
theorem any_own (f : Flt) (c : List Cnt) (l : List Int) : (l.any fun n => (mget (kt := .int .i64) (setU (ownL f c)) n).isSome) = l.any fun n => decide (n ∈ ownL f c) := by
 congr 1; funext n
 rw [Bool.eq_iff_iff, setU_in, decide_eq_true_eq]
theorem flat_len {α β : Type} (g : α → List β) (n : Nat) : ∀ (l : List α), (∀ x ∈ l, (g x).length ≤ n) → (l.flatMap g).length ≤ n * l.length
 | [], _ => by simp
 | a :: l, h => by
   have h1 := h a (List.mem_cons_self ..)
   have h2 := flat_len g n l fun x hx => h x (List.mem_cons_of_mem _ hx)
   rw [List.flatMap_cons, List.length_append, List.length_cons, Nat.mul_succ]
   omega
theorem flat_take {α β : Type} (g : α → List β) (d : α) {l : List α} {i : Nat} (h : i < l.length) : (l.take (i + 1)).flatMap g = (l.take i).flatMap g ++ g (l.getD i d) := by
 rw [List.take_succ_eq_append_getElem h, List.flatMap_append, getD_lt (d := d) h]; simp
theorem rawC_len (f : Flt) (o : Cnt) : (rawC f o).length ≤ o.pcs.length := by unfold rawC; split <;> simp
theorem rawA_len {f : Flt} {c : List Cnt} {p : List Plm} (h : SmC c p) (i : Nat) : (rawA f (c.take i)).length ≤ 1000000 := by
 have h1 := flat_len (rawC f) 1000 (c.take i) fun x hx => Nat.le_trans (rawC_len f x) (h.2.1 x (List.mem_of_mem_take hx))
 have h2 : (c.take i).length ≤ 1000 := by rw [List.length_take]; have := h.1; omega
 show ((c.take i).flatMap (rawC f)).length ≤ _
 calc _ ≤ 1000 * (c.take i).length := h1
  _ ≤ 1000 * 1000 := Nat.mul_le_mul_left _ h2
  _ ≤ 1000000 := by omega
theorem rawP_len (f : Flt) (c : List Cnt) (p : List Plm) : (p.flatMap (rawP f c)).length ≤ p.length := by
 have := flat_len (rawP f c) 1 p fun y _ => by unfold rawP; split <;> simp
 omega
theorem mem_ownL {f : Flt} {c : List Cnt} {n : Int} : n ∈ ownL f c ↔ oursV f c n = true := by
 unfold ownL oursV
 rw [List.mem_flatMap, List.any_eq_true]
 constructor
 · rintro ⟨o, ho, h⟩
   unfold ownC at h
   split at h
   · rename_i e
     have h : n = o.num := by simpa using h
     exact ⟨o, ho, by rw [Bool.and_eq_true, decide_eq_true_eq, decide_eq_true_eq]; exact ⟨h.symm, e⟩⟩
   · cases h
 · rintro ⟨o, ho, h⟩
   rw [Bool.and_eq_true, decide_eq_true_eq, decide_eq_true_eq] at h
   refine ⟨o, ho, ?_⟩
   unfold ownC
   rw [if_pos h.2, h.1]; exact List.mem_singleton.2 rfl
def con47 : BCon := { ps := [.d false (.int .i64), .bx], rs := [.d false .bool], e := 115, k := .map (.int .i64) .unit false true, pre := fun _ _ => True, out := fun (x : Int × Unit × Unit) z => ((mget (kt := .int .i64) z x.1).isSome, ()), nw := fun x _ => x, nx := fun _ z => z }
theorem c47 : CtrOk Tryz.prog 47 con47.ctr :=
 box_sound (G := ⟨[], [], [], []⟩) tab_ok EnvOk.nil rfl Tryz.func47 rfl con47 43 (by kernel_rfl) (by decide) (by decide) rfl (by decide) rfl (by
  rintro ⟨(n : Int), _⟩ (z : List (Int × Unit)) hpre hwf X hT hG hk hK
  (simp -implicitDefEqProofs only [go_sem, Bool.not_eq_true', Bool.not_eq_false', Bool.or_eq_true, Bool.or_eq_false_iff, Bool.and_eq_true, Bool.and_eq_false_iff, decide_eq_true_eq, decide_eq_false_iff_not, Classical.not_not, not_or, maxLen, con47, hT, hG, hk, hK, Tryz.results47] at hwf ⊢)
  all_goals rfl)
def con103 : BCon := { ps := [.d false (.sl (.int .i64)), .cl 47 [.bx]], rs := [.d false (.int .i64)], e := 115, k := .map (.int .i64) .unit false true, pre := fun _ _ => True, out := fun (x : List Int × (Unit × Unit) × Unit) z => (idxV (fun n => (mget (kt := .int .i64) z n).isSome) x.1, ()), nw := fun x _ => x, nx := fun _ z => z }
theorem c103 : CtrOk Tryz.prog 103 con103.ctr :=
 box_sound (G := ⟨[(47, con47.ctr)], [], [], []⟩) tab_ok (EnvOk.cons c47 has47 EnvOk.nil) rfl Tryz.func103 rfl con103 66483 (by kernel_rfl) (by decide) (by decide) rfl (by decide) rfl (by
  rintro ⟨(l : List Int), _⟩ (z : List (Int × Unit)) hpre hwf X hT hG hk hK
  (simp -implicitDefEqProofs only [go_sem, Bool.not_eq_true', Bool.not_eq_false', Bool.or_eq_true, Bool.or_eq_false_iff, Bool.and_eq_true, Bool.and_eq_false_iff, decide_eq_true_eq, decide_eq_false_iff_not, Classical.not_not, not_or, maxLen, con103, con47, hT, hG, hk, hK, Tryz.results103] at hwf ⊢)
  clear hwf
  refine fun _ => evk_loop ⟨{ i : Nat // i ≤ l.length ∧ ∀ k, k < i → (fun n => (mget (kt := .int .i64) z n).isSome) (l.getD k 0) = false }, 1000, fun q => [(0, .one (.sl (.int .i64) l false)), (1, .one (.fn 47 [.loc 31 0])), (4, .one (.int .i64 0)), (7, .one (.int .i64 l.length)), (8, .one (.int .i64 q.1))], fun q => [(31, .cells 115 [.map 40]), (40, .mapb (.int .i64) .unit false true z)], fun q => l.length - q.1⟩ ⟨0, by omega, fun k hk => by omega⟩ ?_ ?_
  · simp only [go_sem]
    try (first | rfl | exact ⟨rfl, rfl⟩ | (and_intros <;> first | trivial | rfl | omega))
  · rintro ⟨i, (hi : i ≤ l.length), hz⟩
    (simp -implicitDefEqProofs only [go_sem, Bool.not_eq_true', Bool.not_eq_false', Bool.or_eq_true, Bool.or_eq_false_iff, Bool.and_eq_true, Bool.and_eq_false_iff, decide_eq_true_eq, decide_eq_false_iff_not, Classical.not_not, not_or, maxLen, con103, con47, hT, hG, hk, hK, Tryz.results103])
    obtain ⟨o, ho⟩ : ∃ o, l.getD i 0 = o := ⟨_, rfl⟩
    have eo : l.getD (i : Int).toNat 0 = o := ho
    rw [eo]
    (repeat' (with_reducible (first | refine And.intro ?_ ?_ | intro _))) <;> (try (first | with_reducible (first | done | assumption | omega | contradiction) | decide))
    all_goals first
     | rfl
     | (have h : (mget (kt := .int .i64) z o).isSome = true := by assumption
        exact (idxV_at (d := 0) hz (by omega) (by rw [ho]; exact h)).symm)
     | (have h : (mget (kt := .int .i64) z o).isSome = false := by assumption
        refine fin_lp ⟨i + 1, by omega, lt_succ hz (by rw [ho]; exact h)⟩ (by simp only [go_sem]; first | rfl | ((repeat' apply And.intro) <;> first | rfl | assumption | omega)) (by dsimp only; omega)
        done)
     | exact (idxV_none (d := 0) fun k hk => hz k (by omega)).symm)
def con46 : BCon := { ps := [.d false (.sl (.int .i64)), .cl 47 [.bx]], rs := [.d false .bool], e := 115, k := .map (.int .i64) .unit false true, pre := fun _ _ => True, out := fun (x : List Int × (Unit × Unit) × Unit) z => (x.1.any (fun n => (mget (kt := .int .i64) z n).isSome), ()), nw := fun x _ => x, nx := fun _ z => z }
theorem any_idx (g : Int → Bool) (l : List Int) : l.any g = decide (idxV g l ≥ 0) := by
 by_cases h : 0 ≤ idxV g l
 · obtain ⟨h1, h2, _⟩ := idxV_spec (d := 0) h
   rw [decide_eq_true (by omega), List.any_eq_true]
   exact ⟨_, getD_mem h1, h2⟩
 · rw [decide_eq_false (by omega), List.any_eq_false]
   intro x hx
   have := idxV_neg (p := g) (l := l) (by omega) x hx
   rw [this]; exact Bool.false_ne_true
theorem c46 : CtrOk Tryz.prog 46 con46.ctr :=
 box_sound (G := ⟨[(103, con103.ctr)], [], [], []⟩) tab_ok (EnvOk.cons c103 has103 EnvOk.nil) rfl Tryz.func46 rfl con46 19 (by kernel_rfl) (by decide) (by decide) rfl (by decide) rfl (by
  rintro ⟨(l : List Int), _⟩ (z : List (Int × Unit)) hpre hwf X hT hG hk hK
  (simp -implicitDefEqProofs only [go_sem, Bool.not_eq_true', Bool.not_eq_false', Bool.or_eq_true, Bool.or_eq_false_iff, Bool.and_eq_true, Bool.and_eq_false_iff, decide_eq_true_eq, decide_eq_false_iff_not, Classical.not_not, not_or, maxLen, con46, con103, hT, hG, hk, hK, Tryz.results46] at hwf ⊢)
  rw [any_idx]
  (repeat' (with_reducible (first | refine And.intro ?_ ?_ | intro _))) <;> (try (first | with_reducible (first | done | assumption | omega | contradiction) | decide))
  all_goals rfl)
def con15 : Con := { ps := [.d true yFL, .d false (.sl yCT), .d false (.sl yPM)], rs := [.d false (.sl yPL)], pre := fun (x : Flt × List Cnt × List Plm × Unit) => SmC x.2.1 x.2.2.1, out := fun (x : Flt × List Cnt × List Plm × Unit) => (concV x.1 x.2.1 x.2.2.1, ()), nw := id }
theorem c15 : CtrOk Tryz.prog 15 con15.ctr :=
 con_sound (G := ⟨[(46, con46.ctr), (50, con50.ctr)], [(48, con48.rctr)], [], []⟩) tab_ok (EnvOk.cons c46 has46 (EnvOk.cons c50 has50 (EnvOk.rcons c48 has48 EnvOk.nil))) rfl Tryz.func15 rfl con15 9271114292221391 (by kernel_rfl) (by decide) (by decide) rfl (by decide) rfl (by
  rintro ⟨⟨f1, (f2 : Int), f3, (f4 : Int)⟩, (c : List Cnt), (p : List Plm), _⟩ hpre hwf X hT hG hk hK
  have hsm : SmC c p := hpre
  (simp -implicitDefEqProofs only [go_sem, Bool.not_eq_true', Bool.not_eq_false', Bool.or_eq_true, Bool.or_eq_false_iff, Bool.and_eq_true, Bool.and_eq_false_iff, decide_eq_true_eq, decide_eq_false_iff_not, Classical.not_not, not_or, maxLen, con15, con46, con50, con48, hT, hG, hk, hK, Tryz.results15, sortFCon] at hwf ⊢)
  clear hwf
  obtain ⟨F, hF⟩ : ∃ F : Flt, F = (f1, f2, f3, f4) := ⟨_, rfl⟩
  refine fun _ => evk_loop ⟨{ i : Nat // i ≤ c.length }, 1000, fun q => [(2, .one (.sl yPM p false)), (3, .one (.loc 70 0)), (7, .one (.row 71)), (8, .one (.loc 72 0)), (16, .one (.sl yCT c false)), (17, .one (.int .i64 c.length)), (18, .one (.int .i64 q.1))], fun q => [(70, .cells 24 [.str f1, .int .i64 f2, .str f3, .int .i64 f4]), (72, .cells 115 [.map 73]), (71, .row 65 yPL (rawA F (c.take q.1))), (73, .mapb (.int .i64) .unit false true (setU (ownL F (c.take q.1))))], fun q => c.length - q.1⟩ ⟨0, by omega⟩ ?_ ?_
  · simp only [go_sem]
    try (first | rfl | exact ⟨rfl, rfl⟩ | (and_intros <;> first | trivial | rfl | omega))
  · rintro ⟨i, (hi : i ≤ c.length)⟩
    (simp -implicitDefEqProofs only [go_sem, Bool.not_eq_true', Bool.not_eq_false', Bool.or_eq_true, Bool.or_eq_false_iff, Bool.and_eq_true, Bool.and_eq_false_iff, decide_eq_true_eq, decide_eq_false_iff_not, Classical.not_not, not_or, maxLen, con15, con46, con50, con48, hT, hG, hk, hK, Tryz.results15, sortFCon])
    obtain ⟨o, ho⟩ : ∃ o, c.getD i ct0 = o := ⟨_, rfl⟩
    have eo : c.getD (i : Int).toNat (0, (ByteArray.empty, 0, ByteArray.empty, 0), 0, 0, 0, 0, 0, []) = o := ho
    rw [eo]
    have hra : i < c.length → rawA F (c.take (i + 1)) = rawA F (c.take i) ++ rawC F o := fun h => by unfold rawA; rw [flat_take _ ct0 h, ho]
    have hro : i < c.length → ownL F (c.take (i + 1)) = ownL F (c.take i) ++ ownC F o := fun h => by unfold ownL; rw [flat_take _ ct0 h, ho]
    have hlr := rawA_len (f := F) hsm i
    have hlo : i < c.length → o.pcs.length ≤ 1000 := fun h => hsm.2.1 o (by rw [← ho]; exact getD_mem h)
    (repeat' (with_reducible (first | refine And.intro ?_ ?_ | intro _))) <;> (try (first | with_reducible (first | done | assumption | omega | contradiction) | decide))
    all_goals first
     | (have h : ¬ o.2.1.1 = f1 ∨ ¬ o.2.1.2.1 = f2 ∨ ¬ o.2.1.2.2.1 = f3 ∨ ¬ o.2.1.2.2.2 = f4 := by assumption
        have hn : ¬ o.flt = F := by rw [hF]; exact (fltN o.2.1 (f1, f2, f3, f4)).mp h
        have e1 := hra (by omega)
        have e2 := hro (by omega)
        unfold rawC at e1
        unfold ownC at e2
        rw [if_neg hn, List.append_nil] at e1 e2
        refine fin_lp ⟨i + 1, by omega⟩ ?_ (by dsimp only; omega)
        simp only [go_sem]
        rw [e1, e2]
        try (first | rfl | exact ⟨rfl, rfl⟩ | (and_intros <;> first | trivial | rfl | omega))
        done)
     | (have h : o.2.1.1 = f1 ∧ o.2.1.2.1 = f2 ∧ o.2.1.2.2.1 = f3 ∧ o.2.1.2.2.2 = f4 := by assumption
        have hn : o.flt = F := by rw [hF]; exact (fltE o.2.1 (f1, f2, f3, f4)).mp h
        have e1 := hra (by omega)
        have e2 := hro (by omega)
        have hlo := hlo (by omega)
        unfold rawC at e1
        unfold ownC at e2
        rw [if_pos hn] at e1 e2
        rw [← setU_push]
        refine evk_loop ⟨{ k : Nat // k ≤ o.pcs.length }, 1000, fun q => [(2, .one (.sl yPM p false)), (3, .one (.loc 70 0)), (7, .one (.row 71)), (8, .one (.loc 72 0)), (16, .one (.sl yCT c false)), (17, .one (.int .i64 c.length)), (18, .one (.int .i64 i)), (31, .one (.sl yPC o.pcs false)), (32, .one (.int .i64 o.pcs.length)), (33, .one (.int .i64 q.1))], fun q => [(70, .cells 24 [.str f1, .int .i64 f2, .str f3, .int .i64 f4]), (72, .cells 115 [.map 73]), (71, .row 65 yPL (rawA F (c.take i) ++ (o.pcs.take q.1).map (fun x => x.1))), (73, .mapb (.int .i64) .unit false true (setU (ownL F (c.take i) ++ [o.num])))], fun q => o.pcs.length - q.1⟩ ⟨0, by omega⟩ ?_ ?_
        · simp only [go_sem]
          try simp only [List.take_zero, List.map_nil, List.append_nil]
          try (first | rfl | exact ⟨rfl, rfl⟩ | (and_intros <;> first | trivial | rfl | omega))
        · rintro ⟨k, (hk2 : k ≤ o.pcs.length)⟩
          (simp -implicitDefEqProofs only [go_sem, Bool.not_eq_true', Bool.not_eq_false', Bool.or_eq_true, Bool.or_eq_false_iff, Bool.and_eq_true, Bool.and_eq_false_iff, decide_eq_true_eq, decide_eq_false_iff_not, Classical.not_not, not_or, maxLen, con15, con46, con50, con48, hT, hG, hk, hK, Tryz.results15, sortFCon])
          obtain ⟨y, hy⟩ : ∃ y, o.pcs.getD k pc0 = y := ⟨_, rfl⟩
          have ey : o.pcs.getD (k : Int).toNat ((0, 0, 0), 0, 0) = y := hy
          have hps : k < o.pcs.length → (o.pcs.take (k + 1)).map (fun x => x.1) = (o.pcs.take k).map (fun x => x.1) ++ [y.1] := fun h => by rw [pcs_push h, hy]
          have hkl : ((o.pcs.take k).map (fun x : Pce => x.1)).length ≤ 1000 := by rw [List.length_map, List.length_take]; omega
          try rw [ey]
          (repeat' (with_reducible (first | refine And.intro ?_ ?_ | intro _))) <;> (try (first | with_reducible (first | done | assumption | omega | contradiction) | decide))
          all_goals first
           | (have e3 := hps (by omega)
              refine fin_lp ⟨k + 1, by omega⟩ ?_ (by dsimp only; omega)
              simp only [go_sem]
              rw [e3, ← List.append_assoc]
              try (first | rfl | exact ⟨rfl, rfl⟩ | (and_intros <;> first | trivial | rfl | omega))
              done)
           | (have e4 : k = o.pcs.length := by omega
              refine fin_lp ⟨i + 1, by omega⟩ ?_ (by dsimp only; omega)
              simp only [go_sem]
              rw [e1, e2, e4, List.take_length]
              try (first | rfl | exact ⟨rfl, rfl⟩ | (and_intros <;> first | trivial | rfl | omega))
              done)
           | (rw [List.length_append]; omega))
     | (have ei : c.take i = c := List.take_of_length_le (by omega)
        rw [ei]
        refine evk_loop ⟨{ k : Nat // k ≤ p.length }, 1000, fun q => [(3, .one (.loc 70 0)), (7, .one (.row 71)), (8, .one (.loc 72 0)), (44, .one (.sl yPM p false)), (45, .one (.int .i64 p.length)), (46, .one (.int .i64 q.1))], fun q => [(70, .cells 24 [.str f1, .int .i64 f2, .str f3, .int .i64 f4]), (72, .cells 115 [.map 73]), (71, .row 65 yPL (rawA F c ++ (p.take q.1).flatMap (rawP F c))), (73, .mapb (.int .i64) .unit false true (setU (ownL F c)))], fun q => p.length - q.1⟩ ⟨0, by omega⟩ ?_ ?_
        · simp only [go_sem]
          try simp only [List.take_zero, List.flatMap_nil, List.append_nil]
          try (first | rfl | exact ⟨rfl, rfl⟩ | (and_intros <;> first | trivial | rfl | omega))
        · rintro ⟨k, (hk2 : k ≤ p.length)⟩
          (simp -implicitDefEqProofs only [go_sem, Bool.not_eq_true', Bool.not_eq_false', Bool.or_eq_true, Bool.or_eq_false_iff, Bool.and_eq_true, Bool.and_eq_false_iff, decide_eq_true_eq, decide_eq_false_iff_not, Classical.not_not, not_or, maxLen, con15, con46, con50, con48, hT, hG, hk, hK, Tryz.results15, sortFCon])
          obtain ⟨y, hy⟩ : ∃ y, p.getD k pm0 = y := ⟨_, rfl⟩
          have ey : p.getD (k : Int).toNat (((0, 0, 0), 0, 0), 0, []) = y := hy
          have hps : k < p.length → (p.take (k + 1)).flatMap (rawP F c) = (p.take k).flatMap (rawP F c) ++ rawP F c y := fun h => by rw [flat_take _ pm0 h, hy]
          have hkl := rawP_len F c (p.take k)
          have hkl2 : (p.take k).length ≤ 1000 := by rw [List.length_take]; have := hsm.2.2.1; omega
          have hlr := rawA_len (f := F) hsm c.length
          rw [List.take_length] at hlr
          try rw [ey]
          try simp only [any_own]
          (repeat' (with_reducible (first | refine And.intro ?_ ?_ | intro _))) <;> (try (first | with_reducible (first | done | assumption | omega | contradiction) | decide))
          all_goals first
           | (have h : (y.2.2.any fun n => decide (n ∈ ownL F c)) = true := by assumption
              have e3 := hps (by omega)
              unfold rawP at e3
              rw [if_pos h] at e3
              refine fin_lp ⟨k + 1, by omega⟩ ?_ (by dsimp only; omega)
              simp only [go_sem]
              unfold rawP
              rw [e3, ← List.append_assoc]
              try (first | rfl | exact ⟨rfl, rfl⟩ | (and_intros <;> first | trivial | rfl | omega))
              done)
           | (have h : (y.2.2.any fun n => decide (n ∈ ownL F c)) = false := by assumption
              have e3 := hps (by omega)
              unfold rawP at e3
              rw [if_neg (by rw [h]; exact Bool.false_ne_true), List.append_nil] at e3
              refine fin_lp ⟨k + 1, by omega⟩ ?_ (by dsimp only; omega)
              simp only [go_sem]
              unfold rawP
              rw [e3]
              try (first | rfl | exact ⟨rfl, rfl⟩ | (and_intros <;> first | trivial | rfl | omega))
              done)
           | (rw [List.length_append]; omega)
           | (rename_i h _
              have e4 : p.take k = p := List.take_of_length_le (by omega)
              rw [e4] at h
              rw [compP_eq h.1 h.2, hF]
              rfl)))
end Go.Proofs.YtjhoidgpecgfoaaGreat

/- What bars a departure. -/
set_option linter.unusedSimpArgs false
set_option linter.unusedVariables false
set_option maxRecDepth 100000
set_option maxHeartbeats 4000000
namespace Go.Proofs.YtjhoidgpecgfoaaGreat
open Go.Ev

abbrev Hhd := Int × Int × Int × Bool × List (Pce × Flt) × List Cnt × List Opn
abbrev Bar := Int × Int × Plt
def hh0 : Hhd := (0, 0, 0, false, [], [], [])
def brS (n : Int) : List Bar := if n ≠ 0 then [(1, n, (0, 0, 0))] else []
def brH (x : Hhd) : List Bar := if x.2.2.2.1 = true then [(2, x.1, (0, 0, 0))] else []
def brU (p : List Plm) (x : Plt) : List Bar := if uncV p x = true then [(3, 0, x)] else []
def brA (r : List Rlg) (x : Plt) : List Bar := if mayV r x = false then [(4, reasonV r x, x)] else []
def brC (f : Flt) (o : Cnt) : List Bar := if o.flt = f ∧ overV o = true then [(5, o.num, (0, 0, 0))] else []
def barsV (l : List Dpt) (f : Flt) (now : Int) (h : List Hhd) (c : List Cnt) (p : List Plm) (r : List Rlg) : List Bar :=
 brS (stateV l f now) ++ h.flatMap brH ++ (concV f c p).flatMap (brU p) ++ (concV f c p).flatMap (brA r) ++ c.flatMap (brC f)
theorem brS_len (n : Int) : (brS n).length ≤ 1 := by unfold brS; split <;> simp
theorem brH_len (x : Hhd) : (brH x).length ≤ 1 := by unfold brH; split <;> simp
theorem brU_len (p : List Plm) (x : Plt) : (brU p x).length ≤ 1 := by unfold brU; split <;> simp
theorem brA_len (p : List Rlg) (x : Plt) : (brA p x).length ≤ 1 := by unfold brA; split <;> simp
theorem brC_len (f : Flt) (x : Cnt) : (brC f x).length ≤ 1 := by unfold brC; split <;> simp
theorem fl1 {α β : Type} {g : α → List β} (h : ∀ x, (g x).length ≤ 1) (l : List α) : (l.flatMap g).length ≤ l.length := by
 have := flat_len g 1 l fun x _ => h x
 omega
theorem concV_len {f : Flt} {c : List Cnt} {p : List Plm} (h : SmC c p) : (concV f c p).length ≤ 1001000 := by
 unfold concV
 have h1 := setP_len (rawA f c ++ p.flatMap (rawP f c))
 have h2 := rawA_len (f := f) h c.length
 rw [List.take_length] at h2
 have h3 := rawP_len f c p
 have h4 := h.2.2.1
 rw [List.length_append] at h1
 omega
def con53 : BCon := { ps := [.d false (.int .i64), .d false (.int .i64), .d true yPL, .bx], rs := [], e := 50, k := .row 67 yBR, pre := fun _ (z : List Bar) => z.length ≤ 100000000, out := fun _ _ => (), nw := fun x _ => x, nx := fun (x : Int × Int × Plt × Unit × Unit) z => z ++ [(x.1, x.2.1, x.2.2.1)] }
theorem c53 : CtrOk Tryz.prog 53 con53.ctr :=
 box_sound (G := ⟨[], [], [], []⟩) tab_ok EnvOk.nil rfl Tryz.func53 rfl con53 79 (by kernel_rfl) (by decide) (by decide) rfl (by decide) rfl (by
  rintro ⟨(n : Int), (m : Int), ⟨(p1 : Int), (p2 : Int), (p3 : Int)⟩, _⟩ (z : List Bar) hpre hwf X hT hG hk hK
  have hz : z.length ≤ 100000000 := hpre
  (simp -implicitDefEqProofs only [go_sem, Bool.not_eq_true', Bool.not_eq_false', Bool.or_eq_true, Bool.or_eq_false_iff, Bool.and_eq_true, Bool.and_eq_false_iff, decide_eq_true_eq, decide_eq_false_iff_not, Classical.not_not, not_or, maxLen, con53, hT, hG, hk, hK, Tryz.results53] at hwf ⊢)
  (repeat' (with_reducible (first | refine And.intro ?_ ?_ | intro _))) <;> (try (first | with_reducible (first | done | assumption | omega | contradiction) | decide))
  all_goals rfl)
def con17 : Con := { ps := [.d false (.sl yDP), .d true yFL, .d false (.int .i64), .d false (.sl yHH), .d false (.sl yCT), .d false (.sl yPM), .d false (.sl yRU)], rs := [.o 67 yBR], pre := fun (x : List Dpt × Flt × Int × List Hhd × List Cnt × List Plm × List Rlg × Unit) => SmC x.2.2.2.2.1 x.2.2.2.2.2.1 ∧ x.2.2.2.1.length ≤ 1000, out := fun (x : List Dpt × Flt × Int × List Hhd × List Cnt × List Plm × List Rlg × Unit) => (barsV x.1 x.2.1 x.2.2.1 x.2.2.2.1 x.2.2.2.2.1 x.2.2.2.2.2.1 x.2.2.2.2.2.2.1, ()), nw := id }
theorem c17 : CtrOk Tryz.prog 17 con17.ctr :=
 con_sound (G := ⟨[(53, con53.ctr), (54, con54.ctr), (15, con15.ctr), (55, con55.ctr), (57, con57.ctr), (56, con56.ctr), (58, con58.ctr)], [], [], []⟩) tab_ok (EnvOk.cons c53 has53 (EnvOk.cons c54 has54 (EnvOk.cons c15 has15 (EnvOk.cons c55 has55 (EnvOk.cons c57 has57 (EnvOk.cons c56 has56 (EnvOk.cons c58 has58 EnvOk.nil))))))) rfl Tryz.func17 rfl con17 634986180006364451094446981503 (by kernel_rfl) (by decide) (by decide) rfl (by decide) rfl (by
  rintro ⟨(l : List Dpt), ⟨f1, (f2 : Int), f3, (f4 : Int)⟩, (now : Int), (h : List Hhd), (c : List Cnt), (p : List Plm), (r : List Rlg), _⟩ hpre hwf X hT hG hk hK
  obtain ⟨hsm, hhl⟩ : SmC c p ∧ h.length ≤ 1000 := hpre
  (simp -implicitDefEqProofs only [go_sem, Bool.not_eq_true', Bool.not_eq_false', Bool.or_eq_true, Bool.or_eq_false_iff, Bool.and_eq_true, Bool.and_eq_false_iff, decide_eq_true_eq, decide_eq_false_iff_not, Classical.not_not, not_or, maxLen, con17, con53, con54, con15, con55, con57, con56, con58, hT, hG, hk, hK, Tryz.results17] at hwf ⊢); (try simp (disch := decide +kernel) only [drawn, true_and, and_true])
  clear hwf
  obtain ⟨F, hF⟩ : ∃ F : Flt, F = (f1, f2, f3, f4) := ⟨_, rfl⟩
  have hFp : concV (f1, f2, f3, f4) c p = concV F c p := by rw [hF]
  obtain ⟨P, hP⟩ : ∃ P : List Plt, concV F c p = P := ⟨_, rfl⟩
  have hPl : P.length ≤ 1001000 := by rw [← hP]; exact concV_len hsm
  have hcl := hsm.1
  have eta3 : ∀ x : Plt, (x.1, x.2.1, x.2.2) = x := fun _ => rfl
  have hA1 := fl1 (g := brH) brH_len h
  have hA2 := fl1 (g := brU p) (brU_len p) P
  have hA3 := fl1 (g := brA r) (brA_len r) P
  obtain ⟨S, hS⟩ : ∃ S : List Bar, brS (stateV l (f1, f2, f3, f4) now) = S := ⟨_, rfl⟩
  have hSl : S.length ≤ 1 := by rw [← hS]; exact brS_len _
  have hS0 : S = if ¬ stateV l (f1, f2, f3, f4) now = 0 then [(1, stateV l (f1, f2, f3, f4) now, (0, 0, 0))] else [] := hS.symm
  have hF2 : barsV l (f1, f2, f3, f4) now h c p r = S ++ h.flatMap brH ++ P.flatMap (brU p) ++ P.flatMap (brA r) ++ c.flatMap (brC F) := by
   rw [← hP, ← hS, hF]; rfl
  refine fun _ => ⟨fun hs _ => ?_, fun hs _ => ?_⟩
  all_goals (
   refine evk_loop ⟨{ i : Nat // i ≤ h.length }, 1000, fun q => [(4, .one (.sl yCT c false)), (5, .one (.sl yPM p false)), (6, .one (.sl yRU r false)), (8, .one (.loc 70 0)), (15, .one (.loc 72 0)), (16, .one (.fn 53 [.loc 72 0])), (38, .one (.sl yHH h false)), (39, .one (.int .i64 h.length)), (40, .one (.int .i64 q.1))], fun q => [(70, .cells 24 [.str f1, .int .i64 f2, .str f3, .int .i64 f4]), (72, .cells 50 [.row 73]), (73, .row 67 yBR (S ++ (h.take q.1).flatMap brH))], fun q => h.length - q.1⟩ ⟨0, by omega⟩ ?_ ?_
   · simp only [go_sem]
     try simp only [List.take_zero, List.flatMap_nil, List.append_nil]
     try (first | rw [hS0, if_pos hs] | rw [hS0, if_neg (fun q => q hs)])
     try (first | rfl | exact ⟨rfl, rfl⟩ | (and_intros <;> first | trivial | rfl | omega))
   · rintro ⟨i0, (hi0 : i0 ≤ h.length)⟩
     have hb0 := fl1 (g := brH) (by intro x; first | exact brH_len x | exact brU_len p x | exact brA_len r x | exact brC_len F x) (h.take i0)
     have hc0 : (h.take i0).length ≤ h.length := by rw [List.length_take]; omega
     (simp -implicitDefEqProofs only [go_sem, Bool.not_eq_true', Bool.not_eq_false', Bool.or_eq_true, Bool.or_eq_false_iff, Bool.and_eq_true, Bool.and_eq_false_iff, decide_eq_true_eq, decide_eq_false_iff_not, Classical.not_not, not_or, maxLen, con17, con53, con54, con15, con55, con57, con56, con58, hT, hG, hk, hK, Tryz.results17]); (try simp (disch := decide +kernel) only [drawn, true_and, and_true])
     obtain ⟨o0, ho0⟩ : ∃ o, h.getD i0 hh0 = o := ⟨_, rfl⟩
     have eo0 : h.getD (i0 : Int).toNat (0, 0, 0, false, [], [], []) = o0 := ho0
     have hps0 : i0 < h.length → (h.take (i0 + 1)).flatMap brH = (h.take i0).flatMap brH ++ brH o0 := fun h => by rw [flat_take _ hh0 h, ho0]
     rw [eo0]
     try simp only [eta3]
     (repeat' (with_reducible (first | refine And.intro ?_ ?_ | intro _))) <;> (try (first | with_reducible (first | done | assumption | omega | contradiction) | decide))
     all_goals first
      | (have hq : o0.2.2.2.1 = true := by assumption
         have eb : brH o0 = _ := if_pos hq
         refine fin_lp ⟨i0 + 1, by omega⟩ ?_ (by dsimp only; omega)
         simp only [go_sem]
         rw [hps0 (by omega), eb, ← List.append_assoc]
         try (first | rfl | exact ⟨rfl, rfl⟩ | (and_intros <;> first | trivial | rfl | omega))
         done)
      | (have hq : o0.2.2.2.1 = false := by assumption
         have eb : brH o0 = _ := if_neg (by rw [hq]; simp)
         refine fin_lp ⟨i0 + 1, by omega⟩ ?_ (by dsimp only; omega)
         simp only [go_sem]
         rw [hps0 (by omega), eb, List.append_nil]
         try (first | rfl | exact ⟨rfl, rfl⟩ | (and_intros <;> first | trivial | rfl | omega))
         done)
      | (simp only [List.length_append]; omega)
      | (have ei : h.take i0 = h := List.take_of_length_le (by omega)
         rw [ei]
         simp only [hFp, hP]
         refine evk_loop ⟨{ i : Nat // i ≤ P.length }, 1000, fun q => [(4, .one (.sl yCT c false)), (5, .one (.sl yPM p false)), (6, .one (.sl yRU r false)), (8, .one (.loc 70 0)), (15, .one (.loc 72 0)), (16, .one (.fn 53 [.loc 72 0])), (20, .one (.sl yPL P false)), (56, .one (.sl yPL P false)), (57, .one (.int .i64 P.length)), (58, .one (.int .i64 q.1))], fun q => [(70, .cells 24 [.str f1, .int .i64 f2, .str f3, .int .i64 f4]), (72, .cells 50 [.row 73]), (73, .row 67 yBR (S ++ h.flatMap brH ++ (P.take q.1).flatMap (brU p)))], fun q => P.length - q.1⟩ ⟨0, by omega⟩ ?_ ?_
         · simp only [go_sem]
           try simp only [List.take_zero, List.flatMap_nil, List.append_nil]
           try (first | rfl | exact ⟨rfl, rfl⟩ | (and_intros <;> first | trivial | rfl | omega))
         · rintro ⟨i1, (hi1 : i1 ≤ P.length)⟩
           have hb1 := fl1 (g := (brU p)) (by intro x; first | exact brH_len x | exact brU_len p x | exact brA_len r x | exact brC_len F x) (P.take i1)
           have hc1 : (P.take i1).length ≤ P.length := by rw [List.length_take]; omega
           (simp -implicitDefEqProofs only [go_sem, Bool.not_eq_true', Bool.not_eq_false', Bool.or_eq_true, Bool.or_eq_false_iff, Bool.and_eq_true, Bool.and_eq_false_iff, decide_eq_true_eq, decide_eq_false_iff_not, Classical.not_not, not_or, maxLen, con17, con53, con54, con15, con55, con57, con56, con58, hT, hG, hk, hK, Tryz.results17]); (try simp (disch := decide +kernel) only [drawn, true_and, and_true])
           obtain ⟨o1, ho1⟩ : ∃ o, P.getD i1 pl0 = o := ⟨_, rfl⟩
           have eo1 : P.getD (i1 : Int).toNat (0, 0, 0) = o1 := ho1
           have hps1 : i1 < P.length → (P.take (i1 + 1)).flatMap (brU p) = (P.take i1).flatMap (brU p) ++ (brU p) o1 := fun h => by rw [flat_take _ pl0 h, ho1]
           rw [eo1]
           try simp only [eta3]
           (repeat' (with_reducible (first | refine And.intro ?_ ?_ | intro _))) <;> (try (first | with_reducible (first | done | assumption | omega | contradiction) | decide))
           all_goals first
            | (have hq : uncV p o1 = true := by assumption
               have eb : (brU p) o1 = _ := if_pos hq
               refine fin_lp ⟨i1 + 1, by omega⟩ ?_ (by dsimp only; omega)
               simp only [go_sem]
               rw [hps1 (by omega), eb, ← List.append_assoc]
               try (first | rfl | exact ⟨rfl, rfl⟩ | (and_intros <;> first | trivial | rfl | omega))
               done)
            | (have hq : uncV p o1 = false := by assumption
               have eb : (brU p) o1 = _ := if_neg (by rw [hq]; simp)
               refine fin_lp ⟨i1 + 1, by omega⟩ ?_ (by dsimp only; omega)
               simp only [go_sem]
               rw [hps1 (by omega), eb, List.append_nil]
               try (first | rfl | exact ⟨rfl, rfl⟩ | (and_intros <;> first | trivial | rfl | omega))
               done)
            | (simp only [List.length_append]; omega)
            | (have ei : P.take i1 = P := List.take_of_length_le (by omega)
               rw [ei]
               refine evk_loop ⟨{ i : Nat // i ≤ P.length }, 1000, fun q => [(4, .one (.sl yCT c false)), (5, .one (.sl yPM p false)), (6, .one (.sl yRU r false)), (8, .one (.loc 70 0)), (15, .one (.loc 72 0)), (16, .one (.fn 53 [.loc 72 0])), (69, .one (.sl yPL P false)), (70, .one (.int .i64 P.length)), (71, .one (.int .i64 q.1))], fun q => [(70, .cells 24 [.str f1, .int .i64 f2, .str f3, .int .i64 f4]), (72, .cells 50 [.row 73]), (73, .row 67 yBR (S ++ h.flatMap brH ++ P.flatMap (brU p) ++ (P.take q.1).flatMap (brA r)))], fun q => P.length - q.1⟩ ⟨0, by omega⟩ ?_ ?_
               · simp only [go_sem]
                 try simp only [List.take_zero, List.flatMap_nil, List.append_nil]
                 try (first | rfl | exact ⟨rfl, rfl⟩ | (and_intros <;> first | trivial | rfl | omega))
               · rintro ⟨i2, (hi2 : i2 ≤ P.length)⟩
                 have hb2 := fl1 (g := (brA r)) (by intro x; first | exact brH_len x | exact brU_len p x | exact brA_len r x | exact brC_len F x) (P.take i2)
                 have hc2 : (P.take i2).length ≤ P.length := by rw [List.length_take]; omega
                 (simp -implicitDefEqProofs only [go_sem, Bool.not_eq_true', Bool.not_eq_false', Bool.or_eq_true, Bool.or_eq_false_iff, Bool.and_eq_true, Bool.and_eq_false_iff, decide_eq_true_eq, decide_eq_false_iff_not, Classical.not_not, not_or, maxLen, con17, con53, con54, con15, con55, con57, con56, con58, hT, hG, hk, hK, Tryz.results17]); (try simp (disch := decide +kernel) only [drawn, true_and, and_true])
                 obtain ⟨o2, ho2⟩ : ∃ o, P.getD i2 pl0 = o := ⟨_, rfl⟩
                 have eo2 : P.getD (i2 : Int).toNat (0, 0, 0) = o2 := ho2
                 have hps2 : i2 < P.length → (P.take (i2 + 1)).flatMap (brA r) = (P.take i2).flatMap (brA r) ++ (brA r) o2 := fun h => by rw [flat_take _ pl0 h, ho2]
                 rw [eo2]
                 try simp only [eta3]
                 (repeat' (with_reducible (first | refine And.intro ?_ ?_ | intro _))) <;> (try (first | with_reducible (first | done | assumption | omega | contradiction) | decide))
                 all_goals first
                  | (have hq : mayV r o2 = false := by assumption
                     have eb : (brA r) o2 = _ := if_pos hq
                     refine fin_lp ⟨i2 + 1, by omega⟩ ?_ (by dsimp only; omega)
                     simp only [go_sem]
                     rw [hps2 (by omega), eb, ← List.append_assoc]
                     try (first | rfl | exact ⟨rfl, rfl⟩ | (and_intros <;> first | trivial | rfl | omega))
                     done)
                  | (have hq : mayV r o2 = true := by assumption
                     have eb : (brA r) o2 = _ := if_neg (by rw [hq]; simp)
                     refine fin_lp ⟨i2 + 1, by omega⟩ ?_ (by dsimp only; omega)
                     simp only [go_sem]
                     rw [hps2 (by omega), eb, List.append_nil]
                     try (first | rfl | exact ⟨rfl, rfl⟩ | (and_intros <;> first | trivial | rfl | omega))
                     done)
                  | (simp only [List.length_append]; omega)
                  | (have ei : P.take i2 = P := List.take_of_length_le (by omega)
                     rw [ei]
                     refine evk_loop ⟨{ i : Nat // i ≤ c.length }, 1000, fun q => [(4, .one (.sl yCT c false)), (5, .one (.sl yPM p false)), (6, .one (.sl yRU r false)), (8, .one (.loc 70 0)), (15, .one (.loc 72 0)), (16, .one (.fn 53 [.loc 72 0])), (86, .one (.sl yCT c false)), (87, .one (.int .i64 c.length)), (88, .one (.int .i64 q.1))], fun q => [(70, .cells 24 [.str f1, .int .i64 f2, .str f3, .int .i64 f4]), (72, .cells 50 [.row 73]), (73, .row 67 yBR (S ++ h.flatMap brH ++ P.flatMap (brU p) ++ P.flatMap (brA r) ++ (c.take q.1).flatMap (brC F)))], fun q => c.length - q.1⟩ ⟨0, by omega⟩ ?_ ?_
                     · simp only [go_sem]
                       try simp only [List.take_zero, List.flatMap_nil, List.append_nil]
                       try (first | rfl | exact ⟨rfl, rfl⟩ | (and_intros <;> first | trivial | rfl | omega))
                     · rintro ⟨i3, (hi3 : i3 ≤ c.length)⟩
                       have hb3 := fl1 (g := (brC F)) (by intro x; first | exact brH_len x | exact brU_len p x | exact brA_len r x | exact brC_len F x) (c.take i3)
                       have hc3 : (c.take i3).length ≤ c.length := by rw [List.length_take]; omega
                       (simp -implicitDefEqProofs only [go_sem, Bool.not_eq_true', Bool.not_eq_false', Bool.or_eq_true, Bool.or_eq_false_iff, Bool.and_eq_true, Bool.and_eq_false_iff, decide_eq_true_eq, decide_eq_false_iff_not, Classical.not_not, not_or, maxLen, con17, con53, con54, con15, con55, con57, con56, con58, hT, hG, hk, hK, Tryz.results17]); (try simp (disch := decide +kernel) only [drawn, true_and, and_true])
                       obtain ⟨o3, ho3⟩ : ∃ o, c.getD i3 ct0 = o := ⟨_, rfl⟩
                       have eo3 : c.getD (i3 : Int).toNat (0, (ByteArray.empty, 0, ByteArray.empty, 0), 0, 0, 0, 0, 0, []) = o3 := ho3
                       have hps3 : i3 < c.length → (c.take (i3 + 1)).flatMap (brC F) = (c.take i3).flatMap (brC F) ++ (brC F) o3 := fun h => by rw [flat_take _ ct0 h, ho3]
                       rw [eo3]
                       try simp only [eta3]
                       (repeat' (with_reducible (first | refine And.intro ?_ ?_ | intro _))) <;> (try (first | with_reducible (first | done | assumption | omega | contradiction) | decide))
                       all_goals first
                        | (have hq : (o3.2.1.1 = f1 ∧ o3.2.1.2.1 = f2 ∧ o3.2.1.2.2.1 = f3 ∧ o3.2.1.2.2.2 = f4) ∧ overV o3 = true := by first | assumption | exact ⟨by assumption, by assumption⟩ | exact ⟨⟨by assumption, by assumption, by assumption, by assumption⟩, by assumption⟩ | (rename_i hx; exact ⟨⟨hx.1, hx.2.1, hx.2.2.1, hx.2.2.2.1⟩, hx.2.2.2.2⟩)
                           have eb : (brC F) o3 = _ := if_pos ⟨(by rw [hF]; exact (fltE o3.2.1 (f1, f2, f3, f4)).mp hq.1), hq.2⟩
                           refine fin_lp ⟨i3 + 1, by omega⟩ ?_ (by dsimp only; omega)
                           simp only [go_sem]
                           rw [hps3 (by omega), eb, ← List.append_assoc]
                           try (first | rfl | exact ⟨rfl, rfl⟩ | (and_intros <;> first | trivial | rfl | omega))
                           done)
                        | (have hq : ¬ (o3.flt = F ∧ overV o3 = true) := by
                            rw [hF, ← fltE]
                            first | (rename_i hx; rcases hx with hx | hx; exact fun h => (by rcases hx with q | q | q | q <;> simp_all); exact fun h => by simp_all) | (rename_i hx; exact fun h => by simp_all) | simp_all
                           have eb : (brC F) o3 = _ := if_neg hq
                           refine fin_lp ⟨i3 + 1, by omega⟩ ?_ (by dsimp only; omega)
                           simp only [go_sem]
                           rw [hps3 (by omega), eb, List.append_nil]
                           try (first | rfl | exact ⟨rfl, rfl⟩ | (and_intros <;> first | trivial | rfl | omega))
                           done)
                        | (simp only [List.length_append]; omega)
                        | (have ei : c.take i3 = c := List.take_of_length_le (by omega)
                           rw [ei, hF2]))))))
end Go.Proofs.YtjhoidgpecgfoaaGreat

/- What the statements about departures share. -/
set_option linter.unusedSimpArgs false
set_option linter.unusedVariables false
set_option maxRecDepth 100000
set_option maxHeartbeats 8000000
namespace Go.Proofs.YtjhoidgpecgfoaaGreat
open Go.Ev

attribute [local go_sem] List.set_cons_succ List.set_cons_zero List.getD_cons_succ List.getD_cons_zero List.set_nil
def dayD (i : Nat) : Dpt := (fltsV i, ⟨#[76, 72, 82]⟩, 10, 40, 50, 0, 0)
def dayL (i : Nat) : List Dpt := (List.range i).map dayD
theorem dayL_succ (i : Nat) : dayL (i + 1) = dayL i ++ [dayD i] := by unfold dayL; rw [List.range_succ, List.map_append]; rfl
theorem dayL_len (i : Nat) : (dayL i).length = i := by unfold dayL; simp
def dayV : List Dpt := dayL 3
def con22 : Con := { ps := [], rs := [.o 57 yDP], pre := fun _ => True, out := fun _ => (dayV, ()), nw := id }
theorem c22 : CtrOk Tryz.prog 22 con22.ctr :=
 con_sound (G := ⟨[(13, con13.ctr)], [], [], []⟩) tab_ok (EnvOk.cons c13 has13 EnvOk.nil) rfl Tryz.func22 rfl con22 23 (by kernel_rfl) (by decide) (by decide) rfl (by decide) rfl (by
  rintro ⟨⟩ hpre hwf X hT hG hk hK
  (simp -implicitDefEqProofs only [go_sem, Bool.not_eq_true', Bool.not_eq_false', Bool.or_eq_true, Bool.or_eq_false_iff, Bool.and_eq_true, Bool.and_eq_false_iff, decide_eq_true_eq, decide_eq_false_iff_not, Classical.not_not, not_or, maxLen, con22, con13, hT, hG, hk, hK, Tryz.results22] at hwf ⊢)
  refine evk_loop ⟨{ i : Nat // i ≤ 3 }, 1000, fun q => [(1, .one (.row 64)), (2, .one (.int .i64 q.1))], fun q => [(64, .row 57 yDP (dayL q.1))], fun q => 3 - q.1⟩ ⟨0, by omega⟩ ?_ ?_
  · simp only [go_sem]
    try (first | rfl | exact ⟨rfl, rfl⟩ | (and_intros <;> first | trivial | rfl | omega))
  · rintro ⟨i, (hi : i ≤ 3)⟩
    (simp -implicitDefEqProofs only [go_sem, Bool.not_eq_true', Bool.not_eq_false', Bool.or_eq_true, Bool.or_eq_false_iff, Bool.and_eq_true, Bool.and_eq_false_iff, decide_eq_true_eq, decide_eq_false_iff_not, Classical.not_not, not_or, maxLen, con22, con13, hT, hG, hk, hK, Tryz.results22])
    (repeat' (with_reducible (first | refine And.intro ?_ ?_ | intro _))) <;> (try (first | with_reducible (first | done | assumption | omega | contradiction) | decide))
    all_goals first
     | (refine fin_lp ⟨i + 1, by omega⟩ ?_ (by dsimp only; omega)
        simp only [go_sem]
        rw [dayL_succ]
        try (first | rfl | exact ⟨rfl, rfl⟩ | (and_intros <;> first | trivial | rfl | omega))
        done)
     | (rw [show i = 3 by omega]; rfl)
     | (simp only [dayL_len]; omega)
     | fail)
def heldC (i : Nat) : Cnt := ((i : Int) + 1, fltsV 0, 31, 9000, 50, (i : Int) + 1, 0, [])
def heldV (n : Nat) : List Cnt := (List.range n).map heldC
theorem heldV_succ (i : Nat) : heldV (i + 1) = heldV i ++ [heldC i] := by unfold heldV; rw [List.range_succ, List.map_append]; rfl
theorem heldV_len (i : Nat) : (heldV i).length = i := by unfold heldV; simp
def con25 : Con := { ps := [.d false (.int .i64)], rs := [.o 107 yCT], pre := fun (x : Int × Unit) => 0 ≤ x.1 ∧ x.1 ≤ 1000, out := fun (x : Int × Unit) => (heldV x.1.toNat, ()), nw := id }
theorem c25 : CtrOk Tryz.prog 25 con25.ctr :=
 con_sound (G := ⟨[(13, con13.ctr)], [], [], []⟩) tab_ok (EnvOk.cons c13 has13 EnvOk.nil) rfl Tryz.func25 rfl con25 157 (by kernel_rfl) (by decide) (by decide) rfl (by decide) rfl (by
  rintro ⟨(n : Int), _⟩ hpre hwf X hT hG hk hK
  obtain ⟨h1, h2⟩ : 0 ≤ n ∧ n ≤ 1000 := hpre
  (simp -implicitDefEqProofs only [go_sem, Bool.not_eq_true', Bool.not_eq_false', Bool.or_eq_true, Bool.or_eq_false_iff, Bool.and_eq_true, Bool.and_eq_false_iff, decide_eq_true_eq, decide_eq_false_iff_not, Classical.not_not, not_or, maxLen, con25, con13, hT, hG, hk, hK, Tryz.results25] at hwf ⊢)
  refine evk_loop ⟨{ i : Nat // (i : Int) ≤ n }, 1000, fun q => [(0, .one (.int .i64 n)), (3, .one (.row 64)), (4, .one (.int .i64 (q.1 + 1)))], fun q => [(64, .row 107 yCT (heldV q.1))], fun q => n.toNat - q.1⟩ ⟨0, h1⟩ ?_ ?_
  · simp only [go_sem]
    try (first | rfl | exact ⟨rfl, rfl⟩ | (and_intros <;> first | trivial | rfl | omega))
  · rintro ⟨i, (hi : (i : Int) ≤ n)⟩
    (simp -implicitDefEqProofs only [go_sem, Bool.not_eq_true', Bool.not_eq_false', Bool.or_eq_true, Bool.or_eq_false_iff, Bool.and_eq_true, Bool.and_eq_false_iff, decide_eq_true_eq, decide_eq_false_iff_not, Classical.not_not, not_or, maxLen, con25, con13, hT, hG, hk, hK, Tryz.results25])
    (repeat' (with_reducible (first | refine And.intro ?_ ?_ | intro _))) <;> (try (first | with_reducible (first | done | assumption | omega | contradiction) | decide))
    all_goals first
     | (refine fin_lp ⟨i + 1, (by show ((i + 1 : Nat) : Int) ≤ n; omega)⟩ ?_ (by dsimp only; omega)
        simp only [go_sem]
        rw [heldV_succ]
        try (first | rfl | exact ⟨rfl, rfl⟩ | (and_intros <;> first | trivial | rfl | omega))
        done)
     | (rw [show n.toNat = i by omega]; done)
     | (rw [show n.toNat = i by omega]; rfl)
     | (simp only [heldV_len]; omega)
     | fail)
def con21 : Con := { ps := [.d false (.sl yBR)], rs := [.d false .bool], pre := fun _ => True, out := fun (x : List Bar × Unit) => (decide (x.1.length = 0), ()), nw := id }
theorem c21 : CtrOk Tryz.prog 21 con21.ctr :=
 con_sound (G := ⟨[], [], [], []⟩) tab_ok EnvOk.nil rfl Tryz.func21 rfl con21 5 (by kernel_rfl) (by decide) (by decide) rfl (by decide) rfl (by
  rintro ⟨(l : List Bar), _⟩ hpre hwf X hT hG hk hK
  (simp -implicitDefEqProofs only [go_sem, Bool.not_eq_true', Bool.not_eq_false', Bool.or_eq_true, Bool.or_eq_false_iff, Bool.and_eq_true, Bool.and_eq_false_iff, decide_eq_true_eq, decide_eq_false_iff_not, Classical.not_not, not_or, maxLen, con21, hT, hG, hk, hK, Tryz.results21] at hwf ⊢)
  (repeat' (with_reducible (first | refine And.intro ?_ ?_ | intro _))) <;> (try (first | with_reducible (first | done | assumption | omega | contradiction) | decide))
  all_goals first | done | rfl | (rw [decide_eq_decide]; omega) | fail)
def con23 : Con := { ps := [], rs := [.d false .bool], pre := fun _ => True, out := fun _ => (true, ()), nw := id }
theorem c23 : CtrOk Tryz.prog 23 con23.ctr :=
 con_sound (G := ⟨[(25, con25.ctr), (22, con22.ctr), (17, con17.ctr), (21, con21.ctr), (31, con31.ctr), (13, con13.ctr)], [], [], []⟩) tab_ok (EnvOk.cons c25 has25 (EnvOk.cons c22 has22 (EnvOk.cons c17 has17 (EnvOk.cons c21 has21 (EnvOk.cons c31 has31 (EnvOk.cons c13 has13 EnvOk.nil)))))) rfl Tryz.func23 rfl con23 15 (by kernel_rfl) (by decide) (by decide) rfl (by decide) rfl (by
  rintro ⟨⟩ hpre hwf X hT hG hk hK
  (simp -implicitDefEqProofs only [go_sem, Bool.not_eq_true', Bool.not_eq_false', Bool.or_eq_true, Bool.or_eq_false_iff, Bool.and_eq_true, Bool.and_eq_false_iff, decide_eq_true_eq, decide_eq_false_iff_not, Classical.not_not, not_or, maxLen, con23, con25, con22, con17, con21, con31, con13, hT, hG, hk, hK, Tryz.results23] at hwf ⊢); (try simp (disch := decide +kernel) only [drawn, true_and, and_true])
  have e1 : heldV (Int.toNat 1) = [heldC 0] := rfl
  simp only [e1, List.getD_cons_zero, List.set_cons_zero]
  have hb : barsV dayV (fltsV 0) 40 [(1, 1, 0, false, [], [], []), (2, 1, 0, true, [], [], [])] [((heldC 0).1, (heldC 0).2.1, (heldC 0).2.2.1, (heldC 0).2.2.2.1, (heldC 0).2.2.2.2.1, (heldC 0).2.2.2.2.2.1, (heldC 0).2.2.2.2.2.2.1, [(platesV 1, 5, 0)])] [] [] = [(2, 2, 0, 0, 0), (4, 1, platesV 1)] := by decide +kernel
  simp only [hb, List.getD_cons_zero, List.getD_cons_succ, List.length_cons, List.length_nil]
  (repeat' (with_reducible (first | refine And.intro ?_ ?_ | intro _))) <;> (try (first | with_reducible (first | done | assumption | omega | contradiction) | decide))
  all_goals first
   | rfl
   | (refine ⟨by simp, fun o ho => ?_, by simp, fun y hy => by cases hy⟩; rw [List.mem_singleton.1 ho]; decide)
   | decide
   | fail)
end Go.Proofs.YtjhoidgpecgfoaaGreat

/- The contract of DepartureMeans. -/
set_option linter.unusedSimpArgs false
set_option linter.unusedVariables false
set_option maxRecDepth 100000
set_option maxHeartbeats 8000000
namespace Go.Proofs.YtjhoidgpecgfoaaGreat
open Go.Ev

theorem barsV_nil {l : List Dpt} {f : Flt} {t : Int} {h : List Hhd} {c : List Cnt} {p : List Plm} {r : List Rlg} :
 barsV l f t h c p r = [] ↔ stateV l f t = 0 ∧ (∀ x ∈ h, x.2.2.2.1 = false) ∧ (∀ x ∈ concV f c p, uncV p x = false ∧ mayV r x = true) ∧ ∀ o ∈ c, o.flt = f → overV o = false := by
 unfold barsV
 simp only [List.append_eq_nil_iff, List.flatMap_eq_nil_iff]
 constructor
 · rintro ⟨⟨⟨⟨h1, h2⟩, h3⟩, h4⟩, h5⟩
   refine ⟨?_, fun x hx => ?_, fun x hx => ⟨?_, ?_⟩, fun o ho hf => ?_⟩
   · apply Classical.byContradiction; intro hn; unfold brS at h1; rw [if_pos hn] at h1; cases h1
   · have := h2 x hx; unfold brH at this; split at this
     · cases this
     · rename_i hn; simpa using hn
   · have := h3 x hx; unfold brU at this; split at this
     · cases this
     · rename_i hn; simpa using hn
   · have := h4 x hx; unfold brA at this; split at this
     · cases this
     · rename_i hn; simpa using hn
   · have := h5 o ho; unfold brC at this; split at this
     · cases this
     · rename_i hn
       cases hq : overV o
       · rfl
       · exact absurd ⟨hf, hq⟩ hn
 · rintro ⟨h1, h2, h3, h4⟩
   refine ⟨⟨⟨⟨?_, fun x hx => ?_⟩, fun x hx => ?_⟩, fun x hx => ?_⟩, fun o ho => ?_⟩
   · unfold brS; rw [if_neg (by rw [h1]; simp)]
   · unfold brH; rw [if_neg (by rw [h2 x hx]; simp)]
   · unfold brU; rw [if_neg (by rw [(h3 x hx).1]; simp)]
   · unfold brA; rw [if_neg (by rw [(h3 x hx).2]; simp)]
   · unfold brC
     rw [if_neg]
     rintro ⟨hf, hq⟩
     rw [h4 o ho hf] at hq; cases hq
theorem concV_mem {f : Flt} {c : List Cnt} {p : List Plm} {x : Plt} : x ∈ concV f c p ↔ (∃ o ∈ c, o.flt = f ∧ ∃ y ∈ o.pcs, y.1 = x) ∨ ∃ y ∈ p, y.1.1 = x ∧ ∃ n ∈ y.2.2, ∃ o ∈ c, o.num = n ∧ o.flt = f := by
 unfold concV
 rw [(setP_spec _).2, List.mem_append]
 refine or_congr ?_ ?_
 · unfold rawA
   rw [List.mem_flatMap]
   refine exists_congr fun o => and_congr_right fun ho => ?_
   unfold rawC
   split
   · rename_i e
     rw [List.mem_map]; exact ⟨fun h => ⟨e, h⟩, fun h => h.2⟩
   · rename_i e
     exact ⟨fun h => (by cases h), fun h => absurd h.1 e⟩
 · rw [List.mem_flatMap]
   refine exists_congr fun y => and_congr_right fun hy => ?_
   unfold rawP
   split
   · rename_i e
     obtain ⟨n, hn, he⟩ := List.any_eq_true.1 e
     have he := of_decide_eq_true he
     rw [mem_ownL] at he
     unfold oursV at he
     obtain ⟨o, ho, hq⟩ := List.any_eq_true.1 he
     rw [Bool.and_eq_true, decide_eq_true_eq, decide_eq_true_eq] at hq
     rw [List.mem_singleton]
     exact ⟨fun h => ⟨h.symm, n, hn, o, ho, hq⟩, fun h => h.1.symm⟩
   · rename_i e
     refine ⟨fun h => (by cases h), ?_⟩
     rintro ⟨_, n, hn, o, ho, h1, h2⟩
     refine absurd (List.any_eq_true.2 ⟨n, hn, ?_⟩) e
     rw [decide_eq_true_eq, mem_ownL]
     unfold oursV
     exact List.any_eq_true.2 ⟨o, ho, by rw [Bool.and_eq_true, decide_eq_true_eq, decide_eq_true_eq]; exact ⟨h1, h2⟩⟩
theorem trail_len (l : List Opn) : (trail l).length ≤ l.length := by
 unfold trail
 rw [List.length_map]
 refine Nat.le_trans (List.takeWhile_sublist _).length_le ?_
 rw [List.length_reverse]; exact Nat.le_refl _
theorem placesV_may {l : List Opn} {z : Plc} (h : z ∈ placesV l) : z.2.2.length ≤ l.length := by
 unfold placesV at h
 split at h
 · cases h
 · obtain ⟨p, _, rfl⟩ := List.mem_map.1 h
   unfold placeV
   refine Nat.le_trans (compV_le _) ?_
   rw [sortI_len]
   exact Nat.le_trans (trail_len _) (about_len l p)
end Go.Proofs.YtjhoidgpecgfoaaGreat
