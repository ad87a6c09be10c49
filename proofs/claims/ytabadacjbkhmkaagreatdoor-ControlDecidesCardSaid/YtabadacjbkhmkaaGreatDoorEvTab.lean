/- Part. -/
import Derived.Test.YtabadacjbkhmkaaGreatDoorEvSimp
namespace Go.Ev
def c1B : C1 → Value → Bool
  | .int k n, .int k' n' => decide (k = k') && decide (n = n') && decide (k.min ≤ n) && decide (n ≤ k.max)
  | .bool b, .bool b' => b == b'
  | .str s, .string s' => decide (s = s') && decide (s.size ≤ 1048576)
  | .nilsl, .slice none 0 0 => true
  | .nilp, .pointer none => true
  | .nilfn, .nilFunc => true
  | .undef, .map none => true
  | _, _ => false
def isNilSl : Value → Bool
  | .slice none 0 0 => true
  | _ => false
def zCellB : Z → Value → Bool
  | .c c, v => c1B c v
  | .s _ _, v => isNilSl v
def zCellsB : List Z → List Value → Bool
  | [], [] => true
  | z :: zs, v :: vs => zCellB z v && zCellsB zs vs
  | _, _ => false
def zTyB : Ty → List Value → Bool
  | .int k, [.int k' n] => decide (k = k') && decide (n = 0)
  | .bool, [.bool b] => !b
  | .str, [.string s] => decide (s = ByteArray.empty)
  | .unit, [] => true
  | .sl _, [.slice none 0 0] => true
  | .pair a b, vs => zTyB a (vs.take a.n) && zTyB b (vs.drop a.n)
  | _, _ => false
def zTyNB (u : Ty) : Nat → List Value → Bool
  | 0, vs => vs.isEmpty
  | n + 1, vs => zTyB u (vs.take u.n) && zTyNB u n (vs.drop u.n)
def arrB : TD → List Value → Bool
  | .array n _ u, vs => zTyNB u n vs
  | _, _ => true
def descB (P : Program) (t : TypeId) (sz : Nat) : TD → Option TypeDesc → Bool
  | .str, some .string => true
  | .bool, some .bool => true
  | .slice e, some (.slice e') => e == e'
  | .struct fs, some (.struct flds) => decide (fs = flds.toList.map (fun f => (f.offset, sizeB P f.type, isAggB P f.type))) &&
      flds.toList.all fun f => (P.info? f.type).isSome && (P.underlying f.type).isSome && decide (f.offset + sizeB P f.type ≤ sz) && (isAggB P f.type || decide (sizeB P f.type = 1))
  | .map k e, some (.map k' e') => k == k' && e == e'
  | .array n e u, some (.array n' e') => n == n' && e == e' && decide (0 < n) && decide (n ≤ 4096) && decide (0 < u.n)
  | .ptr e, some (.pointer e') => e == e'
  | .int, _ | .other, _ => true
  | _, _ => false
def zvs (ag : Bool) : Value → Option (List Value)
  | .agg vs => if ag then some vs.toList else none
  | v => if ag then none else some [v]
def intB : Option TypeDesc → TD → Option Ty → Bool
  | some (.int k'), .int, some (.int k) => decide (k' = k)
  | _, .int, some (.int _) => false
  | _, _, _ => true
def tiB (P : Program) (t : TypeId) (ti : TI) : Bool :=
  (match P.info? t with
  | some i => decide (i.size = ti.size) && decide (i.bytes = ti.bytes) && (match i.zero with
    | some z => decide (z.cells.size = ti.size) && (ti.zero.isEmpty || zCellsB ti.zero z.cells.toList) && (!ti.zt || match ti.ty with
      | some u => (match zvs ti.agg z with | some vs => zTyB u vs | none => false)
      | none => true) && arrB ti.desc z.cells.toList
    | none => false)
  | none => false) &&
  (match P.underlying t with
  | some d => aggB d == ti.agg
  | none => false) &&
  (ti.agg || decide (ti.size = 1)) &&
  (match ti.ty with
  | some u => decide (u.n = ti.size) && decide (0 < ti.size) && decide (0 < ti.bytes)
  | none => true) &&
  descB P t ti.size ti.desc (P.underlying t) &&
  intB (P.underlying t) ti.desc ti.ty &&
  (ti.eqn.isEmpty || (decide (eqTB P 100 t = some ti.eqn) && P.eqGuardType P.depth t == false))
theorem nD3 {c : C1} {v : Value} (h : c1B c v = true) : zCell (.c c) v := by
  unfold c1B at h
  split at h
  · simp only [Bool.and_eq_true, decide_eq_true_eq] at h
    obtain ⟨⟨⟨rfl, rfl⟩, h3⟩, h4⟩ := h
    exact ⟨rfl, h3, h4⟩
  · simp only [beq_iff_eq] at h; subst h; exact ⟨rfl, trivial⟩
  · simp only [Bool.and_eq_true, decide_eq_true_eq] at h
    obtain ⟨rfl, h2⟩ := h
    exact ⟨rfl, by simp only [maxLen]; omega⟩
  · exact ⟨rfl, rfl⟩
  · exact ⟨rfl, trivial⟩
  · exact ⟨rfl, trivial⟩
  · exact ⟨rfl, rfl⟩
  · cases h
theorem mB9 {v : Value} (h : isNilSl v = true) : v = .slice none 0 0 := by
  unfold isNilSl at h
  split at h
  · rfl
  · cases h
theorem pA9 : ∀ (zs : List Z) (vs : List Value), zCellsB zs vs = true → zCells zs vs
  | [], [], _ => rfl
  | z :: zs, v :: vs, h => by
    simp only [zCellsB, Bool.and_eq_true] at h
    refine ⟨v, vs, rfl, ?_, pA9 zs vs h.2⟩
    cases z with
    | c c => exact nD3 h.1
    | s e t => exact mB9 h.1
  | [], _ :: _, h => by cases h
  | _ :: _, [], h => by cases h
theorem mB1 : ∀ (t : Ty) (vs : List Value), zTyB t vs = true → zTy t vs
  | .int k, vs, h => by
    unfold zTyB at h
    split at h <;> first | cases h | skip
    · rename_i k' k'' n heq
      cases heq
      simp only [Bool.and_eq_true, decide_eq_true_eq] at h
      obtain ⟨rfl, rfl⟩ := h; rfl
    all_goals (rename_i heq; cases heq)
  | .bool, vs, h => by
    unfold zTyB at h
    split at h <;> first | cases h | skip
    all_goals (rename_i heq; cases heq)
    simp only [Bool.not_eq_true'] at h; subst h; rfl
  | .str, vs, h => by
    unfold zTyB at h
    split at h <;> first | cases h | skip
    all_goals (rename_i heq; cases heq)
    simp only [decide_eq_true_eq] at h; subst h; rfl
  | .unit, vs, h => by
    unfold zTyB at h
    split at h <;> first | cases h | skip
    all_goals (rename_i heq; cases heq)
    all_goals rfl
  | .sl t, vs, h => by
    unfold zTyB at h
    split at h <;> first | cases h | skip
    all_goals (rename_i heq; cases heq)
    all_goals rfl
  | .pair a b, vs, h => by
    simp only [zTyB, Bool.and_eq_true] at h
    exact ⟨_, _, (List.take_append_drop a.n vs).symm, mB1 a _ h.1, mB1 b _ h.2⟩
theorem fB8 (u : Ty) : ∀ (n : Nat) (vs : List Value), zTyNB u n vs = true → zTyN u n vs
  | 0, vs, h => List.isEmpty_iff.1 h
  | n + 1, vs, h => by
    simp only [zTyNB, Bool.and_eq_true] at h
    exact ⟨_, _, (List.take_append_drop u.n vs).symm, mB1 u _ h.1, fB8 u n _ h.2⟩
theorem wD3 {ag : Bool} {v : Value} {vs : List Value} (h : zvs ag v = some vs) : v = mkV ag vs := by
  unfold zvs at h
  split at h
  · split at h
    · rename_i hg; cases h; simp [mkV, hg]
    · cases h
  · split at h
    · cases h
    · rename_i hg; cases h; simp [mkV, hg]
theorem rD3 {P : Program} {t : TypeId} {ti : TI} (h : tiB P t ti = true) : TIok P t ti := by
  simp only [tiB, Bool.and_eq_true] at h
  obtain ⟨⟨⟨⟨⟨⟨h1, h2⟩, h3⟩, h4⟩, h5⟩, h7⟩, h6⟩ := h
  cases hi : P.info? t with
  | none => rw [hi] at h1; cases h1
  | some i =>
    rw [hi] at h1
    cases hz : i.zero with
    | none => simp only [hz, Bool.and_false] at h1; cases h1
    | some z =>
      simp only [hz, Bool.and_eq_true, decide_eq_true_eq] at h1
      obtain ⟨⟨e1, e2⟩, ⟨⟨e3, e4⟩, e5⟩, e9⟩ := h1
      cases hd : P.underlying t with
      | none => rw [hd] at h2; cases h2
      | some d =>
        rw [hd] at h2 h5
        refine ⟨⟨i, hi, e1, e2, z, hz, e3, fun hne => ?_⟩, ⟨d, hd, by simpa using h2⟩, fun hg => ?_, fun u hu => ?_, fun k he hk => ?_, fun he => ?_, fun he => ?_, fun e he => ?_, fun fs he => ?_, fun k e he => ?_, fun hne => ?_, fun n e u ha => ?_, fun u hzt hu => ?_, fun e he => ?_⟩
        · rw [Bool.or_eq_true] at e4
          rcases e4 with e4 | e4
          · exact absurd (List.isEmpty_iff.1 e4) hne
          · exact pA9 _ _ e4
        · rw [hg] at h3; simpa using h3
        · rw [hu] at h4; simp only [Bool.and_eq_true, decide_eq_true_eq] at h4; exact ⟨h4.1.1, h4.1.2, h4.2⟩
        · rw [he, hk, hd] at h7; cases d <;> simp [intB] at h7; rw [h7] at hd; exact hd
        · rw [he] at h5; cases d <;> simp [descB] at h5; exact hd
        · rw [he] at h5; cases d <;> simp [descB] at h5; exact hd
        · rw [he] at h5; cases d <;> simp [descB] at h5; rw [h5]; exact hd
        · rw [he] at h5
          cases d <;> simp only [descB, Bool.and_eq_true, decide_eq_true_eq, List.all_eq_true, Bool.or_eq_true, Bool.false_eq_true] at h5
          rename_i flds
          refine ⟨flds, hd, h5.1, fun f hf => ?_, fun f hf => ?_⟩
          · have := h5.2 f (by simpa using hf)
            obtain ⟨⟨⟨q1, q2⟩, _⟩, _⟩ := this
            exact ⟨_, _, Option.eq_some_of_isSome q1, Option.eq_some_of_isSome q2⟩
          · have := h5.2 f (by simpa using hf)
            refine ⟨this.1.2, fun hg => ?_⟩
            rcases this.2 with q | q
            · rw [hg] at q; cases q
            · exact q
        · rw [he] at h5; cases d <;> simp [descB] at h5; rw [h5.1, h5.2]; exact hd
        · rw [Bool.or_eq_true] at h6
          rcases h6 with h6 | h6
          · exact absurd (List.isEmpty_iff.1 h6) hne
          · simp only [Bool.and_eq_true, decide_eq_true_eq, beq_iff_eq] at h6; exact h6
        · rw [ha] at h5 e9
          cases d <;> simp [descB] at h5
          obtain ⟨⟨⟨⟨q1, q2⟩, q3⟩, q4⟩, q5⟩ := h5
          exact ⟨by rw [q1, q2]; exact hd, q3, by simp only [maxLen]; omega, q5, i, z, hi, hz, fB8 u n _ e9⟩
        · rw [hzt, hu] at e5
          simp only [Bool.not_true, Bool.false_or] at e5
          split at e5
          · rename_i vs hvs
            exact ⟨i, vs, hi, by rw [hz, wD3 hvs], mB1 u vs e5⟩
          · cases e5
        · rw [he] at h5; cases d <;> simp [descB] at h5; rw [h5]; exact hd
def tabB (P : Program) (T : Tab) : Bool := T.all fun p => tiB P p.1 p.2
theorem kC9 {P : Program} {T : Tab} (h : tabB P T = true) : TabOK P T := fun t ti hf => rD3 (List.all_eq_true.1 h (t, ti) (jA1 hf))
end Go.Ev
