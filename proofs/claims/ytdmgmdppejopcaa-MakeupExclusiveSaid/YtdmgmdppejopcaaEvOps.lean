/- Soundness of the operations, one by one: what surrounds them, and those that only compute. -/
import Derived.Test.YtdmgmdppejopcaaEvCells
namespace Go.Ev

/-! ### the table of types -/

def aggB : TypeDesc → Bool
  | .struct _ | .array _ _ => true
  | _ => false

def sizeB (P : Program) (t : TypeId) : Nat := ((P.info? t).map (·.size)).getD 0
def isAggB (P : Program) (t : TypeId) : Bool := ((P.underlying t).map aggB).getD false

def zCell : Z → Value → Prop
  | .c c, v => constC v = c ∧ (match c with | .int k n => InR k n | .str s => s.size ≤ maxLen | .nilsl => v = .slice none 0 0 | .undef => False | _ => True)
  | .s _ _, v => v = .slice none 0 0

def zCells : List Z → List Value → Prop
  | [], vs => vs = []
  | z :: zs, vs => ∃ v r, vs = v :: r ∧ zCell z v ∧ zCells zs r

/-- A type whose values are compared cell by cell: the cells' kinds. -/
def eqTB (P : Program) : Nat → TypeId → Option (List CK)
  | 0, _ => none
  | d + 1, t => match P.underlying t, (P.info? t).map (·.size) with
    | some (.int k), some 1 => some [.i k]
    | some .bool, some 1 => some [.b]
    | some .string, some 1 => some [.s]
    | some (.struct fs), some n => if P.stoodInHeld t then none else
      (match eqFs (eqTB P d) fs.toList 0 with
      | some ks => if ks.length = n then some ks else none
      | none => none)
    | _, _ => none
where eqFs (f : TypeId → Option (List CK)) : List Field → Nat → Option (List CK)
  | [], _ => some []
  | x :: xs, off => if x.name ≠ "_" ∧ x.offset = off then (match f x.type with
      | some ks => (eqFs f xs (off + ks.length)).map (ks ++ ·)
      | none => none) else none

/-- The zero of a type of plain data, cell by cell. -/
def zTy : Ty → List Value → Prop
  | .int k, vs => vs = [.int k 0]
  | .bool, vs => vs = [.bool false]
  | .str, vs => vs = [.string ByteArray.empty]
  | .unit, vs => vs = []
  | .sl _, vs => vs = [.slice none 0 0]
  | .pair a b, vs => ∃ x y, vs = x ++ y ∧ zTy a x ∧ zTy b y

structure TIok (P : Program) (t : TypeId) (ti : TI) : Prop where
  info : ∃ i, P.info? t = some i ∧ i.size = ti.size ∧ i.bytes = ti.bytes ∧ ∃ z, i.zero = some z ∧ z.cells.size = ti.size ∧ (ti.zero ≠ [] → zCells ti.zero z.cells.toList)
  agg : ∃ d, P.underlying t = some d ∧ aggB d = ti.agg
  one : ti.agg = false → ti.size = 1
  ty : ∀ u, ti.ty = some u → u.n = ti.size ∧ 0 < ti.size ∧ 0 < ti.bytes
  int : ∀ k, ti.desc = .int → ti.ty = some (.int k) → P.underlying t = some (.int k)
  str : ti.desc = .str → P.underlying t = some .string
  bool : ti.desc = .bool → P.underlying t = some .bool
  slice : ∀ e, ti.desc = .slice e → P.underlying t = some (.slice e)
  struct : ∀ fs, ti.desc = .struct fs → ∃ flds : Array Field, P.underlying t = some (.struct flds) ∧ fs = flds.toList.map (fun f => (f.offset, sizeB P f.type, isAggB P f.type)) ∧
    (∀ f ∈ flds, ∃ i d, P.info? f.type = some i ∧ P.underlying f.type = some d) ∧ ∀ f ∈ flds, f.offset + sizeB P f.type ≤ ti.size ∧ (isAggB P f.type = false → sizeB P f.type = 1)
  map : ∀ k e, ti.desc = .map k e → P.underlying t = some (.map k e)
  eqn : ti.eqn ≠ [] → eqTB P 100 t = some ti.eqn ∧ P.eqGuardType P.depth t = false
  zt : ∀ u, ti.zt = true → ti.ty = some u → ∃ i vs, P.info? t = some i ∧ i.zero = some (mkV ti.agg vs) ∧ zTy u vs

def TabOK (P : Program) (T : Tab) : Prop := ∀ t ti, findL T t = some ti → TIok P t ti

theorem getL_findL {α : Type} (d : α) : ∀ (l : List (Nat × α)) (i : Nat), getL d l i = (findL l i).getD d
  | [], _ => rfl
  | (k, v) :: l, i => by
    unfold getL findL
    split
    · rfl
    · exact getL_findL d l i

theorem TI.of_ok {P : Program} {T : Tab} (h : TabOK P T) (t : TypeId) (hne : TI.of T t ≠ TI.none) : TIok P t (TI.of T t) := by
  unfold TI.of at *
  rw [getL_findL] at *
  cases hf : findL T t with
  | none => rw [hf] at hne; exact absurd rfl hne
  | some ti => exact h t ti hf

/-! ### a run -/

/-- An operation's run comes to K. -/
def Runs (P : Program) (w : World) (K : Value → World → Prop) : Result Next → Prop
  | .ok (.value v) w' => K v w'
  | .ok .skip w' => K undef w'
  | .ok (.enter f args) w' => w' = w ∧ Calls P f args w fun e w'' => ∃ v, e = .returned v ∧ K v w''
  | _ => False

theorem Runs.wp {P : Program} {o : Oper} {a : Act} {w : World} {K : Value → World → Prop} {K' : Act → World → Prop} {Q : Exit → Act → World → Prop}
    (h : Runs P w K ((execOp a.eval o).run P w)) (hK : ∀ v w', K v w' → K' (a.put o.dst v) w') : o.wp P a w K' Q := by
  unfold Oper.wp
  generalize (execOp a.eval o).run P w = r at *
  cases r with
  | ok n w' =>
    cases n <;> simp only [Runs] at h <;> simp only [Oper.upon]
    case value v => exact hK _ _ h
    case skip => exact hK _ _ h
    case enter f args =>
      obtain ⟨rfl, hc⟩ := h
      exact hc.mono fun e w'' ⟨v, he, hk⟩ => by subst he; exact hK _ _ hk
  | halt x w' => simp only [Runs] at h

theorem Runs.ex {P : Program} {w : World} {K : Value → World → Prop} {r : Result Next} (h : Runs P w K r) : ∃ v w', K v w' := by
  cases r with
  | ok n w' =>
    cases n <;> simp only [Runs] at h
    case value v => exact ⟨_, _, h⟩
    case skip => exact ⟨_, _, h⟩
    case enter f args =>
      obtain ⟨rfl, hc⟩ := h
      obtain ⟨e, w'', _, ⟨v, _, hk⟩, _⟩ := hc []
      exact ⟨_, _, hk⟩
  | halt x w' => simp only [Runs] at h

/-- The ids that are free once the operation with the ids from fr on has been carried out. -/
def Nx (N : Nat → Prop) (fr : Nat) : Nat → Prop := fun id => N id ∧ ¬ (fr ≤ id ∧ id < fr + 32)

/-- What holds behind an operation. -/
def Res (cx : Cx) (σ : Nat → Value) (N : Nat → Prop) (m : Mem) (w : World) (fr : Nat) (E : Eff) (v : Value) (w' : World) : Prop :=
  ∃ σ', RepM cx σ' (Nx N fr) (updM m E.u) w' ∧ Rx.Keeps (rx cx σ N m w) (rx cx σ' (Nx N fr) (updM m E.u) w') ∧
    repA (rx cx σ' (Nx N fr) (updM m E.u) w') E.r v ∧ E.asm

section
variable {cx : Cx} {σ : Nat → Value} {N : Nat → Prop} {m : Mem} {w : World} {fr : Nat}

theorem RepM.weaken (h : RepM cx σ N m w) {N' : Nat → Prop} (hN : ∀ id, N' id → N id) : RepM cx σ N' m w ∧ Rx.Keeps (rx cx σ N m w) (rx cx σ N' m w) :=
  h.step (fun _ => False) hN (fun id hn => h.fresh id (hN id hn)) (fun _ _ => ⟨rfl, rfl⟩) (fun _ _ => rfl) (fun _ _ _ => rfl) ⟨Nat.le_refl _, Nat.le_refl _⟩ rfl rfl rfl
    (fun _ _ h => h.elim) (fun _ _ _ h => h.elim) (fun _ h => h.elim) (fun _ _ h => h.elim)

/-- An operation that only computes. -/
theorem Res.pure (h : RepM cx σ N m w) {E : Eff} (hu : E.u = []) {v : Value} (hr : repA (rx cx σ N m w) E.r v) (ha : E.asm) : Res cx σ N m w fr E v w := by
  obtain ⟨h1, h2⟩ := h.weaken (N' := Nx N fr) (fun _ k => k.1)
  refine ⟨σ, ?_, ?_, ?_, ha⟩ <;> rw [hu]
  · exact h1
  · exact h2
  · exact repA_keep h2 _ _ hr

theorem okr_res (h : RepM cx σ N m w) {r : AV} {v : Value} (hr : repA (rx cx σ N m w) r v) : Res cx σ N m w fr (okr r) v w :=
  Res.pure h rfl hr trivial

/-- Plain data behind rows that have been settled. -/
theorem Res.settled (h : RepM cx σ N m w) {E : Eff} {ids : List Nat} (hu : E.u = ids.map (settle m)) {v : Value}
    (hr : RepM cx σ N (updM m (ids.map (settle m))) w → Rx.Keeps (rx cx σ N m w) (rx cx σ N (updM m (ids.map (settle m))) w) → repA (rx cx σ N (updM m (ids.map (settle m))) w) E.r v) (ha : E.asm) : Res cx σ N m w fr E v w := by
  obtain ⟨h1, k1⟩ := h.settles ids
  obtain ⟨h2, k2⟩ := h1.weaken (N' := Nx N fr) (fun _ k => k.1)
  refine ⟨σ, ?_, ?_, ?_, ha⟩ <;> rw [hu]
  · exact h2
  · exact ⟨k1.k.trans k2.k (Nat.le_refl _), fun id hn => rfl, fun id hn => hn.1⟩
  · exact repA_keep k2 _ _ (hr h1 k1)
end

/-! ### operations that compute -/

section
variable {cx : Cx} {σ : Nat → Value} {N : Nat → Prop} {m : Mem} {w : World} {P : Program} {T : Tab}

theorem repA_int {x : Rx} {k : IntKind} {n : Int} (h : InR k n) : repA x (.one (.int k n)) (.int k n) := by unfold repA repC; exact ⟨rfl, h⟩
theorem repA_bool {x : Rx} (b : Bool) : repA x (.one (.bool b)) (.bool b) := by unfold repA repC; rfl
theorem of_int {x : Rx} {k : IntKind} {n : Int} {v : Value} (h : repA x (.one (.int k n)) v) : v = .int k n ∧ InR k n := by unfold repA repC at h; exact h
theorem of_bool {x : Rx} {b : Bool} {v : Value} (h : repA x (.one (.bool b)) v) : v = .bool b := by unfold repA repC at h; exact h
theorem of_str {x : Rx} {s : ByteArray} {v : Value} (h : repA x (.one (.str s)) v) : v = .string s ∧ s.size ≤ maxLen := by unfold repA repC at h; exact h

theorem IntKind.wrap_inR (k : IntKind) (n : Int) : InR k (k.wrap n) := by
  unfold InR IntKind.wrap
  cases k <;> simp only [IntKind.bits, IntKind.signed, IntKind.min, IntKind.max] <;> constructor <;> (first | omega | (split <;> omega) | (simp <;> omega))
theorem IntKind.wrap_in {k : IntKind} {n : Int} (h : InR k n) : k.wrap n = n := by
  obtain ⟨h1, h2⟩ := h
  unfold IntKind.wrap IntKind.min IntKind.max at *
  cases k <;> simp [IntKind.signed, IntKind.bits] at * <;> omega

theorem res_in (h : RepM cx σ N m w) (fr : Nat) (k : IntKind) (n : Int) (p : Prop) (hn : InR k n) : Res cx σ N m w fr ⟨p, .one (.int k n), [], True⟩ (.int k n) w :=
  Res.pure h rfl (repA_int hn) trivial
theorem res_bool (h : RepM cx σ N m w) (fr : Nat) (b : Bool) : Res cx σ N m w fr (okr (.one (.bool b))) (.bool b) w :=
  okr_res h (repA_bool b)

end
end Go.Ev
