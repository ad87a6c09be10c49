/- Soundness of the operations, one by one: what surrounds them, and those that only compute. -/
import Derived.Test.YthbcniifeeoplaaEvRepToCells
namespace Go.Ev

/-! ### the table of types -/

def aggB : TypeDesc → Bool
  | .struct _ | .array _ _ => true
  | _ => false

def sizeB (P : Program) (t : TypeId) : Nat := ((P.info? t).map (·.size)).getD 0
def isAggB (P : Program) (t : TypeId) : Bool := ((P.underlying t).map aggB).getD false

def zCell : Z → Value → Prop
  | .c c, v => constC v = c ∧ (match c with | .int k n => InR k n | .str s => s.size ≤ maxLen | .nilsl => v = .slice none 0 0 | .undef => False | _ => True)
  | .s _ _, v => v = .slice none 0 0

def zCells : List Z → List Value → Prop
  | [], vs => vs = []
  | z :: zs, vs => ∃ v r, vs = v :: r ∧ zCell z v ∧ zCells zs r

/-- A type whose values are compared cell by cell: the cells' kinds. -/
def eqTB (P : Program) : Nat → TypeId → Option (List CK)
  | 0, _ => none
  | d + 1, t => match P.underlying t, (P.info? t).map (·.size) with
    | some (.int k), some 1 => some [.i k]
    | some .bool, some 1 => some [.b]
    | some .string, some 1 => some [.s]
    | some (.struct fs), some n => if P.stoodInHeld t then none else
      (match eqFs (eqTB P d) fs.toList 0 with
      | some ks => if ks.length = n then some ks else none
      | none => none)
    | _, _ => none
where eqFs (f : TypeId → Option (List CK)) : List Field → Nat → Option (List CK)
  | [], _ => some []
  | x :: xs, off => if x.name ≠ "_" ∧ x.offset = off then (match f x.type with
      | some ks => (eqFs f xs (off + ks.length)).map (ks ++ ·)
      | none => none) else none

/-- The zero of a type of plain data, cell by cell. -/
def zTy : Ty → List Value → Prop
  | .int k, vs => vs = [.int k 0]
  | .bool, vs => vs = [.bool false]
  | .str, vs => vs = [.string ByteArray.empty]
  | .unit, vs => vs = []
  | .sl _, vs => vs = [.slice none 0 0]
  | .pair a b, vs => ∃ x y, vs = x ++ y ∧ zTy a x ∧ zTy b y

/-- So many zero values, one behind the other. -/
def zTyN (u : Ty) : Nat → List Value → Prop
  | 0, vs => vs = []
  | n + 1, vs => ∃ x y, vs = x ++ y ∧ zTy u x ∧ zTyN u n y
structure TIok (P : Program) (t : TypeId) (ti : TI) : Prop where
  info : ∃ i, P.info? t = some i ∧ i.size = ti.size ∧ i.bytes = ti.bytes ∧ ∃ z, i.zero = some z ∧ z.cells.size = ti.size ∧ (ti.zero ≠ [] → zCells ti.zero z.cells.toList)
  agg : ∃ d, P.underlying t = some d ∧ aggB d = ti.agg
  one : ti.agg = false → ti.size = 1
  ty : ∀ u, ti.ty = some u → u.n = ti.size ∧ 0 < ti.size ∧ 0 < ti.bytes
  int : ∀ k, ti.desc = .int → ti.ty = some (.int k) → P.underlying t = some (.int k)
  str : ti.desc = .str → P.underlying t = some .string
  bool : ti.desc = .bool → P.underlying t = some .bool
  slice : ∀ e, ti.desc = .slice e → P.underlying t = some (.slice e)
  struct : ∀ fs, ti.desc = .struct fs → ∃ flds : Array Field, P.underlying t = some (.struct flds) ∧ fs = flds.toList.map (fun f => (f.offset, sizeB P f.type, isAggB P f.type)) ∧
    (∀ f ∈ flds, ∃ i d, P.info? f.type = some i ∧ P.underlying f.type = some d) ∧ ∀ f ∈ flds, f.offset + sizeB P f.type ≤ ti.size ∧ (isAggB P f.type = false → sizeB P f.type = 1)
  map : ∀ k e, ti.desc = .map k e → P.underlying t = some (.map k e)
  eqn : ti.eqn ≠ [] → eqTB P 100 t = some ti.eqn ∧ P.eqGuardType P.depth t = false
  arr : ∀ n e u, ti.desc = .array n e u → P.underlying t = some (.array n e) ∧ 0 < n ∧ n ≤ maxLen ∧ 0 < u.n ∧ ∃ i z, P.info? t = some i ∧ i.zero = some z ∧ zTyN u n z.cells.toList
  zt : ∀ u, ti.zt = true → ti.ty = some u → ∃ i vs, P.info? t = some i ∧ i.zero = some (mkV ti.agg vs) ∧ zTy u vs

def TabOK (P : Program) (T : Tab) : Prop := ∀ t ti, findL T t = some ti → TIok P t ti

theorem getL_findL {α : Type} (d : α) : ∀ (l : List (Nat × α)) (i : Nat), getL d l i = (findL l i).getD d
  | [], _ => rfl
  | (k, v) :: l, i => by
    unfold getL findL
    split
    · rfl
    · exact getL_findL d l i

theorem TI.of_ok {P : Program} {T : Tab} (h : TabOK P T) (t : TypeId) (hne : TI.of T t ≠ TI.none) : TIok P t (TI.of T t) := by
  unfold TI.of at *
  rw [getL_findL] at *
  cases hf : findL T t with
  | none => rw [hf] at hne; exact absurd rfl hne
  | some ti => exact h t ti hf

/-! ### a run -/

/-- An operation's run comes to K. -/
def Runs (P : Program) (w : World) (K : Value → World → Prop) : Result Next → Prop
  | .ok (.value v) w' => K v w'
  | .ok .skip w' => K undef w'
  | .ok (.enter f args) w' => w' = w ∧ Calls P f args w fun e w'' => ∃ v, e = .returned v ∧ K v w''
  | _ => False

theorem Runs.wp {P : Program} {o : Oper} {a : Act} {w : World} {K : Value → World → Prop} {K' : Act → World → Prop} {Q : Exit → Act → World → Prop}
    (h : Runs P w K ((execOp a.eval o).run P w)) (hK : ∀ v w', K v w' → K' (a.put o.dst v) w') : o.wp P a w K' Q := by
  unfold Oper.wp
  generalize (execOp a.eval o).run P w = r at *
  cases r with
  | ok n w' =>
    cases n <;> simp only [Runs] at h <;> simp only [Oper.upon]
    case value v => exact hK _ _ h
    case skip => exact hK _ _ h
    case enter f args =>
      obtain ⟨rfl, hc⟩ := h
      exact hc.mono fun e w'' ⟨v, he, hk⟩ => by subst he; exact hK _ _ hk
  | halt x w' => simp only [Runs] at h

theorem Runs.ex {P : Program} {w : World} {K : Value → World → Prop} {r : Result Next} (h : Runs P w K r) : ∃ v w', K v w' := by
  cases r with
  | ok n w' =>
    cases n <;> simp only [Runs] at h
    case value v => exact ⟨_, _, h⟩
    case skip => exact ⟨_, _, h⟩
    case enter f args =>
      obtain ⟨rfl, hc⟩ := h
      obtain ⟨e, w'', _, ⟨v, _, hk⟩, _⟩ := hc []
      exact ⟨_, _, hk⟩
  | halt x w' => simp only [Runs] at h

/-- The ids that are free once the operation with the ids from fr on has been carried out. -/
def Nx (N : Nat → Prop) (fr : Nat) : Nat → Prop := fun id => N id ∧ ¬ (fr ≤ id ∧ id < fr + 32)

/-- What holds behind an operation. -/
def Res (cx : Cx) (σ : Nat → Value) (N : Nat → Prop) (m : Mem) (w : World) (fr : Nat) (E : Eff) (v : Value) (w' : World) : Prop :=
  ∃ σ', RepM cx σ' (Nx N fr) (updM m E.u) w' ∧ Rx.Keeps (rx cx σ N m w) (rx cx σ' (Nx N fr) (updM m E.u) w') ∧
    repA (rx cx σ' (Nx N fr) (updM m E.u) w') E.r v ∧ E.asm

section
variable {cx : Cx} {σ : Nat → Value} {N : Nat → Prop} {m : Mem} {w : World} {fr : Nat}

theorem RepM.weaken (h : RepM cx σ N m w) {N' : Nat → Prop} (hN : ∀ id, N' id → N id) : RepM cx σ N' m w ∧ Rx.Keeps (rx cx σ N m w) (rx cx σ N' m w) :=
  h.step (fun _ => False) hN (fun id hn => h.fresh id (hN id hn)) (fun _ _ => ⟨rfl, rfl⟩) (fun _ _ => rfl) (fun _ _ _ => rfl) ⟨Nat.le_refl _, Nat.le_refl _⟩ rfl rfl rfl
    (fun _ _ h => h.elim) (fun _ _ _ h => h.elim) (fun _ h => h.elim) (fun _ _ h => h.elim)

/-- An operation that only computes. -/
theorem Res.pure (h : RepM cx σ N m w) {E : Eff} (hu : E.u = []) {v : Value} (hr : repA (rx cx σ N m w) E.r v) (ha : E.asm) : Res cx σ N m w fr E v w := by
  obtain ⟨h1, h2⟩ := h.weaken (N' := Nx N fr) (fun _ k => k.1)
  refine ⟨σ, ?_, ?_, ?_, ha⟩ <;> rw [hu]
  · exact h1
  · exact h2
  · exact repA_keep h2 _ _ hr

theorem okr_res (h : RepM cx σ N m w) {r : AV} {v : Value} (hr : repA (rx cx σ N m w) r v) : Res cx σ N m w fr (okr r) v w :=
  Res.pure h rfl hr trivial

/-- Plain data behind rows that have been settled. -/
theorem Res.settled (h : RepM cx σ N m w) {E : Eff} {ids : List Nat} (hu : E.u = ids.map (settle m)) {v : Value}
    (hr : RepM cx σ N (updM m (ids.map (settle m))) w → Rx.Keeps (rx cx σ N m w) (rx cx σ N (updM m (ids.map (settle m))) w) → repA (rx cx σ N (updM m (ids.map (settle m))) w) E.r v) (ha : E.asm) : Res cx σ N m w fr E v w := by
  obtain ⟨h1, k1⟩ := h.settles ids
  obtain ⟨h2, k2⟩ := h1.weaken (N' := Nx N fr) (fun _ k => k.1)
  refine ⟨σ, ?_, ?_, ?_, ha⟩ <;> rw [hu]
  · exact h2
  · exact ⟨k1.k.trans k2.k (Nat.le_refl _), fun id hn => rfl, fun id hn => hn.1⟩
  · exact repA_keep k2 _ _ (hr h1 k1)
end

/-! ### operations that compute -/

section
variable {cx : Cx} {σ : Nat → Value} {N : Nat → Prop} {m : Mem} {w : World} {P : Program} {T : Tab}

theorem repA_int {x : Rx} {k : IntKind} {n : Int} (h : InR k n) : repA x (.one (.int k n)) (.int k n) := by unfold repA repC; exact ⟨rfl, h⟩
theorem repA_bool {x : Rx} (b : Bool) : repA x (.one (.bool b)) (.bool b) := by unfold repA repC; rfl
theorem of_int {x : Rx} {k : IntKind} {n : Int} {v : Value} (h : repA x (.one (.int k n)) v) : v = .int k n ∧ InR k n := by unfold repA repC at h; exact h
theorem of_bool {x : Rx} {b : Bool} {v : Value} (h : repA x (.one (.bool b)) v) : v = .bool b := by unfold repA repC at h; exact h
theorem of_str {x : Rx} {s : ByteArray} {v : Value} (h : repA x (.one (.str s)) v) : v = .string s ∧ s.size ≤ maxLen := by unfold repA repC at h; exact h

theorem IntKind.wrap_inR (k : IntKind) (n : Int) : InR k (k.wrap n) := by
  unfold InR IntKind.wrap
  cases k <;> simp only [IntKind.bits, IntKind.signed, IntKind.min, IntKind.max] <;> constructor <;> (first | omega | (split <;> omega) | (simp <;> omega))
theorem IntKind.wrap_in {k : IntKind} {n : Int} (h : InR k n) : k.wrap n = n := by
  obtain ⟨h1, h2⟩ := h
  unfold IntKind.wrap IntKind.min IntKind.max at *
  cases k <;> simp [IntKind.signed, IntKind.bits] at * <;> omega

theorem res_in (h : RepM cx σ N m w) (fr : Nat) (k : IntKind) (n : Int) (p : Prop) (hn : InR k n) : Res cx σ N m w fr ⟨p, .one (.int k n), [], True⟩ (.int k n) w :=
  Res.pure h rfl (repA_int hn) trivial
theorem res_bool (h : RepM cx σ N m w) (fr : Nat) (b : Bool) : Res cx σ N m w fr (okr (.one (.bool b))) (.bool b) w :=
  okr_res h (repA_bool b)

end
end Go.Ev

/- Soundness of the operations that only compute, and of loads. -/
namespace Go.Ev

section
variable {cx : Cx} {σ : Nat → Value} {N : Nat → Prop} {m : Mem} {w : World} {P : Program} {T : Tab} {G : Env} {o : Oper} {fr : Nat} {ρ : Operand → Value} {av : Operand → AV}

theorem runs_value {K : Value → World → Prop} {r : Result Next} {v : Value} {w' : World} (e : r = .ok (.value v) w') (h : K v w') : Runs P w K r := by rw [e]; exact h
theorem runs_skip {K : Value → World → Prop} {r : Result Next} {w' : World} (e : r = .ok .skip w') (h : K undef w') : Runs P w K r := by rw [e]; exact h

theorem bool_of {x : Rx} {b : Bool} {v : Value} (h : repA x (.one (.bool b)) v) : v = .bool b := of_bool h

theorem pickV_ok {x : Rx} {a : AV} {v : Value} {c b : Bool} (h : pickV a = some (c, b)) (hr : repA x a v) (hc : c = true) : v = .bool b := by
  unfold pickV at h
  split at h
  · cases h; exact of_bool hr
  · cases h
    unfold repA at hr
    exact of_bool (hr.1 hc)
  · cases h
theorem s_pick (h : RepM cx σ N m w) {c a b : Operand} (ho : o.op = .pick c a b) (hc : repA (rx cx σ N m w) (av c) (ρ c)) (ha : repA (rx cx σ N m w) (av a) (ρ a)) (hb : repA (rx cx σ N m w) (av b) (ρ b))
    (hp : (opEff T G o [av c, av a, av b] m fr).pre) : Runs P w (Res cx σ N m w fr (opEff T G o [av c, av a, av b] m fr)) ((execOp ρ o).run P w) := by
  simp only [opEff, ho] at hp ⊢
  cases h1 : pickV (av c) with
  | none => rw [h1] at hp; exact hp.elim
  | some p1 =>
    cases h2 : pickV (av a) with
    | none => rw [h1, h2] at hp; exact hp.elim
    | some p2 =>
      cases h3 : pickV (av b) with
      | none => rw [h1, h2, h3] at hp; exact hp.elim
      | some p3 =>
        obtain ⟨ce, e⟩ := p1
        obtain ⟨cx', x⟩ := p2
        obtain ⟨cy, y⟩ := p3
        rw [h1, h2, h3] at hp
        obtain ⟨k1, k2, k3⟩ := hp
        have e1 := pickV_ok h1 hc k1
        refine runs_value (v := .bool (if e then x else y)) (w' := w) ?_ (Res.pure h rfl (repA_bool _) trivial)
        cases e with
        | true =>
          have e2 := pickV_ok h2 ha (k2 rfl)
          simp [execOp, ho, e1, e2, asBool]
        | false =>
          have e3 := pickV_ok h3 hb (k3 rfl)
          simp [execOp, ho, e1, e3, asBool]

theorem bytes_eq (a b : ByteArray) : (a.toList == b.toList) = decide (a = b) := by
  by_cases e : a = b
  · subst e; simp
  · have : a.toList ≠ b.toList := fun k => e (by
      rw [ByteArray.toList_eq, ByteArray.toList_eq] at k
      exact WideShapes.bytes_inj k)
    simp [e, this]

theorem s_bin (h : RepM cx σ N m w) {op : BinOp} {t u : TypeId} {x y : Operand} (ho : o.op = .binOp op t x y u) {c d : C1} (hx : repA (rx cx σ N m w) (.one c) (ρ x)) (hy : repA (rx cx σ N m w) (.one d) (ρ y))
    (hT : P.underlying t = some .bool ∨ ∀ a b, ¬ (c = .bool a ∧ d = .bool b))
    (hp : (binE op c d).pre) : Runs P w (Res cx σ N m w fr (binE op c d)) ((execOp ρ o).run P w) := by
  have hrun : ∀ v, (binOp op t (ρ x) (ρ y)).run P w = .ok v w → (eqGuard op t x y (ρ x) (ρ y)).run P w = .ok () w → (execOp ρ o).run P w = .ok (.value v) w := by
    intro v h1 h2
    simp [execOp, ho, h1, h2]
  unfold binE at hp ⊢
  split at hp
  · rename_i k a k' b
    obtain ⟨e1, r1⟩ := of_int hx
    obtain ⟨e2, r2⟩ := of_int hy
    split at hp
    · rename_i hk
      subst hk
      have hg : (eqGuard op t x y (ρ x) (ρ y)).run P w = .ok () w := by rw [e1, e2]; unfold eqGuard; cases op <;> simp
      simp only [if_true]
      cases op <;> simp only at hp ⊢ <;> first
        | exact hp.elim
        | (refine runs_value (hrun (.int k _) ?_ hg) (res_in h fr k _ _ (IntKind.wrap_inR k _)); rw [e1, e2]; simp [binOp, Op.intBits, andV]; done)
        | (refine runs_value (hrun (.int k _) ?_ hg) (res_in h fr k _ _ (by first | exact hp | exact hp.2)); rw [e1, e2]; simp only [binOp, ne_eq, not_true_eq_false, if_false, Op.intArith, Sem.run_pure]; rw [IntKind.wrap_in hp])
        | (refine runs_value (hrun (.int k _) ?_ hg) (res_in h fr k _ _ hp.2); rw [e1, e2]; simp [binOp, Op.intDiv, hp.1, IntKind.wrap_in hp.2])
        | (refine runs_value (hrun (.bool _) ?_ hg) (res_bool h fr _); rw [e1, e2]; simp [binOp, Op.intCmp]; done)
        | (refine runs_value (hrun (.bool _) ?_ hg) (res_bool h fr _); rw [e1, e2]; simp only [binOp, Op.intCmp]; by_cases hab : a = b <;> simp [hab])
    · exact hp.elim
  · rename_i a b
    have e1 := of_bool hx
    have e2 := of_bool hy
    have hT' : P.underlying t = some .bool := hT.resolve_right fun k => k a b ⟨rfl, rfl⟩
    have hg : (eqGuard op t x y (ρ x) (ρ y)).run P w = .ok () w := by rw [e1, e2]; unfold eqGuard; cases op <;> simp
    cases op <;> simp only at hp ⊢ <;> first
      | exact hp.elim
      | (refine runs_value (hrun (.bool _) ?_ hg) (res_bool h fr _); rw [e1, e2]; first | rw [run_eql_bool w t a b hT'] | rw [run_neq_bool w t a b hT']); cases a <;> cases b <;> rfl
  · rename_i a b
    obtain ⟨e1, _⟩ := of_str hx
    obtain ⟨e2, _⟩ := of_str hy
    have hg : (eqGuard op t x y (ρ x) (ρ y)).run P w = .ok () w := by rw [e1, e2]; unfold eqGuard; cases op <;> simp
    cases op <;> simp only at hp ⊢ <;> first
      | exact hp.elim
      | (refine runs_value (hrun (.bool _) ?_ hg) (res_bool h fr _); rw [e1, e2]; simp only [binOp, Op.stringOp, Sem.run_pure, bytes_eq, strLt]; done)
      | (refine runs_value (hrun (.bool _) ?_ hg) (res_bool h fr _); rw [e1, e2]; simp only [binOp, Op.stringOp, Sem.run_pure, bytes_eq]; by_cases hab : a = b <;> simp [hab])
  · exact hp.elim

theorem s_not (h : RepM cx σ N m w) {t : TypeId} {x : Operand} (ho : o.op = .unOp .not t x) (hx : repA (rx cx σ N m w) (av x) (ρ x))
    (hp : (opEff T G o [av x] m fr).pre) : Runs P w (Res cx σ N m w fr (opEff T G o [av x] m fr)) ((execOp ρ o).run P w) := by
  simp only [opEff, ho] at hp ⊢
  split at hp <;> rename_i heq
  · rename_i b
    simp at heq
    rw [heq] at hx
    have e := of_bool hx
    exact runs_value (v := .bool (!b)) (w' := w) (by simp [execOp, ho, e, Op.unary]) (okr_res h (repA_bool _))
  · exact hp.elim

theorem s_neg (h : RepM cx σ N m w) {t : TypeId} {x : Operand} (ho : o.op = .unOp .neg t x) (hx : repA (rx cx σ N m w) (av x) (ρ x))
    (hp : (opEff T G o [av x] m fr).pre) : Runs P w (Res cx σ N m w fr (opEff T G o [av x] m fr)) ((execOp ρ o).run P w) := by
  simp only [opEff, ho] at hp ⊢
  split at hp <;> rename_i heq
  · rename_i k n
    simp at heq
    rw [heq] at hx
    obtain ⟨e, _⟩ := of_int hx
    refine runs_value (v := .int k (-n)) (w' := w) ?_ (res_in h fr k _ _ hp)
    simp [execOp, ho, e, Op.unary, Op.intArith, IntKind.wrap_in hp]
  · exact hp.elim

theorem repAs_get {x : Rx} : ∀ (as : List AV) (vs : List Value), repAs x as vs → ∀ (i : Nat) (a : AV), as[i]? = some a → ∃ v, vs[i]? = some v ∧ repA x a v
  | [], _, _, i, a, hi => by simp at hi
  | a :: as, vs, h, i, b, hi => by
    unfold repAs at h
    obtain ⟨v, r, rfl, h1, h2⟩ := h
    cases i with
    | zero => simp at hi; subst hi; exact ⟨v, rfl, h1⟩
    | succ i => simpa using repAs_get as r h2 i b (by simpa using hi)

theorem s_extract (h : RepM cx σ N m w) {x : Operand} {i : Nat} (ho : o.op = .extract x i) (hx : repA (rx cx σ N m w) (av x) (ρ x))
    (hp : (opEff T G o [av x] m fr).pre) : Runs P w (Res cx σ N m w fr (opEff T G o [av x] m fr)) ((execOp ρ o).run P w) := by
  simp only [opEff, ho] at hp ⊢
  split at hp <;> rename_i heq
  · rename_i vs
    simp at heq
    rw [heq] at hx
    unfold repA at hx
    obtain ⟨us, e, hus⟩ := hx
    cases hv : vs[i]? with
    | none => rw [hv] at hp; exact hp.elim
    | some a =>
      obtain ⟨v, h1, h2⟩ := repAs_get _ _ hus i a hv
      exact runs_value (v := v) (w' := w) (by simp [execOp, ho, e, Instr.extract, h1]) (okr_res h h2)
  · exact hp.elim

theorem s_nilCheck (h : RepM cx σ N m w) {x : Operand} (ho : o.op = .nilCheck x) (hx : repA (rx cx σ N m w) (av x) (ρ x))
    (hp : (opEff T G o [av x] m fr).pre) : Runs P w (Res cx σ N m w fr (opEff T G o [av x] m fr)) ((execOp ρ o).run P w) := by
  simp only [opEff, ho] at hp ⊢
  split at hp <;> rename_i heq
  · simp at heq
    rw [heq] at hx
    have hx' := hx
    unfold repA repC at hx'
    obtain ⟨_, b, _, e⟩ := hx'
    exact runs_value (v := ρ x) (w' := w) (by simp [execOp, ho, e]) (okr_res h hx)
  · simp at heq
    rw [heq] at hx
    have hx' := hx
    unfold repA repC at hx'
    obtain ⟨b, _, _, e, _⟩ := hx'
    exact runs_value (v := ρ x) (w' := w) (by simp [execOp, ho, e]) (okr_res h hx)
  · simp at heq
    rw [heq] at hx
    have hx' := hx
    unfold repA repC at hx'
    obtain ⟨_, b, _, _, _, e⟩ := hx'
    exact runs_value (v := ρ x) (w' := w) (by simp [execOp, ho, e]) (okr_res h hx)
  · exact hp.elim

/-! ### loads -/

theorem run_isAgg {t : TypeId} {d : TypeDesc} (hd : P.underlying t = some d) : (isAgg t).run P w = .ok (aggB d) w := by
  unfold isAgg
  rw [Sem.run_bind, run_underlying hd w]
  cases d <;> simp [aggB]

theorem run_sizeOf {t : TypeId} {i : TypeInfo} (hi : P.info? t = some i) : (sizeOf t).run P w = .ok i.size w := by
  simp [sizeOf, typeInfo, hi]

/-- A variable, read: its cells. -/
theorem run_loadVar_cells {t : TypeId} {ti : TI} (ht : TIok P t ti) {b o : Nat} {vs : List Value} (hl : vs.length = ti.size) (hc : ∀ j u, vs[j]? = some u → w.cell? ⟨b, o + j, none⟩ = some u) :
    (loadVar t ⟨b, o, none⟩).run P w = .ok (if ti.agg then .agg vs.toArray else vs.getD 0 undef) w := by
  obtain ⟨i, hi, hs, _⟩ := ht.info
  obtain ⟨d, hd, ha⟩ := ht.agg
  unfold loadVar
  rw [Sem.run_bind, run_isAgg hd, ha, Result.andThen_ok]
  cases hag : ti.agg with
  | true =>
    have hlc := run_loadCells_list (P := P) w ⟨b, o, none⟩ vs (fun j v hv => by rw [add_none]; exact hc j v hv)
    rw [hl, ← hs] at hlc
    simp [run_sizeOf hi, hlc]
  | false =>
    have h1 := ht.one hag
    match vs, hl with
    | [v], _ =>
      have := hc 0 v rfl
      simp only [Nat.add_zero] at this
      simp [this]
    | [], hl => simp [h1] at hl
    | _ :: _ :: _, hl => simp [h1] at hl

theorem avOf_rep {x : Rx} {ag : Bool} {cs : List C1} {vs : List Value} (h : repCs x cs vs) (h1 : ag = false → cs.length = 1) :
    repA x (avOf ag cs) (if ag then .agg vs.toArray else vs.getD 0 undef) := by
  unfold avOf
  cases ag with
  | true => simp only [if_true]; unfold repA; exact ⟨vs, rfl, h⟩
  | false =>
    match cs, h1 rfl with
    | [c], _ =>
      obtain ⟨v, r, rfl, h2, h3⟩ := repCs_cons.1 h
      simp only [Bool.false_eq_true, if_false, List.getD_cons_zero]
      unfold repA; exact h2

theorem TI_ne {ti : TI} (h : ti.size ≠ 0) : ti ≠ TI.none := fun e => h (by rw [e]; rfl)

theorem cell_at {vs : List Value} {b : Nat} {e : TypeId} (hb : w.heap[b]? = some (.cells vs.toArray e (0, 0))) (j : Nat) : w.cell? ⟨b, j, none⟩ = vs[j]? := by
  rw [cell_of_row w b j _ e (0, 0) hb]; simp

/-- An element of a row that the call owns. -/
theorem row_elem (h : RepM cx σ N m w) {id : Nat} {e : TypeId} {u : Ty} {xs : List u.den} (hm : m id = .row e u xs) {b n c : Nat} (hσ : σ id = .slice (some ⟨b, 0, none⟩) n c) {i : Nat} (hi : i < xs.length) :
    ∃ vs, ro w (Owned cx σ m) u xs[i] vs ∧ ∀ j v, vs[j]? = some v → w.cell? ⟨b, i * u.n + j, none⟩ = some v := by
  have hb := h.blk id
  rw [hm] at hb
  obtain ⟨a, cap, flat, e1, e2, e3, e4, e5⟩ := row_read hb
  rw [hσ] at e1
  simp only [Value.slice.injEq] at e1
  obtain ⟨rfl, rfl, rfl⟩ := e1
  rcases e5 with ⟨_, rfl, _⟩ | ⟨g, e6, _, e7⟩
  · cases hi
  · simp only [Option.some.injEq, Addr.mk.injEq, and_true] at e6
    subst e6
    obtain ⟨pre, vs, post, he, hl, hr, _, _⟩ := roAll_at (fun x c => ro_len u x c) e4 hi
    refine ⟨vs, hr, fun j v hv => e7 _ v ?_⟩
    have hj := (List.getElem?_eq_some_iff.1 hv).1
    rw [he, List.getElem?_append_right (by omega), hl, Nat.add_sub_cancel_left, List.getElem?_append_left hj]
    exact hv

theorem settled_elem (h : RepM cx σ N m w) {id : Nat} {u : Ty} {xs : List u.den} (hm : m id = .settled u xs) {b o n c : Nat} (hσ : σ id = .slice (some ⟨b, o, none⟩) n c) {i : Nat} (hi : i < xs.length) :
    ∃ vs, ro w (Owned cx σ m) u xs[i] vs ∧ CellsAt w (Owned cx σ m) b (o + i * u.n) vs := by
  have hb := h.blk id
  rw [hm] at hb
  obtain ⟨a, len, cap, e, h2, h3, h4, h5⟩ := hb
  simp [rx, hσ] at e
  rcases h5 with h7 | ⟨b', o', flat, h6, h7, h8⟩
  · rw [h7] at h3; rw [h2] at h3; omega
  · obtain ⟨e1, e2⟩ : b = b' ∧ o = o' := by rw [h6] at e; simp at e; exact e.1
    subst e1; subst e2
    obtain ⟨pre, vs, post, he, hl, hr, _, _⟩ := roAll_at (fun x c => ro_len u x c) h7 hi
    refine ⟨vs, hr, fun j v hv => ?_⟩
    have := h8 (i * u.n + j) v (by
      rw [he, List.getElem?_append_right (by omega), hl, show i * u.n + j - i * u.n = j by omega]
      have hj : j < vs.length := (List.getElem?_eq_some_iff.1 hv).1
      rw [List.getElem?_append_left hj]; exact hv)
    rwa [← Nat.add_assoc] at this

theorem getD_eq {α : Type} (xs : List α) (i : Nat) (d : α) (h : i < xs.length) : xs.getD i d = xs[i] := by simp [List.getD, h]

theorem load_core (h : RepM cx σ N m w) {t : TypeId} {x : Operand} (ho : o.op = .load t x) (ht : TabOK P T) {c : C1} (hx : repC (rx cx σ N m w) c (ρ x))
    (hp : (loadE m (TI.of T t) c).pre) : Runs P w (Res cx σ N m w fr (loadE m (TI.of T t) c)) ((execOp ρ o).run P w) := by
  generalize hti : TI.of T t = ti at *
  have hrun : ∀ (b q : Nat) (vs : List Value), 0 < ti.size → ρ x = .pointer (some ⟨b, q, none⟩) → vs.length = ti.size → (∀ j u, vs[j]? = some u → w.cell? ⟨b, q + j, none⟩ = some u) →
      (execOp ρ o).run P w = .ok (.value (if ti.agg then .agg vs.toArray else vs.getD 0 undef)) w := by
    intro b q vs hne e1 e2 e3
    have := run_loadVar_cells (P := P) (w := w) (hti ▸ TI.of_ok ht t (hti.symm ▸ TI_ne (by omega))) e2 e3
    simp [execOp, ho, Instr.loadAt, Instr.sureAddr, e1, this]
  have hone : 0 < ti.size → ti.agg = false → ti.size = 1 := fun hne => (hti ▸ TI.of_ok ht t (hti.symm ▸ TI_ne (by omega))).one
  have elem : ∀ (u : Ty) (y : u.den) (vs : List Value) (b q off : Nat) (p : Prop), 0 < ti.size → off + ti.size ≤ u.n → ρ x = .pointer (some ⟨b, q + off, none⟩) → ro w (Owned cx σ m) u y vs →
      (∀ j v, vs[j]? = some v → w.cell? ⟨b, q + j, none⟩ = some v) →
      Runs P w (Res cx σ N m w fr ⟨p, avOf ti.agg (((expl u y).drop off).take ti.size), [], Wf u y⟩) ((execOp ρ o).run P w) := by
    intro u y vs b q off p hpos hle e1 hr hca
    have hlen := ro_len u y vs hr
    have hcs := expl_rep (x := rx cx σ N m w) u y vs hr
    have hd := repCs_take ti.size _ _ (repCs_drop off _ _ hcs)
    refine runs_value (hrun b (q + off) ((vs.drop off).take ti.size) hpos e1 (by simp; omega) (fun j v hv => ?_)) (Res.pure h rfl (avOf_rep hd (fun hg => by simp [expl_len]; have := hone hpos hg; omega)) (ro_wf u y vs hr))
    rw [List.getElem?_take] at hv
    split at hv
    · rw [List.getElem?_drop] at hv
      rw [Nat.add_assoc]; exact hca _ _ hv
    · cases hv
  unfold loadE at hp ⊢
  split at hp
  · rename_i id off
    split at hp
    · rename_i e cs hm
      try simp only [hm]
      split at hp
      · rename_i hle
        simp only [hle, and_self, if_true]
        unfold repC at hx
        obtain ⟨hn, b, e1, e2⟩ := hx
        have hb := h.blk id
        rw [hm] at hb
        obtain ⟨b', vs, e3, e4, hcs, h1⟩ := hb
        simp only [rx] at e1 e3 e4
        rw [e1] at e3; simp at e3; subst e3
        have hlen := repCs_len _ _ hcs
        have hd := repCs_take ti.size _ _ (repCs_drop off _ _ hcs)
        refine runs_value (hrun b off ((vs.drop off).take ti.size) hle.1 e2 (by simp; omega) (fun j u hu => ?_)) (okr_res h (avOf_rep hd (fun hg => by simp; have := hone hle.1 hg; omega)))
        rw [cell_at e4]
        rw [List.getElem?_take] at hu
        split at hu
        · rwa [List.getElem?_drop] at hu
        · cases hu
      · exact hp.elim
    · exact hp.elim
  · rename_i u y off
    split at hp
    · rename_i hle
      simp only [hle, and_self, if_true]
      unfold repC at hx
      obtain ⟨b, q, vs, e1, hr, hca⟩ := hx
      exact elem u y vs b q off True hle.1 hle.2 e1 hr (fun j v hv => (hca j v hv).2)
    · exact hp.elim
  · rename_i id sz i off
    unfold repC at hx
    obtain ⟨hn, b, n, c, e1, e2⟩ := hx
    simp only [rx] at e1
    split at hp
    · rename_i e u xs hm
      try simp only [hm]
      split at hp
      · rename_i hle
        obtain ⟨h1, h2, rfl⟩ := hle
        obtain ⟨hi0, hi1⟩ := hp
        have hi : i.toNat < xs.length := by omega
        obtain ⟨vs, hr, hca⟩ := row_elem h hm e1 hi
        simp only [h1, h2, and_self, if_true]
        rw [getD_eq xs i.toNat u.dflt hi]
        exact elem u _ vs b (i.toNat * u.n) off _ h1 h2 e2 hr hca
      · exact hp.elim
    · rename_i u xs hm
      try simp only [hm]
      split at hp
      · rename_i hle
        obtain ⟨h1, h2, rfl⟩ := hle
        obtain ⟨hi0, hi1⟩ := hp
        have hi : i.toNat < xs.length := by omega
        obtain ⟨vs, hr, hca⟩ := settled_elem h hm e1 hi
        simp only [h1, h2, and_self, if_true]
        rw [getD_eq xs i.toNat u.dflt hi]
        refine elem u _ vs b (i.toNat * u.n) off _ h1 h2 e2 hr (fun j v hv => ?_)
        have := (hca j v hv).2
        rwa [Nat.zero_add] at this
      · exact hp.elim
    · exact hp.elim
  · exact hp.elim

theorem s_load (h : RepM cx σ N m w) {t : TypeId} {x : Operand} (ho : o.op = .load t x) (ht : TabOK P T) (hx : repA (rx cx σ N m w) (av x) (ρ x))
    (hp : (opEff T G o [av x] m fr).pre) : Runs P w (Res cx σ N m w fr (opEff T G o [av x] m fr)) ((execOp ρ o).run P w) := by
  simp only [opEff, ho] at hp ⊢
  split at hp <;> rename_i heq
  · rename_i c
    simp at heq
    rw [heq] at hx
    unfold repA at hx
    exact load_core h ho ht hx hp
  · exact hp.elim

end
end Go.Ev

/- Soundness of the operations that make or write memory. -/
namespace Go.Ev

section
variable {cx : Cx} {σ : Nat → Value} {N : Nat → Prop} {m : Mem} {w : World} {P : Program} {T : Tab} {G : Env} {o : Oper} {fr : Nat} {ρ : Operand → Value} {av : Operand → AV}

def upd {α : Type} (f : Nat → α) (k : Nat) (b : α) : Nat → α := fun i => if k = i then b else f i
theorem upd_same {α : Type} (f : Nat → α) (k : Nat) (b : α) : upd f k b k = b := by simp [upd]
theorem upd_ne {α : Type} (f : Nat → α) {k i : Nat} (b : α) (h : i ≠ k) : upd f k b i = f i := by simp [upd, Ne.symm h]

theorem same_world (w : World) : (∀ b, b < w.heap.size → w.heap[b]? = w.heap[b]?) ∧ w.os = w.os ∧ w.tape = w.tape ∧ w.output = w.output ∧ w.heap.size ≤ w.heap.size ∧ w.drawn ≤ w.drawn :=
  ⟨fun _ _ => rfl, rfl, rfl, rfl, Nat.le_refl _, Nat.le_refl _⟩
theorem alloc_world (w : World) (ob : Obj) : (∀ b, b < w.heap.size → (w.alloc ob).heap[b]? = w.heap[b]?) ∧ (w.alloc ob).os = w.os ∧ (w.alloc ob).tape = w.tape ∧ (w.alloc ob).output = w.output ∧ w.heap.size ≤ (w.alloc ob).heap.size ∧ w.drawn ≤ (w.alloc ob).drawn :=
  ⟨fun _ hb => heap_alloc_old w ob hb, rfl, rfl, rfl, by simp, Nat.le_refl _⟩

/-- A new id: a row of no cells, or a block at the heap's end. -/
theorem RepM.put (h : RepM cx σ N m w) {id : Nat} (hid : N id) (v : Value) (B : Blk) (w' : World) (hv : v.oneCell' = true)
    (hw : (∀ b, b < w.heap.size → w'.heap[b]? = w.heap[b]?) ∧ w'.os = w.os ∧ w'.tape = w.tape ∧ w'.output = w.output ∧ w.heap.size ≤ w'.heap.size ∧ w.drawn ≤ w'.drawn) (hb : ∀ b, own B = true → blkOf v = some b → w.heap.size ≤ b)
    (hrep : Rx.Keeps (rx cx σ N m w) (rx cx (upd σ id v) (fun i => N i ∧ i ≠ id) (upd m id B) w') → repB (rx cx (upd σ id v) (fun i => N i ∧ i ≠ id) (upd m id B) w') id B)
    (hnf : ∀ b, Go.Ev.hb v b → blkOf v = some b := by intro b h; first | exact hb_slice.1 h | exact hb_ptr.1 h | exact hb_map.1 h) :
    RepM cx (upd σ id v) (fun i => N i ∧ i ≠ id) (upd m id B) w' ∧ Rx.Keeps (rx cx σ N m w) (rx cx (upd σ id v) (fun i => N i ∧ i ≠ id) (upd m id B) w') := by
  obtain ⟨hold, hf⟩ := hw
  refine h.step (fun i => i = id) (fun i hi => hi.1) (fun i hi => by rw [upd_ne _ _ hi.2]; exact h.fresh i hi.1) (fun i hi => ⟨upd_ne _ _ hi, upd_ne _ _ hi⟩)
    (fun i hi => upd_ne _ _ (fun e => hi (e ▸ hid))) (fun b hb _ => hold b hb) hf.2.2.2 hf.1 hf.2.1 hf.2.2.1 (fun i b hi ho hbl => ?_) (fun i i' b hi hi' _ _ _ _ => hi.trans hi'.symm) (fun i hi => ?_) (fun hk i hi => ?_)
  · subst hi; rw [upd_same] at ho hbl; exact .inl (hb b ho (hnf b hbl))
  · subst hi; rw [upd_same]; exact hv
  · subst hi; rw [upd_same]; exact hrep hk

/-- Nil slices of a zero value become rows. -/
theorem mkZero_rep : ∀ (zs : List Z) (fr : Nat) (vs : List Value) (σ : Nat → Value) (N : Nat → Prop) (m : Mem), RepM cx σ N m w → (∀ j, j < zs.length → N (fr + j)) → zCells zs vs →
    ∃ σ' N', RepM cx σ' N' (updM m (mkZero zs fr).2) w ∧ Rx.Keeps (rx cx σ N m w) (rx cx σ' N' (updM m (mkZero zs fr).2) w) ∧ repCs (rx cx σ' N' (updM m (mkZero zs fr).2) w) (mkZero zs fr).1 vs ∧
      oneAll vs ∧ ∀ id, N id → (id < fr ∨ fr + zs.length ≤ id) → N' id
  | [], fr, vs, σ, N, m, h, _, hz => by
    rw [show vs = [] from hz]
    exact ⟨σ, N, h, ⟨Keep.refl _ _, fun _ _ => rfl, fun _ h => h⟩, repCs_nil.2 rfl, (fun _ hh => by cases hh), fun _ h _ => h⟩
  | .c c :: zs, fr, vs, σ, N, m, h, hN, hz => by
    obtain ⟨v, r, rfl, ⟨hv, hc⟩, hr⟩ := hz
    obtain ⟨σ', N', h1, h2, h3, h4, h5⟩ := mkZero_rep zs fr r σ N m h (fun j hj => hN j (by simp; omega)) hr
    refine ⟨σ', N', h1, h2, repCs_cons.2 ⟨v, r, rfl, ?_, h3⟩, fun u hu => ?_, fun id hid hr => h5 id hid (by simp at hr; omega)⟩
    · subst hv
      cases v with
      | int k n => unfold repC; exact ⟨rfl, hc⟩
      | bool b => unfold repC; rfl
      | string s => unfold repC; exact ⟨rfl, hc⟩
      | slice a l cp => cases a <;> simp [constC] at hc ⊢; unfold repC; rw [hc.1, hc.2]
      | pointer a => cases a <;> simp [constC] at hc ⊢; unfold repC; rfl
      | nilFunc => unfold repC; rfl
      | _ => simp [constC] at hc
    · cases List.mem_cons.1 hu with
      | inl e =>
        subst e
        subst hv
        cases u <;> simp [constC] at hc <;> first | rfl | skip
      | inr e => exact h4 u e
  | .s e t :: zs, fr, vs, σ, N, m, h, hN, hz => by
    obtain ⟨v, r, rfl, hv, hr⟩ := hz
    rw [show v = .slice none 0 0 from hv]
    have hn0 : N fr := hN 0 (by simp)
    obtain ⟨g1, g2⟩ := h.put hn0 (.slice none 0 0) (.row e t []) w rfl (same_world w) (fun b _ hb => by simp [blkOf] at hb)
      (fun _ => ⟨0, [], rfl, by simp only [rx]; rw [upd_same]; exact rowR_none w e t.n none, rfl⟩)
    obtain ⟨σ', N', h1, h2, h3, h4, h5⟩ := mkZero_rep zs (fr + 1) r _ _ _ g1 (fun j hj => ⟨by have := hN (j + 1) (by simp; omega); rwa [show fr + (j + 1) = fr + 1 + j by omega] at this, by omega⟩) hr
    have hfr : ¬ (fun i => N i ∧ i ≠ fr) fr := fun k => k.2 rfl
    refine ⟨σ', N', h1, ⟨g2.k.trans h2.k (Nat.le_refl _), fun id hid => ?_, fun id hid => (h2.N id hid).1⟩, repCs_cons.2 ⟨_, r, rfl, ?_, h3⟩, fun u hu => ?_, fun id hid hr => h5 id ⟨hid, by simp at hr; omega⟩ (by simp at hr; omega)⟩
    · exact (h2.σ id (fun k => hid k.1)).trans (g2.σ id hid)
    · unfold repC
      refine ⟨fun k => hfr (h2.N fr k), ?_⟩
      have := h2.σ fr hfr
      simp only [rx] at this ⊢
      rw [this, upd_same]
    · cases List.mem_cons.1 hu with
      | inl e => subst e; rfl
      | inr e => exact h4 u e

theorem run_zeroValue {t : TypeId} {i : TypeInfo} {z : Value} (hi : P.info? t = some i) (hz : i.zero = some z) : (zeroValue t).run P w = .ok z w := by
  simp [zeroValue, typeInfo, hi, hz]

/-- A new block, behind ghost steps. -/
theorem alloc_block {σ0 : Nat → Value} {N0 : Nat → Prop} {m0 : Mem} (hk : Rx.Keeps (rx cx σ0 N0 m0 w) (rx cx σ N m w)) (h : RepM cx σ N m w) (hfr : N fr) (hsub : ∀ id, N0 id → ¬ (fr ≤ id ∧ id < fr + 32) → N id)
    {e : TypeId} {cs : List C1} {vs : List Value} (hcs : repCs (rx cx σ N m w) cs vs) (h1 : oneAll vs) {u0 : Heap} (hm : m = updM m0 u0) :
    Res cx σ0 N0 m0 w fr ⟨True, .one (.loc fr 0), u0 ++ [(fr, .cells e cs)], True⟩ (.pointer (some ⟨w.heap.size, 0, none⟩)) (w.alloc (.cells vs.toArray e)) := by
  obtain ⟨g1, g2⟩ := h.put hfr (.pointer (some ⟨w.heap.size, 0, none⟩)) (.cells e cs) (w.alloc (.cells vs.toArray e)) rfl (alloc_world w _) (fun b _ hb => by simp [blkOf] at hb; omega)
    (fun hk => ⟨w.heap.size, vs, by simp only [rx]; rw [upd_same], heap_alloc_new w _, repCs_keep hk cs vs hcs, h1⟩)
  have hw : ∀ id, Nx N0 fr id → (N id ∧ id ≠ fr) := fun id hid => ⟨hsub id hid.1 hid.2, fun e => hid.2 ⟨by omega, by omega⟩⟩
  obtain ⟨g3, g4⟩ := g1.weaken hw
  have hmm : updM m0 (u0 ++ [(fr, Blk.cells e cs)]) = upd m fr (.cells e cs) := by
    rw [updM_append, ← hm]; rfl
  refine ⟨upd σ fr (.pointer (some ⟨w.heap.size, 0, none⟩)), ?_, ?_, ?_, trivial⟩ <;> simp only [hmm]
  · exact g3
  · exact ⟨(hk.k.trans g2.k (Nat.le_refl _)).trans g4.k (by simp [rx]), fun id hid => by
      have hid' : ¬ N id := fun k => hid (hk.N id k)
      rw [g4.σ id (fun k => hid' k.1), g2.σ id hid']; exact hk.σ id hid, fun id hid => hid.1⟩
  · unfold repA repC
    exact ⟨fun k => k.2 ⟨by omega, by omega⟩, w.heap.size, by simp only [rx]; rw [upd_same], rfl⟩

theorem zTy_ro {w : World} {O : Nat → Prop} : ∀ (t : Ty) (vs : List Value), zTy t vs → ro w O t t.dflt vs
  | .int k, vs, h => ⟨h, by unfold InR IntKind.min IntKind.max; cases k <;> simp [IntKind.signed, IntKind.bits, Ty.dflt]⟩
  | .bool, vs, h => h
  | .str, vs, h => ⟨h, by simp [Ty.dflt, maxLen]⟩
  | .unit, vs, h => h
  | .sl t, vs, h => ⟨none, 0, 0, h, rfl, Nat.le_refl _, by simp [maxLen], .inl rfl⟩
  | .pair a b, vs, ⟨x, y, e, h1, h2⟩ => ⟨x, y, e, zTy_ro a x h1, zTy_ro b y h2⟩

theorem zTyN_ro {w : World} {O : Nat → Prop} {u : Ty} : ∀ (n : Nat) (vs : List Value), zTyN u n vs → roAll (ro w O u) (List.replicate n u.dflt) vs
  | 0, _, h => h
  | n + 1, _, ⟨x, y, e, h1, h2⟩ => ⟨x, y, e, zTy_ro u x h1, zTyN_ro n y h2⟩
theorem s_alloc_arr (h : RepM cx σ N m w) (hfr : ∀ id, fr ≤ id → id < fr + 32 → N id) {t : TypeId} (ho : o.op = .alloc t) (ht : TabOK P T) {n : Nat} {e : TypeId} {u : Ty} (hd : (TI.of T t).desc = .array n e u) :
    Runs P w (Res cx σ N m w fr ⟨True, .one (.ep fr u.n 0 0), [(fr, .row t u (List.replicate n u.dflt))], True⟩) ((execOp ρ o).run P w) := by
  have htt := TI.of_ok ht t (fun e => by rw [e] at hd; cases hd)
  obtain ⟨hu, hn0, hnm, hun, i, z, hi, hz, hzt⟩ := htt.arr n e u hd
  have hrun : (execOp ρ o).run P w = .ok (.value (.pointer (some ⟨w.heap.size, 0, none⟩))) (w.alloc (.cells z.cells.toList.toArray t)) := by
    simp [execOp, ho, Instr.alloc, run_zeroValue hi hz, newVar, newRow]
  have hlen : z.cells.toList.length = n * u.n := by
    have := roAll_len (fun x c => ro_len u x c) _ _ (zTyN_ro (w := w) (O := fun _ => False) n _ hzt)
    rwa [List.length_replicate] at this
  obtain ⟨g1, g2⟩ := h.put (hfr fr (by omega) (by omega)) (.slice (some ⟨w.heap.size, 0, none⟩) n n) (.row t u (List.replicate n u.dflt)) (w.alloc (.cells z.cells.toList.toArray t)) rfl (alloc_world w _) (fun b _ hb => by rw [blkOf_slice hn0] at hb; simp at hb; omega)
    (fun hk => ⟨n, z.cells.toList, by simp, by
      simp only [rx]; rw [upd_same]
      exact rowR_of hlen (heap_alloc_new w _) (Nat.le_refl _) hnm (by simp only [List.size_toArray]; exact hlen) (by rw [List.take_of_length_le (by simp only [List.toList_toArray]; omega)]), zTyN_ro n _ hzt⟩)
  obtain ⟨g3, g4⟩ := g1.weaken (N' := Nx N fr) (fun id hid => ⟨hid.1, fun e => hid.2 ⟨by omega, by omega⟩⟩)
  refine runs_value hrun ⟨_, g3, ⟨g2.k.trans g4.k (by simp [rx]), fun id hid => g2.σ id hid, fun id hid => hid.1⟩, ?_, trivial⟩
  unfold repA repC
  exact ⟨fun k => k.2 ⟨by omega, by omega⟩, w.heap.size, n, n, by simp only [rx]; rw [upd_same], by simp⟩
theorem s_alloc (h : RepM cx σ N m w) (hfr : ∀ id, fr ≤ id → id < fr + 32 → N id) {t : TypeId} (ho : o.op = .alloc t) (ht : TabOK P T)
    (hp : (opEff T G o [] m fr).pre) : Runs P w (Res cx σ N m w fr (opEff T G o [] m fr)) ((execOp ρ o).run P w) := by
  simp only [opEff, ho] at hp ⊢
  split at hp
  · rename_i n e u hd
    exact s_alloc_arr h hfr ho ht hd
  split at hp
  · exact hp.elim
  · rename_i hz
    rw [if_neg hz]
    simp only [not_or] at hz
    have hne : TI.of T t ≠ TI.none := fun e => hz.1 (by rw [e]; rfl)
    have htt := TI.of_ok ht t hne
    obtain ⟨i, hi, hs, hby, z, hzz, hzs, hzc⟩ := htt.info
    obtain ⟨σ', N', h1, h2, h3, h4, h5⟩ := mkZero_rep (TI.of T t).zero (fr + 1) z.cells.toList σ N m h (fun j hj => hfr _ (by omega) (by omega)) (hzc hz.1)
    have hrun : (execOp ρ o).run P w = .ok (.value (.pointer (some ⟨w.heap.size, 0, none⟩))) (w.alloc (.cells z.cells.toList.toArray t)) := by
      simp [execOp, ho, Instr.alloc, run_zeroValue hi hzz, newVar, newRow]
    refine runs_value hrun (alloc_block h2 h1 (h5 fr (hfr fr (by omega) (by omega)) (.inl (by omega))) (fun id hid hx => h5 id hid (by omega)) h3 h4 rfl)

theorem known_all {x : Rx} (hσ : ∀ id, (x.σ id).oneCell' = true) : ∀ (cs : List C1) (vs : List Value), cs.all known = true → repCs x cs vs → oneAll vs
  | [], _, _, h => by rw [repCs_nil.1 h]; intro u hu; cases hu
  | c :: cs, _, hk, h => by
    obtain ⟨v, r, rfl, h1, h2⟩ := repCs_cons.1 h
    simp at hk
    intro u hu
    cases List.mem_cons.1 hu with
    | inl e => rw [e]; exact repC_one hk.1 h1 (fun id _ => hσ id)
    | inr e => exact known_all hσ cs r (by simpa using hk.2) h2 u e

/-- The cells of a value. -/
theorem cells_of {x : Rx} (hσ : ∀ id, (x.σ id).oneCell' = true) {a : AV} {v : Value} (h : repA x a v) (hk : a.cells.all known = true) (hne : a.cells ≠ []) : repCs x a.cells v.cells.toList := by
  cases a with
  | one c =>
    unfold repA at h
    simp only [AV.cells] at *
    simp at hk
    have := repC_one hk h (fun id _ => hσ id)
    have e : v.cells = #[v] := by cases v <;> first | rfl | (simp [Value.oneCell'] at this)
    rw [e]
    exact repCs_cons.2 ⟨v, [], rfl, h, repCs_nil.2 rfl⟩
  | agg cs =>
    unfold repA at h
    obtain ⟨vs, rfl, h1⟩ := h
    exact h1
  | tup _ => exact absurd rfl hne
  | ifd _ _ => exact absurd rfl hne

theorem s_box (h : RepM cx σ N m w) (hfr : ∀ id, fr ≤ id → id < fr + 32 → N id) {t : TypeId} {x : Operand} (ho : o.op = .box t x) (hx : repA (rx cx σ N m w) (av x) (ρ x))
    (hp : (opEff T G o [av x] m fr).pre) : Runs P w (Res cx σ N m w fr (opEff T G o [av x] m fr)) ((execOp ρ o).run P w) := by
  simp only [opEff, ho] at hp ⊢
  split at hp
  · rename_i hle
    · rw [if_pos hle]
      have hne : (av x).cells ≠ [] := fun e => by rw [e] at hle; simp at hle; omega
      have hcs := cells_of (x := rx cx σ N m w) h.hone hx hle.2.2 hne
      have hrun : (execOp ρ o).run P w = .ok (.value (.pointer (some ⟨w.heap.size, 0, none⟩))) (w.alloc (.cells (ρ x).cells.toList.toArray t)) := by
        simp [execOp, ho, Instr.box, newVar, newRow]
      refine runs_value hrun (alloc_block (u0 := []) ⟨Keep.refl _ _, fun _ _ => rfl, fun _ h => h⟩ h (hfr fr (by omega) (by omega)) (fun id hid _ => hid) hcs (known_all h.hone _ _ hle.2.2 hcs) rfl)
  · exact hp.elim

/-- A block that is written. -/
theorem RepM.write (h : RepM cx σ N m w) {id : Nat} (hid : ¬ N id) (B : Blk) {b : Nat} (hσ : blkOf (σ id) = some b) (ho : own (m id) = true) {w' : World}
    (hw : ∀ k, k ≠ b → w'.heap[k]? = w.heap[k]?) (hsz : w.heap.size ≤ w'.heap.size ∧ w.drawn ≤ w'.drawn) (hos : w'.os = w.os) (htape : w'.tape = w.tape) (hout : w'.output = w.output)
    (hrep : Rx.Keeps (rx cx σ N m w) (rx cx σ N (upd m id B) w') → repB (rx cx σ N (upd m id B) w') id B) :
    RepM cx σ N (upd m id B) w' ∧ Rx.Keeps (rx cx σ N m w) (rx cx σ N (upd m id B) w') := by
  refine h.step (fun i => i = id) (fun _ k => k) (fun i hi => by rw [upd_ne _ _ (fun e => hid (by rw [← e]; exact hi))]; exact h.fresh i hi) (fun i hi => ⟨upd_ne _ _ hi, rfl⟩) (fun _ _ => rfl)
    (fun k hk hx => hw k (fun e => hx id rfl ho (e ▸ .inl hσ))) hsz hos htape hout (fun i b' hi ho' hb' => ?_) (fun i i' b hi hi' _ _ _ _ => hi.trans hi'.symm) (fun i _ => h.hone i) (fun hk i hi => ?_)
  · subst hi; exact .inr ⟨i, rfl, ho, hb'⟩
  · subst hi; rw [upd_same]; exact hrep hk

theorem run_storeVar_cells {t : TypeId} {i : TypeInfo} (hi : P.info? t = some i) {b off : Nat} {e : TypeId} {cur : Array Value} (hb : w.heap[b]? = some (.cells cur e (0, 0))) {v : Value} (hl : v.cells.size = i.size)
    (h1 : oneAll v.cells.toList) (hfit : off + i.size ≤ cur.size) :
    (storeVar t ⟨b, off, none⟩ v).run P w = .ok () (w.setRow b (cur.toList.take off ++ v.cells.toList ++ cur.toList.drop (off + v.cells.toList.length)).toArray) := by
  have hst := run_storeCells_at P b off e v.cells.toList 0 cur w hb (by simp; omega) h1
  simp only [Nat.add_zero] at hst
  simp [storeVar, run_sizeOf hi, hl, hst]

theorem over_mid {α : Type} (pre c post v : List α) (off : Nat) (h : off + v.length ≤ c.length) :
    (pre ++ (c ++ post)).take (pre.length + off) ++ v ++ (pre ++ (c ++ post)).drop (pre.length + off + v.length) = pre ++ ((c.take off ++ v ++ c.drop (off + v.length)) ++ post) := by
  have e1 : (pre ++ (c ++ post)).take (pre.length + off) = pre ++ c.take off := by
    rw [List.take_append, List.take_of_length_le (by omega), Nat.add_sub_cancel_left, List.take_append_of_le_length (by omega)]
  have e2 : (pre ++ (c ++ post)).drop (pre.length + off + v.length) = c.drop (off + v.length) ++ post := by
    rw [List.drop_append, List.drop_of_length_le (by omega), List.nil_append, show pre.length + off + v.length - pre.length = off + v.length by omega, List.drop_append_of_le_length (by omega)]
  rw [e1, e2]; simp

theorem roAll_set {α : Type} {r : α → List Value → Prop} {xs : List α} {i : Nat} (hi : i < xs.length) {pre c post : List Value} {x : α} (h1 : roAll r (xs.take i) pre) (h2 : r x c) (h3 : roAll r (xs.drop (i + 1)) post) :
    roAll r (xs.set i x) (pre ++ (c ++ post)) := by
  have e : xs.set i x = xs.take i ++ (x :: xs.drop (i + 1)) := by
    rw [List.set_eq_take_append_cons_drop, if_pos hi]
  rw [e]
  exact roAll_append _ _ _ _ h1 ⟨c, post, rfl, h2, h3⟩

theorem store_core (h : RepM cx σ N m w) {t : TypeId} {x y : Operand} (ho : o.op = .store t x y) (ht : TabOK P T) {c : C1} {a : AV} (hx : repC (rx cx σ N m w) c (ρ x)) (hy : repA (rx cx σ N m w) a (ρ y))
    (hp : (storeE m (TI.of T t) a c).pre) : Runs P w (Res cx σ N m w fr (storeE m (TI.of T t) a c)) ((execOp ρ o).run P w) := by
  unfold storeE at hp ⊢
  split at hp
  · rename_i id off
    split at hp
    · rename_i e cs hm
      split at hp
      · rename_i hle
        simp only [hle, and_self, if_true]
        obtain ⟨hpos, hl, hfit, hk⟩ := hle
        have hne : a.cells ≠ [] := fun e => by rw [e] at hl; simp at hl; omega
        have htt := TI.of_ok ht t (TI_ne (by omega))
        obtain ⟨i, hi, hs, _⟩ := htt.info
        unfold repC at hx
        obtain ⟨hn, b, e1, e2⟩ := hx
        simp only [rx] at e1 hn
        have hb := h.blk id
        rw [hm] at hb
        obtain ⟨b', vs, e3, e4, hcs, h1⟩ := hb
        simp only [rx] at e3 e4
        rw [e1] at e3; simp at e3; subst e3
        have hac := cells_of (x := rx cx σ N m w) h.hone hy hk hne
        have hal := repCs_len _ _ hac
        have hvl := repCs_len _ _ hcs
        have h1a := known_all h.hone _ _ hk hac
        have hrun : (execOp ρ o).run P w = .ok .skip (w.setRow b (vs.take off ++ (ρ y).cells.toList ++ vs.drop (off + (ρ y).cells.toList.length)).toArray) := by
          have := run_storeVar_cells (P := P) (w := w) (t := t) hi (off := off) e4 (v := ρ y) (by rw [← Array.length_toList, hal, hl, hs]) h1a (by simp; omega)
          simp [execOp, ho, Instr.storeAt, Instr.sureAddr, e2, this]
        obtain ⟨g1, g2⟩ := h.write hn (.cells e (overC cs off a.cells)) (b := b) (by rw [e1]; rfl) (by rw [hm]; rfl) (w' := w.setRow b (vs.take off ++ (ρ y).cells.toList ++ vs.drop (off + (ρ y).cells.toList.length)).toArray)
          (fun k hk => setRow_other w b k _ hk) ⟨by simp, Nat.le_refl _⟩ rfl rfl rfl (fun hkk => ⟨b, _, e1, setRow_heap w b vs.toArray _ e (0, 0) e4, repCs_keep hkk _ _ (repCs_over hcs hac), fun u hu => by
            simp only [List.mem_append] at hu
            rcases hu with (hu | hu) | hu
            · exact h1 u (List.mem_of_mem_take hu)
            · exact h1a u hu
            · exact h1 u (List.mem_of_mem_drop hu)⟩)
        obtain ⟨g3, g4⟩ := g1.weaken (N' := Nx N fr) (fun _ k => k.1)
        exact runs_skip hrun ⟨σ, g3, ⟨g2.k.trans g4.k (by simp [rx]), fun _ _ => rfl, fun _ k => k.1⟩, by unfold repA repC; trivial, trivial⟩
      · exact hp.elim
    · exact hp.elim
  · rename_i id sz i off
    split at hp
    · rename_i e u xs hm
      split at hp
      · rename_i hle
        obtain ⟨hpos, hl, hfit, rfl, hnc, hka⟩ := hle
        split at hp
        · rename_i y' him
          simp only [hpos, hl, hfit, hnc, hka, and_self, if_true]
          obtain ⟨hi0, hi1⟩ := hp
          have hi : i.toNat < xs.length := by omega
          have htt := TI.of_ok ht t (TI_ne (by omega))
          obtain ⟨ii, hii, hs, _⟩ := htt.info
          -- the rows among what is stored turn into plain data
          obtain ⟨q1, q2⟩ := h.settles (rowsOf a.cells)
          have himp := impl_settle m (rowsOf a.cells) u (overC (expl u (xs.getD i.toNat u.dflt)) off a.cells)
          rw [him] at himp
          have hmem : id ∉ rowsOf a.cells := by simpa using hnc
          have hmid : updM m ((rowsOf a.cells).map (settle m)) id = .row e u xs := by
            rw [updM_settle m (rowsOf a.cells) m id (fun _ _ => .inl rfl), if_neg hmem, hm]
          have hrx : ∀ j ∈ rowsOf (overC (expl u (xs.getD i.toNat u.dflt)) off a.cells), j ∈ rowsOf a.cells := by
            intro j hj
            unfold overC at hj
            rw [rowsOf_append, rowsOf_append, List.mem_append, List.mem_append] at hj
            have hex : ∀ (t : Ty) (y : t.den), rowsOf (expl t y) = [] := by
              intro t
              induction t with
              | pair a b iha ihb => intro y; simp [expl, rowsOf_append, iha, ihb]
              | _ => intro y; rfl
            rcases hj with (hj | hj) | hj
            · have := rowsOf_take_mem hj; rw [hex] at this; cases this
            · exact hj
            · have := rowsOf_drop_mem hj; rw [hex] at this; cases this
          have hno := settled_not_own (m := m) (ids := rowsOf a.cells) him hrx
          unfold repC at hx
          obtain ⟨hn, b, n, cp, e1, e2⟩ := hx
          simp only [rx] at e1 hn
          have hne : a.cells ≠ [] := fun e => by rw [e] at hl; simp at hl; omega
          have hac := cells_of (x := rx cx σ N (updM m ((rowsOf a.cells).map (settle m))) w) q1.hone (repA_keep q2 _ _ hy) hka hne
          have hal := repCs_len _ _ hac
          have h1a := known_all q1.hone _ _ hka hac
          generalize hM : updM m ((rowsOf a.cells).map (settle m)) = M at *
          have hb := q1.blk id
          rw [hmid] at hb
          obtain ⟨n', flat, rfl, k, k1⟩ := hb
          simp only [rx] at k k1
          obtain ⟨pre, vs, post, he, hpl, hr, hpre, hpost⟩ := roAll_at (fun x c => ro_len u x c) k1 hi
          rw [← getD_eq xs i.toNat u.dflt hi] at hr
          have hvl := ro_len u _ vs hr
          have hnew := impl_ro q1 u _ y' (vs.take off ++ (ρ y).cells.toList ++ vs.drop (off + (ρ y).cells.toList.length)) himp (repCs_over (expl_rep (x := rx cx σ N M w) u _ vs hr) hac) hno
          have hlen : (vs.take off ++ (ρ y).cells.toList ++ vs.drop (off + (ρ y).cells.toList.length)).length = vs.length := by
            simp only [List.length_append, List.length_take, List.length_drop]; omega
          rcases k.2 with ⟨e4, _⟩ | ⟨g, cap, cur, hz, e3, hg, hlc, hcm, hcs, htake⟩
          · omega
          · rw [e1] at e3
            obtain ⟨rfl, rfl, rfl⟩ : b = g ∧ n = xs.length ∧ cp = cap := by simpa using e3
            have hcur : cur.toList = pre ++ (vs ++ (post ++ cur.toList.drop (xs.length * u.n))) := by
              conv => lhs; rw [← List.take_append_drop (xs.length * u.n) cur.toList, htake, he]
              simp
            have hcz : cur.size = cur.toList.length := by simp
            have hcl : cur.toList.length = pre.length + (vs.length + (post.length + (cur.toList.drop (xs.length * u.n)).length)) := by
              conv => lhs; rw [hcur]
              simp only [List.length_append]
            have hov := over_mid pre vs (post ++ cur.toList.drop (xs.length * u.n)) (ρ y).cells.toList off (by omega)
            rw [← hcur] at hov
            have hst := run_storeVar_cells (P := P) (w := w) (t := t) hii (off := pre.length + off) hg (v := ρ y) (by rw [← Array.length_toList, hal, hl, hs]) h1a (by omega)
            rw [hov] at hst
            generalize vs.take off ++ (ρ y).cells.toList ++ vs.drop (off + (ρ y).cells.toList.length) = nc at *
            have hrun : (execOp ρ o).run P w = .ok .skip (w.setRow b (pre ++ (nc ++ (post ++ cur.toList.drop (xs.length * u.n)))).toArray) := by
              rw [← hpl] at e2
              simp only [execOp, ho, Instr.storeAt, Instr.sureAddr, e2, Sem.run_bind, Sem.run_pure, Result.andThen_ok, hst]
            obtain ⟨g1, g2⟩ := q1.write hn (.row e u (xs.set i.toNat y')) (b := b) (by rw [e1]; exact blkOf_slice hz) (by rw [hmid]; rfl) (w' := w.setRow b (pre ++ (nc ++ (post ++ cur.toList.drop (xs.length * u.n)))).toArray)
              (fun k hk => setRow_other w b k _ hk) ⟨by simp, Nat.le_refl _⟩ rfl rfl rfl (fun hkk => by
                have hfl0 : flat.length = xs.length * u.n := k.1
                have hfl : (pre ++ (nc ++ post)).length = xs.length * u.n := by
                  rw [he] at hfl0
                  simp only [List.length_append] at hfl0 ⊢
                  omega
                refine ⟨xs.length, pre ++ (nc ++ post), by simp, ⟨hfl, .inr ⟨b, cp, _, hz, e1, setRow_heap w b cur _ e (0, 0) hg, hlc, hcm, ?_, ?_⟩⟩, ?_⟩
                · rw [List.size_toArray, ← hcs, hcz, hcl]
                  simp only [List.length_append]
                  omega
                · generalize cur.toList.drop (xs.length * u.n) = rest
                  rw [← hfl]
                  have : pre ++ (nc ++ (post ++ rest)) = (pre ++ (nc ++ post)) ++ rest := by simp
                  rw [this]
                  exact List.take_left
                · exact roAll_set hi (roAll_mono (ro_keep hkk.k u) _ _ hpre) (ro_keep hkk.k u _ _ hnew) (roAll_mono (ro_keep hkk.k u) _ _ hpost))
            obtain ⟨g3, g4⟩ := g1.weaken (N' := Nx N fr) (fun _ k => k.1)
            have hmm : updM m ((rowsOf a.cells).map (settle m) ++ [(id, Blk.row e u (xs.set i.toNat y'))]) = upd M id (Blk.row e u (xs.set i.toNat y')) := by
              rw [updM_append, hM]; rfl
            refine runs_skip hrun ⟨σ, ?_, ?_, ?_, trivial⟩ <;> simp only [hmm]
            · exact g3
            · exact ⟨(q2.k.trans g2.k (Nat.le_refl _)).trans g4.k (by simp [rx]), fun _ _ => rfl, fun _ k => k.1⟩
            · unfold repA repC; trivial
        · exact hp.elim
      · exact hp.elim
    · exact hp.elim
  · exact hp.elim

/-- Some of a row's cells are written: another row, as long. -/
theorem row_put (h : RepM cx σ N m w) {id : Nat} {e : TypeId} {u : Ty} {xs : List u.den} (hn : ¬ N id) (hm : m id = .row e u xs) {off : Nat} {us : List Value} (h1 : oneAll us) (hpos : 0 < us.length) {xs' : List u.den} (hl : xs'.length = xs.length)
    (hfl : ∀ flat, roAll (ro w (Owned cx σ m) u) xs flat → off + us.length ≤ flat.length ∧ roAll (ro w (Owned cx σ m) u) xs' (flat.take off ++ us ++ flat.drop (off + us.length))) :
    ∃ g cap w', σ id = .slice (some ⟨g, 0, none⟩) xs.length cap ∧ xs.length ≤ cap ∧ (storeCells ⟨g, off, none⟩ us).run P w = .ok () w' ∧ w.heap.size ≤ w'.heap.size ∧
      RepM cx σ N (upd m id (.row e u xs')) w' ∧ Rx.Keeps (rx cx σ N m w) (rx cx σ N (upd m id (.row e u xs')) w') := by
  have hb := h.blk id
  rw [hm] at hb
  obtain ⟨n', flat, rfl, k, k1⟩ := hb
  simp only [rx] at k k1
  obtain ⟨hfit, hnew⟩ := hfl flat k1
  rcases k.2 with ⟨e4, _⟩ | ⟨g, cap, cur, hz, e3, hg, hlc, hcm, hcs, htake⟩
  · have := k.1
    rw [e4, Nat.zero_mul] at this
    omega
  · have hfl0 : flat.length = xs.length * u.n := k.1
    have hcur : cur.toList = flat ++ cur.toList.drop (xs.length * u.n) := by
      conv => lhs; rw [← List.take_append_drop (xs.length * u.n) cur.toList, htake]
    have hcz : cur.size = cur.toList.length := by simp
    have hcl : cur.toList.length = flat.length + (cur.toList.drop (xs.length * u.n)).length := by
      conv => lhs; rw [hcur]
      simp only [List.length_append]
    generalize cur.toList.drop (xs.length * u.n) = rest at *
    have hst := run_storeCells_at P g off e us 0 cur w hg (by omega) h1
    simp only [Nat.add_zero] at hst
    have hnc : cur.toList.take off ++ us ++ cur.toList.drop (off + us.length) = (flat.take off ++ us ++ flat.drop (off + us.length)) ++ rest := by
      rw [hcur, List.take_append_of_le_length (by omega), List.drop_append_of_le_length (by omega)]
      simp
    rw [hnc] at hst
    have hlen : (flat.take off ++ us ++ flat.drop (off + us.length)).length = flat.length := by
      simp only [List.length_append, List.length_take, List.length_drop]; omega
    generalize flat.take off ++ us ++ flat.drop (off + us.length) = nf at *
    obtain ⟨g1, g2⟩ := h.write hn (.row e u xs') (b := g) (by rw [e3]; exact blkOf_slice hz) (by rw [hm]; rfl) (w' := w.setRow g (nf ++ rest).toArray)
      (fun k hk => setRow_other w g k _ hk) ⟨by simp, Nat.le_refl _⟩ rfl rfl rfl (fun hkk => ⟨xs'.length, nf, rfl, ⟨by rw [hl]; omega, .inr ⟨g, cap, _, hz, by rw [hl]; exact e3, setRow_heap w g cur _ e (0, 0) hg, by omega, hcm, by
        rw [List.size_toArray, ← hcs, hcz, hcl, List.length_append]; omega, by
        rw [hl, ← hfl0, ← hlen]; exact List.take_left⟩⟩, roAll_mono (ro_keep hkk.k u) _ _ hnew⟩)
    exact ⟨g, cap, _, e3, hlc, hst, by simp, g1, g2⟩

end
end Go.Ev
