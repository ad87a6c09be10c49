/- The walk, in the form in which it is reckoned: a stack of what is left; each effect is reckoned before it is used. -/
import Derived.Test.YtdmgmdppejopcaaEvCode
set_option linter.unusedSimpArgs false
set_option linter.unusedVariables false
namespace Go.Ev

/-- What a walk is about. -/
structure Wk where
  T : Tab
  G : Env
  ks : Nat
  K : Ex → St → Prop

inductive Itm where
  | seq (c : Code) | blk (id : Nat) | lp (l : LSpec) (x : l.X)

def kont (X : Wk) : List Itm → Ex → St → Prop
  | [], e, st => X.K e st
  | .seq c :: r, .normal, st => ev X.T X.G X.ks c st (kont X r)
  | .seq _ :: r, e, st => kont X r e st
  | .blk id :: r, .exit j, st => if j = id then kont X r .normal st else kont X r (.exit j) st
  | .blk _ :: r, e, st => kont X r e st
  | .lp l x :: _, .normal, st => ∃ y, ent st.s (mem st.m) l.fr (l.s y) (l.m y) ∧ l.mu y < l.mu x
  | .lp _ _ :: r, e, st => kont X r e st

def evk (X : Wk) (c : Code) (s : Slots) (m : Heap) (fr : Nat) (k : List Itm) : Prop := ev X.T X.G X.ks c ⟨s, m, fr⟩ (kont X k)
def fin (X : Wk) (e : Ex) (s : Slots) (m : Heap) (fr : Nat) (k : List Itm) : Prop := kont X k e ⟨s, m, fr⟩
def evO (X : Wk) (all os : List Oper) (s : Slots) (m : Heap) (fr : Nat) (k : List Itm) : Prop :=
  evOps X.T X.G all fr 0 os s m (fun s m => fin X .normal (keepL X.ks s) m (fr + 32 * os.length) k)
def stX (X : Wk) (all os : List Oper) (o : Oper) (s : Slots) (m : Heap) (fr : Nat) (k : List Itm) : Option Chc → Prop
  | some C => C.pre ∧ ∀ a, C.asm a → evO X all os (putS s o.dst (C.r a)) (setMany m (C.u a)) (fr + 32) k
  | none => let E := stepE X.T X.G all o (sget s) (mem m) fr
    E.pre ∧ (E.asm → evO X all os (putS s o.dst E.r) (setMany m E.u) (fr + 32) k)
def stE (X : Wk) (all os : List Oper) (dst : Option Nat) (s : Slots) (m : Heap) (fr : Nat) (k : List Itm) (E : Eff) : Prop :=
  E.pre ∧ (E.asm → evO X all os (putS s dst E.r) (setMany m E.u) (fr + 32) k)
def evR (X : Wk) (all os : List Oper) (s : Slots) (m : Heap) (fr : Nat) (i : Nat) (acc : List (List Nat × List Nat)) (k : List Itm) : Prop :=
  evD X.T X.G all fr 0 os s m acc (fun s m tb => drawOk all tb = true ∧ fin X .normal (keepL X.ks s) m (fr + 32 * os.length) k)
def stR (X : Wk) (all os : List Oper) (dst : Option Nat) (s : Slots) (m : Heap) (fr : Nat) (i : Nat) (acc : List (List Nat × List Nat)) (k : List Itm) (F : List Nat) (E : Eff) : Prop :=
  E.pre ∧ keysOk F fr E.u = true ∧ (E.asm → evR X all os (putS s dst E.r) (setMany m E.u) (fr + 32) (i + 1) (acc ++ [(F, E.u.map (·.1))]) k)
def cnd (X : Wk) (a b : Code) (s : Slots) (m : Heap) (fr : Nat) (k : List Itm) : AV → Prop
  | .one (.bool e) => (e = true → evk X a s m fr k) ∧ (e = false → evk X b s m fr k)
  | _ => False

section
variable {X : Wk} {s : Slots} {m : Heap} {fr : Nat} {k : List Itm}

theorem evk_skip : evk X .skip s m fr k = fin X .normal s m fr k := rfl
theorem evk_ret : evk X .ret s m fr k = fin X .ret s m fr k := rfl
theorem evk_exit {id : Nat} : evk X (.exit id) s m fr k = fin X (.exit id) s m fr k := rfl
theorem evk_seq {a b : Code} : evk X (.seq a b) s m fr k = evk X a s m fr (.seq b :: k) := by
  unfold evk
  show ev _ _ _ a _ _ = ev _ _ _ a _ _
  congr 1
  funext e st
  cases e <;> rfl
theorem evk_block {id : Nat} {b : Code} : evk X (.block id b) s m fr k = evk X b s m fr (.blk id :: k) := by
  unfold evk
  show ev _ _ _ b _ _ = ev _ _ _ b _ _
  congr 1
  funext e st
  cases e <;> rfl
theorem evk_cond {c : Operand} {a b : Code} : evk X (.cond c a b) s m fr k = cnd X a b s m fr k (opd (sget s) c) := by
  unfold evk
  simp only [ev]
  generalize opd (sget s) c = v
  cases v with
  | one c => cases c <;> rfl
  | _ => rfl
theorem evk_region {id : Nat} {ops : Array Oper} : evk X (.region id ops false) s m fr k = evO X ops.toList ops.toList s m fr k := by
  unfold evk evO fin; simp only [ev, Array.length_toList]
theorem evk_draw {id : Nat} {ops : Array Oper} : evk X (.region id ops true) s m fr k = evR X ops.toList ops.toList s m fr 0 [] k := by
  unfold evk evR fin; simp only [ev, Array.length_toList]

theorem evOps_shift {T : Tab} {G : Env} {all : List Oper} {K : Slots → Heap → Prop} : ∀ (os : List Oper) (base i : Nat) (s : Slots) (m : Heap), evOps T G all base (i + 1) os s m K = evOps T G all (base + 32) i os s m K
  | [], _, _, _, _ => rfl
  | o :: os, base, i, s, m => by
    have e : base + 32 * (i + 1) = base + 32 + 32 * i := by omega
    simp only [evOps, e, evOps_shift os]
theorem evD_shift {T : Tab} {G : Env} {all : List Oper} {K : Slots → Heap → List (List Nat × List Nat) → Prop} : ∀ (os : List Oper) (base i : Nat) (s : Slots) (m : Heap) (acc : List (List Nat × List Nat)), evD T G all base (i + 1) os s m acc K = evD T G all (base + 32) i os s m acc K
  | [], _, _, _, _, _ => rfl
  | o :: os, base, i, s, m, acc => by
    have e : base + 32 * (i + 1) = base + 32 + 32 * i := by omega
    simp only [evD, e, evD_shift os]

theorem evO_nil {all : List Oper} : evO X all [] s m fr k = fin X .normal (keepL X.ks s) m fr k := rfl
theorem evO_cons {all os : List Oper} {o : Oper} : evO X all (o :: os) s m fr k = stX X all os o s m fr k (altO X.T X.G all o (sget s) (mem m) fr) := by
  unfold evO stX evO
  simp only [evOps, evOps_shift, List.length_cons, Nat.mul_zero, Nat.add_zero]
  rw [show fr + 32 * (os.length + 1) = fr + 32 + 32 * os.length by omega]
  cases altO X.T X.G all o (sget s) (mem m) fr <;> rfl
theorem stX_none {all os : List Oper} {o : Oper} : stX X all os o s m fr k none = stE X all os o.dst s m fr k (stepE X.T X.G all o (sget s) (mem m) fr) := rfl
theorem stX_some {all os : List Oper} {o : Oper} {C : Chc} : stX X all os o s m fr k (some C) = (C.pre ∧ ∀ a, C.asm a → evO X all os (putS s o.dst (C.r a)) (setMany m (C.u a)) (fr + 32) k) := rfl
theorem stE_mk {all os : List Oper} {dst : Option Nat} {p q : Prop} {r : AV} {u : Heap} : stE X all os dst s m fr k ⟨p, r, u, q⟩ = (p ∧ (q → evO X all os (putS s dst r) (setMany m u) (fr + 32) k)) := rfl
theorem evR_nil {all : List Oper} {i : Nat} {acc : List (List Nat × List Nat)} : evR X all [] s m fr i acc k = (drawOk all acc = true ∧ fin X .normal (keepL X.ks s) m fr k) := rfl
theorem evR_end {all : List Oper} {i : Nat} {acc : List (List Nat × List Nat)} (h : drawOk all acc = true) : evR X all [] s m fr i acc k = fin X .normal (keepL X.ks s) m fr k := by rw [evR_nil, h]; simp
theorem evR_cons {all os : List Oper} {o : Oper} {i : Nat} {acc : List (List Nat × List Nat)} : evR X all (o :: os) s m fr i acc k =
    stR X all os o.dst s m fr i acc k (touch o.op ((opsOf o.op).map (opd (sget s))) (mem m)) (stepE X.T X.G all o (sget s) (restr (touch o.op ((opsOf o.op).map (opd (sget s))) (mem m)) (mem m)) fr) := by
  unfold evR stR evR
  simp only [evD, evD_shift, List.length_cons, Nat.mul_zero, Nat.add_zero]
  rw [show fr + 32 * (os.length + 1) = fr + 32 + 32 * os.length by omega]
theorem stR_mk {all os : List Oper} {dst : Option Nat} {p q : Prop} {r : AV} {u : Heap} {i : Nat} {acc : List (List Nat × List Nat)} {F : List Nat} : stR X all os dst s m fr i acc k F ⟨p, r, u, q⟩ = (p ∧ keysOk F fr u = true ∧ (q → evR X all os (putS s dst r) (setMany m u) (fr + 32) (i + 1) (acc ++ [(F, u.map (·.1))]) k)) := rfl

theorem cnd_bool {a b : Code} {e : Bool} : cnd X a b s m fr k (.one (.bool e)) = ((e = true → evk X a s m fr k) ∧ (e = false → evk X b s m fr k)) := rfl
theorem fin_seq {c : Code} : fin X .normal s m fr (.seq c :: k) = evk X c s m fr k := rfl
theorem fin_seq_ret {c : Code} : fin X .ret s m fr (.seq c :: k) = fin X .ret s m fr k := rfl
theorem fin_seq_exit {c : Code} {id : Nat} : fin X (.exit id) s m fr (.seq c :: k) = fin X (.exit id) s m fr k := rfl
theorem fin_blk {id : Nat} : fin X .normal s m fr (.blk id :: k) = fin X .normal s m fr k := rfl
theorem fin_blk_ret {id : Nat} : fin X .ret s m fr (.blk id :: k) = fin X .ret s m fr k := rfl
theorem fin_blk_exit {id j : Nat} : fin X (.exit j) s m fr (.blk id :: k) = if j = id then fin X .normal s m fr k else fin X (.exit j) s m fr k := rfl
theorem fin_lp_ret {l : LSpec} {x : l.X} : fin X .ret s m fr (.lp l x :: k) = fin X .ret s m fr k := rfl
theorem fin_lp_exit {l : LSpec} {x : l.X} {id : Nat} : fin X (.exit id) s m fr (.lp l x :: k) = fin X (.exit id) s m fr k := rfl
theorem fin_nil {e : Ex} : fin X e s m fr [] = X.K e ⟨s, m, fr⟩ := rfl

/-- A loop: its states, a measure; what a round does. -/
theorem evk_loop {b : Code} (l : LSpec) (x : l.X) (h0 : ent s (mem m) l.fr (l.s x) (l.m x)) (h : ∀ x, evk X b (l.s x) (l.m x) l.fr (.lp l x :: k)) : evk X (.loop b) s m fr k := by
  refine ⟨l, ⟨x, h0⟩, fun x => ?_⟩
  have := h x
  unfold evk at this
  have e : (fun (e : Ex) (st' : St) => match e with
      | .normal => ∃ y, ent st'.s (mem st'.m) l.fr (l.s y) (l.m y) ∧ l.mu y < l.mu x
      | .ret => kont X k .ret st'
      | .exit j => kont X k (.exit j) st') = kont X (.lp l x :: k) := by
    funext e st
    cases e <;> rfl
  rw [← e] at this
  exact this
theorem fin_lp {l : LSpec} {x : l.X} (y : l.X) (h : ent s (mem m) l.fr (l.s y) (l.m y)) (hm : l.mu y < l.mu x) : fin X .normal s m fr (.lp l x :: k) := ⟨y, h, hm⟩

end
end Go.Ev
