/- Soundness of the operations: assignments, function values, calls; all operations together. -/
import Derived.Test.YthiddcobegnokaaEvOps13ToOps14
set_option linter.unusedSimpArgs false
set_option linter.unusedVariables false
namespace Go.Ev

/-- A contract that holds. -/
def CtrOk (P : Program) (f : FuncId) (C : Ctr) : Prop :=
  ∀ (cx : Cx) (σ : Nat → Value) (N : Nat → Prop) (m : Mem) (w : World) (fr : Nat) (avs : List AV) (vs : List Value), RepM cx σ N m w → (∀ id, fr ≤ id → id < fr + 32 → N id) →
    repAs (rx cx σ N m w) avs vs → (C avs m fr).pre → Calls P f vs.toArray w fun e w' => ∃ v, e = .returned v ∧ Res cx σ N m w fr (C avs m fr) v w'

structure FnHas (P : Program) (f : FuncId) : Prop where
  ex : ∃ fn, P.funcs[f]? = some fn ∧ (fn.name == "runtime.NumGoroutine") = false ∧ fn.body.isNone = false

/-- A contract of several effects that holds. -/
def RCtrOk (P : Program) (f : FuncId) (C : RCtr) : Prop :=
  ∀ (cx : Cx) (σ : Nat → Value) (N : Nat → Prop) (m : Mem) (w : World) (fr : Nat) (avs : List AV) (vs : List Value), RepM cx σ N m w → (∀ id, fr ≤ id → id < fr + 32 → N id) →
    repAs (rx cx σ N m w) avs vs → (C avs m fr).pre → Calls P f vs.toArray w fun e w' => ∃ v, e = .returned v ∧ ∃ a, Res cx σ N m w fr ⟨(C avs m fr).pre, (C avs m fr).r a, (C avs m fr).u a, (C avs m fr).asm a⟩ v w'

/-- New blocks; one block from B on that is nobody's data may turn. -/
def GrowN (B : Nat) (A C : World) : Prop := ∃ row, A.grownBy C row ∧ A.drawn ≤ C.drawn ∧ ∀ r, row = some r → B ≤ r ∧ ∃ o : Obj, A.heap[r]? = some o ∧ datB o = false
/-- Whatever is nobody's data lies as it lay. -/
structure KeepN (W W' : World) : Prop where
  size : W.heap.size ≤ W'.heap.size
  same : ∀ (k : Nat) (o : Obj), W.heap[k]? = some o → datB o = false → W'.heap[k]? = some o
/-- These blocks lie as they lay. -/
def KpB (bs : List Nat) (A B : World) : Prop := ∀ b ∈ bs, B.heap[b]? = A.heap[b]?

/-- An iterator's contract: it hands out the values in one of the orders, until a round says that it is enough. -/
def SeqEv (P : Program) (g : Nat) (lb : Array Value) (encs : Nat → Array Value) (bs : List Nat) (ord : List Nat → Prop) (w : World) : Prop :=
  ∀ (l : Nat) (J Jx : List Nat → World → Prop) (W : World), RowKit.Below w.heap.size w W → (∀ s A B, J s A → GrowN W.heap.size A B → J s B) → (∀ s A B, Jx s A → GrowN W.heap.size A B → Jx s B) →
    (∀ pre j W1, Pfx ord (pre ++ [j]) → J pre W1 → YieldAt Fence.wide 1 P l (encs j) W1 fun e W' =>
      (e = .returned (.bool true) ∧ J (pre ++ [j]) W' ∧ KpB bs W1 W' ∧ KeepN W1 W') ∨ (e = .returned (.bool false) ∧ Jx (pre ++ [j]) W')) →
    J [] W →
    CallsIn Fence.wide 2 P g (#[.func (.yield l) #[] #[]] ++ lb) W fun e W' => (∃ v, e = .returned v) ∧ ((∃ xs, ord xs ∧ J xs W') ∨ (∃ pre, Pfx ord pre ∧ Jx pre W'))

/-- What a closure is gone over as. -/
def ItOk (P : Program) (f : FuncId) (I : ItC) : Prop :=
  ∀ (cx : Cx) (σ : Nat → Value) (N : Nat → Prop) (m : Mem) (w : World) (caps : List C1) (lb : List Value), RepM cx σ N m w → repCs (rx cx σ N m w) caps lb → (I caps m).pre →
    ∃ (vals : Nat → Array Value) (bs : List Nat), RepM cx σ N (updM m (I caps m).u) w ∧ Rx.Keeps (rx cx σ N m w) (rx cx σ N (updM m (I caps m).u) w) ∧
      (∀ p j, Pfx (I caps m).ord (p ++ [j]) → (I caps m).asm j ∧ (vals j).size = (I caps m).ar ∧ ∀ y : Rx, Keep w y.w (Owned cx σ (updM m (I caps m).u)) y.O → repAs y ((I caps m).y j) (vals j).toList) ∧
      (∀ b ∈ bs, b < w.heap.size ∧ ¬ Owned cx σ (updM m (I caps m).u) b) ∧ SeqEv P f lb.toArray vals bs (I caps m).ord w

structure EnvOk (P : Program) (G : Env) : Prop where
  d : ∀ f C, findL G.d f = some C → CtrOk P f C ∧ FnHas P f
  r : ∀ f C, findL G.r f = some C → RCtrOk P f C ∧ FnHas P f
  it : ∀ f I, findL G.it f = some I → ItOk P f I ∧ FnHas P f

section
variable {cx : Cx} {σ : Nat → Value} {N : Nat → Prop} {m : Mem} {w : World} {P : Program} {T : Tab} {G : Env} {o : Oper} {fr : Nat} {ρ : Operand → Value} {av : Operand → AV}

theorem s_assign (h : RepM cx σ N m w) (hfr : ∀ id, fr ≤ id → id < fr + 32 → N id) {x : Operand} (ho : o.op = .assign x) (ht : TabOK P T) (hx : repA (rx cx σ N m w) (av x) (ρ x)) (hc : ∀ v, x = .const v → ρ x = v)
    (hp : (opEff T G o [av x] m fr).pre) : Runs P w (Res cx σ N m w fr (opEff T G o [av x] m fr)) ((execOp ρ o).run P w) := by
  have hrun : (execOp ρ o).run P w = .ok (.value (ρ x)) w := by simp [execOp, ho]
  have k0 : Rx.Keeps (rx cx σ N m w) (rx cx σ N m w) := ⟨Keep.refl _ _, fun _ _ => rfl, fun _ h => h⟩
  simp only [opEff, ho] at hp ⊢
  split at hp
  · rename_i hnil
    rw [if_pos hnil]
    split at hp
    · rename_i e hd
      split at hp
      · rename_i t hty
        have e1 : ρ x = .slice none 0 0 := by
          unfold nilC at hnil
          split at hnil
          · exact hc _ rfl
          · cases hnil
        rw [e1] at hrun
        have := nil_row (e := e) (t := t) (p := True) (q := True) (u0 := []) (a0 := none) k0 h (hfr fr (by omega) (by omega)) (fun id hid _ => hid) trivial rfl
        exact runs_value hrun this
      · exact hp.elim
    · exact hp.elim
  · rename_i hnil
    rw [if_neg hnil]
    exact runs_value hrun (okr_res h hx)

theorem onesOf_rep {x : Rx} : ∀ (avs : List AV) (vs : List Value) (cs : List C1), onesOf avs = some cs → repAs x avs vs → repCs x cs vs
  | [], vs, cs, h, hr => by
    simp [onesOf] at h; subst h
    unfold repAs at hr
    rw [hr]; exact repCs_nil.2 rfl
  | .one c :: r, vs, cs, h, hr => by
    simp only [onesOf] at h
    split at h
    · rename_i cs' hcs
      simp at h; subst h
      unfold repAs at hr
      obtain ⟨v, r', rfl, h1, h2⟩ := hr
      unfold repA at h1
      exact repCs_cons.2 ⟨v, r', rfl, h1, onesOf_rep r r' cs' hcs h2⟩
    · cases h
  | .agg _ :: r, vs, cs, h, hr => by simp [onesOf] at h
  | .tup _ :: r, vs, cs, h, hr => by simp [onesOf] at h
  | .ifd _ _ :: r, vs, cs, h, hr => by simp [onesOf] at h

theorem s_makeFunc (h : RepM cx σ N m w) {fn : Fn} {first captured : Array Operand} (ho : o.op = .makeFunc fn first captured) (hx : ∀ x ∈ opsOf o.op, repA (rx cx σ N m w) (av x) (ρ x))
    (hp : (opEff T G o ((opsOf o.op).map av) m fr).pre) : Runs P w (Res cx σ N m w fr (opEff T G o ((opsOf o.op).map av) m fr)) ((execOp ρ o).run P w) := by
  have hreps := repAs_map (x := rx cx σ N m w) _ hx
  rw [ho] at hp hreps ⊢
  cases fn <;> simp only [opEff, ho] at hp ⊢ <;> try exact hp.elim
  rename_i f
  split at hp
  · rename_i cs hfi hcs
    have hf0 : first = #[] := by rw [← Array.toArray_toList (xs := first), hfi]
    subst hf0
    simp only [opsOf, List.nil_append] at hcs hreps ⊢
    refine runs_value (v := .func (.func f) #[] (captured.map ρ)) (w' := w) ?_ (okr_res h ?_)
    · simp [execOp, ho, Instr.makeFunc]
    · unfold repA repC
      refine ⟨captured.toList.map ρ, ?_, onesOf_rep _ _ _ hcs hreps⟩
      rw [← Array.toList_map, Array.toArray_toList]
  · exact hp.elim

theorem repAs_append {x : Rx} : ∀ (as bs : List AV) (vs us : List Value), repAs x as vs → repAs x bs us → repAs x (as ++ bs) (vs ++ us)
  | [], bs, vs, us, h, k => by unfold repAs at h; rw [h]; exact k
  | a :: as, bs, vs, us, h, k => by
    unfold repAs at h
    obtain ⟨v, r, rfl, h1, h2⟩ := h
    rw [List.cons_append, List.cons_append]
    unfold repAs
    exact ⟨v, r ++ us, rfl, h1, repAs_append as bs r us h2 k⟩

theorem repAs_ones {x : Rx} : ∀ (cs : List C1) (vs : List Value), repCs x cs vs → repAs x (cs.map .one) vs
  | [], vs, h => by rw [repCs_nil.1 h]; unfold repAs; rfl
  | c :: cs, vs, h => by
    obtain ⟨v, r, rfl, h1, h2⟩ := repCs_cons.1 h
    simp only [List.map_cons]
    unfold repAs
    exact ⟨v, r, rfl, by unfold repA; exact h1, repAs_ones cs r h2⟩

theorem s_callV (h : RepM cx σ N m w) (hfr : ∀ id, fr ≤ id → id < fr + 32 → N id) {f : Operand} {args : Array Operand} {ts : Array TypeId} (ho : o.op = .call { callee := .value f, args := args, argTypes := ts }) (hG : EnvOk P G)
    (hx : ∀ x ∈ opsOf o.op, repA (rx cx σ N m w) (av x) (ρ x)) (hp : (opEff T G o ((opsOf o.op).map av) m fr).pre) : Runs P w (Res cx σ N m w fr (opEff T G o ((opsOf o.op).map av) m fr)) ((execOp ρ o).run P w) := by
  have hreps := repAs_map (x := rx cx σ N m w) _ hx
  rw [ho] at hp hreps ⊢
  simp only [opEff, ho, opsOf, callOps] at hp hreps ⊢
  simp only [List.cons_append, List.nil_append, List.map_cons] at hp hreps ⊢
  unfold repAs at hreps
  obtain ⟨v, r, e, h1, h2⟩ := hreps
  simp only [List.cons.injEq] at e
  obtain ⟨e1, e2⟩ := e
  split at hp <;> rename_i heq
  · rename_i g caps as
    simp only [List.cons.injEq] at heq
    rw [heq.1] at h1
    unfold repA repC at h1
    obtain ⟨vs, e3, h3⟩ := h1
    rw [getL_findL] at hp ⊢
    cases hf : findL G.d g with
    | none => rw [hf] at hp; exact hp.elim
    | some C =>
      rw [hf] at hp
      simp only [Option.getD_some] at hp ⊢
      obtain ⟨hc, ⟨fn, hfn, hname, hbody⟩⟩ := hG.d g C hf
      have hargs := repAs_append (as := as) (bs := caps.map .one) _ _ (heq.2 ▸ h2) (repAs_ones _ _ h3)
      have hcall := hc cx σ N m w fr (as ++ caps.map .one) (r ++ vs) h hfr hargs hp
      have hrun : (execOp ρ o).run P w = .ok (.enter g (r ++ vs).toArray) w := by
        rw [← e1] at e3
        have er : args.map ρ = r.toArray := by rw [← e2, ← Array.toList_map, Array.toArray_toList]
        have hname' : fn.name ≠ "runtime.NumGoroutine" := by simpa using hname
        have hbody' : fn.body ≠ none := by intro hh; rw [hh] at hbody; cases hbody
        simp [execOp, ho, resolve, e3, Deferred.ofValue, er, invoke, callFunc, hfn, hname', hbody']
      rw [hrun]
      exact ⟨rfl, hcall⟩
  · exact hp.elim

theorem s_builtin (h : RepM cx σ N m w) (hfr : ∀ id, fr ≤ id → id < fr + 32 → N id) {b : Builtin} {args : Array Operand} {ts : Array TypeId} (ho : o.op = .call { callee := .builtin b, args := args, argTypes := ts }) (ht : TabOK P T)
    (hx : ∀ x ∈ opsOf o.op, repA (rx cx σ N m w) (av x) (ρ x)) (hp : (opEff T G o ((opsOf o.op).map av) m fr).pre) : Runs P w (Res cx σ N m w fr (opEff T G o ((opsOf o.op).map av) m fr)) ((execOp ρ o).run P w) := by
  rw [ho] at hx hp ⊢
  simp only [opEff, ho, opsOf, callOps, List.nil_append] at hx hp ⊢
  have e : args = args.toList.toArray := by simp
  cases b <;> try exact hp.elim
  case len =>
    generalize hl : args.toList = l at *
    match l, hp with
    | [x], hp => exact s_len h (by rw [ho, e]) ht (hx x (by simp)) hp
    | [], hp => exact hp.elim
    | _ :: _ :: _, hp => simp [builtinE] at hp; exact hp.elim
  case min =>
    generalize hl : args.toList = l at *
    match l, hp with
    | [x, y], hp => exact s_minmax h (.inl rfl) (by rw [ho, e]) (hx x (by simp)) (hx y (by simp)) hp
    | [], hp => exact hp.elim
    | [_], hp => simp [builtinE] at hp; exact hp.elim
    | _ :: _ :: _ :: _, hp => simp [builtinE] at hp; exact hp.elim
  case max =>
    generalize hl : args.toList = l at *
    match l, hp with
    | [x, y], hp => exact s_minmax h (.inr rfl) (by rw [ho, e]) (hx x (by simp)) (hx y (by simp)) hp
    | [], hp => exact hp.elim
    | [_], hp => simp [builtinE] at hp; exact hp.elim
    | _ :: _ :: _ :: _, hp => simp [builtinE] at hp; exact hp.elim
  case copy =>
    generalize hl : args.toList = l at *
    match l, hp with
    | [x, y], hp => exact s_copy h (by rw [ho, e]) ht (hx x (by simp)) (hx y (by simp)) hp
    | [], hp => exact hp.elim
    | [_], hp => simp [builtinE] at hp; exact hp.elim
    | _ :: _ :: _ :: _, hp => simp [builtinE] at hp; exact hp.elim
  case clear =>
    generalize hl : args.toList = l at *
    match l, hp with
    | [x], hp => exact s_clear h (by rw [ho, e]) ht (hx x (by simp)) hp
    | [], hp => exact hp.elim
    | _ :: _ :: _, hp => simp [builtinE] at hp; exact hp.elim
  case append =>
    generalize hl : args.toList = l at *
    match l, hp with
    | [x, y], hp =>
      have hx' := hx x (by simp)
      have hy' := hx y (by simp)
      simp only [List.map_cons, List.map_nil, builtinE] at hp ⊢
      split at hp <;> rename_i heq
      · rename_i c d
        simp at heq
        rw [heq.1] at hx'
        rw [heq.2] at hy'
        unfold repA at hx' hy'
        split at hp
        · rename_i hts
          rw [if_pos hts]
          obtain ⟨r, w', hr, hres⟩ := append_core (ty := o.type) h hfr ht hx' hy' hp
          refine runs_value (v := r) (w' := w') ?_ hres
          rw [call_builtin ho, e]
          rw [hts]
          simp only [builtin, List.map_toArray, List.map_cons, List.map_nil, Sem.run_bind]
          simp only [Array.getD_eq_getD_getElem?] at hr ⊢
          simp at hr ⊢
          rw [hr]
          rfl
        · exact hp.elim
      · exact hp.elim
    | [], hp => exact hp.elim
    | [_], hp => simp [builtinE] at hp; exact hp.elim
    | _ :: _ :: _ :: _, hp => simp [builtinE] at hp; exact hp.elim

theorem intOf_some {a : AV} {n : Int} (h : intOf? a = some n) : a = .one (.int .i64 n) := by
  unfold intOf? at h
  split at h
  · simp at h; subst h; rfl
  · cases h

theorem s_sliceR (h : RepM cx σ N m w) (hfr0 : N fr) {t : TypeId} {x : Operand} {lo hi mx : Option Operand} (ho : o.op = .slice t x lo hi mx) (ht : TabOK P T)
    (hx : ∀ y ∈ opsOf (.slice t x lo hi mx), repA (rx cx σ N m w) (av y) (ρ y)) (hp : (opEff T G o ((opsOf (.slice t x lo hi mx)).map av) m fr).pre) :
    ∃ r, (execOp ρ o).run P w = .ok (.value r) w ∧ Res cx σ N m w fr (opEff T G o ((opsOf (.slice t x lo hi mx)).map av) m fr) r w := by
  simp only [opEff, ho, opsOf] at hx hp ⊢
  simp only [List.cons_append, List.nil_append, List.map_cons] at hp ⊢
  have hx0 := hx x (by simp)
  split at hp <;> rename_i heq
  · rename_i e c rest hd
    simp only [List.cons.injEq] at heq
    obtain ⟨h1, h2⟩ := heq
    rw [h1] at hx0
    unfold repA at hx0
    split at hp
    · rename_i u hty
      cases hwf : wfOf G o.dst with
      | succ kk =>
       simp only [hwf] at hp ⊢
       have key : ∀ (l q : Option Int), lo.map ρ = l.map (.int .i64) → hi.map ρ = q.map (.int .i64) → mx = none → (winE m u fr c l q (kk + 1)).pre →
          ∃ r, (execOp ρ o).run P w = .ok (.value r) w ∧ Res cx σ N m w fr (winE m u fr c l q (kk + 1)) r w := by
        intro l q e1 e2 e3 hpre
        obtain ⟨r, hr, hres⟩ := s_winE h hfr0 hx0 ht hd hty e1 e2 hpre
        subst e3
        exact ⟨r, by simp only [execOp, ho, Option.map_none, Sem.run_bind, hr, Result.andThen_ok, Sem.run_pure], hres⟩
       have iv : ∀ (y : Operand) (n : Int), repA (rx cx σ N m w) (av y) (ρ y) → intOf? (av y) = some n → ρ y = .int .i64 n := by
        intro y n hr hi
        rw [intOf_some hi] at hr
        exact (of_int hr).1
       subst h2
       cases lo with
       | none =>
        cases hi with
        | none =>
          cases mx with
          | none => exact key none none rfl rfl rfl hp
          | some z => exact hp.elim
        | some q =>
          have hq := hx q (by simp)
          cases mx with
          | none =>
            simp only [Option.toList_none, Option.toList_some, List.map_cons, List.map_nil, List.nil_append, List.append_nil] at hp ⊢
            cases hb : intOf? (av q) with
            | none => rw [hb] at hp; exact hp.elim
            | some n => rw [hb] at hp; exact key none (some n) rfl (by rw [Option.map_some, iv q n hq hb]; rfl) rfl hp
          | some z => exact hp.elim
       | some l =>
        have hl := hx l (by simp)
        cases hi with
        | none =>
          cases mx with
          | none =>
            simp only [Option.toList_none, Option.toList_some, List.map_cons, List.map_nil, List.nil_append, List.append_nil] at hp ⊢
            cases hb : intOf? (av l) with
            | none => rw [hb] at hp; exact hp.elim
            | some n => rw [hb] at hp; exact key (some n) none (by rw [Option.map_some, iv l n hl hb]; rfl) rfl rfl hp
          | some z => exact hp.elim
        | some q =>
          have hq := hx q (by simp)
          cases mx with
          | none =>
            simp only [Option.toList_none, Option.toList_some, List.map_cons, List.map_nil, List.nil_append, List.append_nil, List.cons_append, List.map_append] at hp ⊢
            cases hb : intOf? (av l) with
            | none => rw [hb] at hp; exact hp.elim
            | some n =>
              rw [hb] at hp
              cases hb2 : intOf? (av q) with
              | none => rw [hb2] at hp; exact hp.elim
              | some k => rw [hb2] at hp; exact key (some n) (some k) (by rw [Option.map_some, iv l n hl hb]; rfl) (by rw [Option.map_some, iv q k hq hb2]; rfl) rfl hp
          | some z => exact hp.elim
      | zero =>
      simp only [hwf] at hp ⊢
      have key : ∀ (l q z : Option Int), (z.isSome = true → q.isSome = true) → lo.map ρ = l.map (.int .i64) → hi.map ρ = q.map (.int .i64) → mx.map ρ = z.map (.int .i64) → (sliceE m u c l q z).pre →
          ∃ r, (execOp ρ o).run P w = .ok (.value r) w ∧ Res cx σ N m w fr (sliceE m u c l q z) r w := by
        intro l q z hz e1 e2 e3 hpre
        obtain ⟨r, hr, hres⟩ := s_sliceE h hx0 ht hd hty e1 e2 e3 hz hpre
        exact ⟨r, by simp only [execOp, ho, Sem.run_bind, hr, Result.andThen_ok, Sem.run_pure], hres⟩
      have iv : ∀ (y : Operand) (n : Int), repA (rx cx σ N m w) (av y) (ρ y) → intOf? (av y) = some n → ρ y = .int .i64 n := by
        intro y n hr hi
        rw [intOf_some hi] at hr
        exact (of_int hr).1
      subst h2
      cases lo with
      | none =>
        cases hi with
        | none =>
          cases mx with
          | none => exact key none none none (by simp) rfl rfl rfl hp
          | some z => exact hp.elim
        | some q =>
          have hq := hx q (by simp)
          cases mx with
          | none =>
            simp only [Option.toList_none, Option.toList_some, List.map_cons, List.map_nil, List.nil_append, List.append_nil] at hp ⊢
            cases hb : intOf? (av q) with
            | none => rw [hb] at hp; exact hp.elim
            | some n => rw [hb] at hp; exact key none (some n) none (by simp) rfl (by rw [Option.map_some, iv q n hq hb]; rfl) rfl hp
          | some z =>
            have hz := hx z (by simp)
            simp only [Option.toList_none, Option.toList_some, List.map_cons, List.map_nil, List.nil_append, List.append_nil, List.cons_append, List.map_append] at hp ⊢
            cases hb : intOf? (av q) with
            | none => rw [hb] at hp; exact hp.elim
            | some n =>
              rw [hb] at hp
              cases hb2 : intOf? (av z) with
              | none => rw [hb2] at hp; exact hp.elim
              | some k => rw [hb2] at hp; exact key none (some n) (some k) (by simp) rfl (by rw [Option.map_some, iv q n hq hb]; rfl) (by rw [Option.map_some, iv z k hz hb2]; rfl) hp
      | some l =>
        have hl := hx l (by simp)
        cases hi with
        | none =>
          cases mx with
          | none =>
            simp only [Option.toList_none, Option.toList_some, List.map_cons, List.map_nil, List.nil_append, List.append_nil] at hp ⊢
            cases hb : intOf? (av l) with
            | none => rw [hb] at hp; exact hp.elim
            | some n => rw [hb] at hp; exact key (some n) none none (by simp) (by rw [Option.map_some, iv l n hl hb]; rfl) rfl rfl hp
          | some z => exact hp.elim
        | some q =>
          have hq := hx q (by simp)
          cases mx with
          | none =>
            simp only [Option.toList_none, Option.toList_some, List.map_cons, List.map_nil, List.nil_append, List.append_nil, List.cons_append, List.map_append] at hp ⊢
            cases hb : intOf? (av l) with
            | none => rw [hb] at hp; exact hp.elim
            | some n =>
              rw [hb] at hp
              cases hb2 : intOf? (av q) with
              | none => rw [hb2] at hp; exact hp.elim
              | some k => rw [hb2] at hp; exact key (some n) (some k) none (by simp) (by rw [Option.map_some, iv l n hl hb]; rfl) (by rw [Option.map_some, iv q k hq hb2]; rfl) rfl hp
          | some z =>
            have hz := hx z (by simp)
            simp only [Option.toList_none, Option.toList_some, List.map_cons, List.map_nil, List.nil_append, List.append_nil, List.cons_append, List.map_append] at hp ⊢
            cases hb : intOf? (av l) with
            | none => rw [hb] at hp; exact hp.elim
            | some n =>
              rw [hb] at hp
              cases hb2 : intOf? (av q) with
              | none => rw [hb2] at hp; exact hp.elim
              | some k =>
                rw [hb2] at hp
                cases hb3 : intOf? (av z) with
                | none => rw [hb3] at hp; exact hp.elim
                | some j => rw [hb3] at hp; exact key (some n) (some k) (some j) (by simp) (by rw [Option.map_some, iv l n hl hb]; rfl) (by rw [Option.map_some, iv q k hq hb2]; rfl) (by rw [Option.map_some, iv z j hz hb3]; rfl) hp
    · exact hp.elim
  · exact hp.elim

/-- ALL THE OPERATIONS. -/
theorem s_slice (h : RepM cx σ N m w) (hfr0 : N fr) {t : TypeId} {x : Operand} {lo hi mx : Option Operand} (ho : o.op = .slice t x lo hi mx) (ht : TabOK P T)
    (hx : ∀ y ∈ opsOf (.slice t x lo hi mx), repA (rx cx σ N m w) (av y) (ρ y)) (hp : (opEff T G o ((opsOf (.slice t x lo hi mx)).map av) m fr).pre) :
    Runs P w (Res cx σ N m w fr (opEff T G o ((opsOf (.slice t x lo hi mx)).map av) m fr)) ((execOp ρ o).run P w) := by
  obtain ⟨r, hr, hres⟩ := s_sliceR h hfr0 ho ht hx hp
  exact runs_value hr hres
theorem s_index (h : RepM cx σ N m w) {t : TypeId} {x y : Operand} (ho : o.op = .index t x y) (ht : TabOK P T) (hx : repA (rx cx σ N m w) (av x) (ρ x)) (hy : repA (rx cx σ N m w) (av y) (ρ y))
    (hp : (opEff T G o [av x, av y] m fr).pre) : Runs P w (Res cx σ N m w fr (opEff T G o [av x, av y] m fr)) ((execOp ρ o).run P w) := by
  simp only [opEff, ho] at hp ⊢
  split at hp <;> rename_i heq
  · rename_i q k i hd
    simp at heq
    rw [heq.1] at hx
    rw [heq.2] at hy
    have hu := (TI.of_ok ht t (fun e => by rw [e] at hd; cases hd)).str hd
    obtain ⟨ey, _⟩ := of_int hy
    have ex : ρ x = .string q := by unfold repA repC at hx; exact hx.1
    have hi : i.toNat < q.size := by have := hp.1; have := hp.2; omega
    have hb : byteAt q i = ((q[i.toNat]'hi).toNat : Int) := by unfold byteAt; rw [ByteArray.getElem?_lt' _ _ hi]; rfl
    refine runs_value (v := .int .u8 (byteAt q i)) (w' := w) ?_ (Res.pure h rfl ?_ trivial)
    · simp only [execOp, ho, ex, ey, Sem.run_bind, run_index_string w t q k i hu, dif_pos hp, Result.andThen_ok, Sem.run_pure, hb]
    · unfold repA repC
      refine ⟨rfl, ?_⟩
      have := (q[i.toNat]'hi).toNat_lt
      rw [hb]
      simp only [InR, IntKind.min, IntKind.max, IntKind.signed, IntKind.bits]
      simp; omega
  · exact hp.elim
/-- A slice of a slice whose value nobody takes: a check. -/
theorem s_slice_chk (h : RepM cx σ N m w) (hfr0 : N fr) (ho : isSl o.op = true) (ht : TabOK P T)
    (hx : ∀ y ∈ opsOf o.op, repA (rx cx σ N m w) (av y) (ρ y)) {b : Bool} {C : Chc} (hC : chkC (opEff T G o ((opsOf o.op).map av) m fr) b = some C) (hp : C.pre) :
    Runs P w (fun v w' => ∃ a, Res cx σ N m w fr ⟨C.pre, C.r a, C.u a, C.asm a⟩ v w') ((execOp ρ o).run P w) := by
  cases b with
  | false => cases hC
  | true =>
    cases hC
    cases e : o.op with
    | slice t x lo hi mx =>
      rw [e] at hx hp
      obtain ⟨r, hr, _⟩ := s_sliceR h hfr0 e ht hx hp
      exact runs_value hr ⟨(), Res.pure h rfl (by unfold repA repC; trivial) trivial⟩
    | _ => rw [e] at ho; cases ho

theorem opEff_sound (h : RepM cx σ N m w) (hfr : ∀ id, fr ≤ id → id < fr + 32 → N id) (ht : TabOK P T) (hG : EnvOk P G)
    (hx : ∀ x ∈ opsOf o.op, repA (rx cx σ N m w) (av x) (ρ x)) (hc : ∀ v, ρ (.const v) = v)
    (hp : (opEff T G o ((opsOf o.op).map av) m fr).pre) : Runs P w (Res cx σ N m w fr (opEff T G o ((opsOf o.op).map av) m fr)) ((execOp ρ o).run P w) := by
  cases ho : o.op with
  | move x =>
    rw [ho] at hx hp
    refine runs_value (v := ρ x) (w' := w) (by simp [execOp, ho]) ?_
    have h1 := hx x (by simp [opsOf])
    simp only [opEff, ho, opsOf, List.map_cons, List.map_nil] at hp ⊢
    cases hw : wfOf G o.dst with
    | zero => exact okr_res h h1
    | succ k => rw [hw] at hp; exact s_mvE h (hfr fr (Nat.le_refl _) (by omega)) h1 hp
  | assign x => rw [ho] at hx hp; exact s_assign h hfr ho ht (hx x (by simp [opsOf])) (fun v e => by rw [e]; exact hc v) hp
  | pick c a b => rw [ho] at hx hp; exact s_pick h ho (hx c (by simp [opsOf])) (hx a (by simp [opsOf])) (hx b (by simp [opsOf])) hp
  | alloc t => rw [ho] at hx hp; exact s_alloc h hfr ho ht hp
  | box t x => rw [ho] at hx hp; exact s_box h hfr ho (hx x (by simp [opsOf])) hp
  | build t ps => have := s_build h hfr ho ht hx hp; rwa [ho] at this
  | buildSlice t l ps => have := s_buildSlice h hfr ho ht hx hp; rwa [ho] at this
  | load t x => rw [ho] at hx hp; exact s_load h ho ht (hx x (by simp [opsOf])) hp
  | store t x y => rw [ho] at hx hp; exact s_store h ho ht (hx x (by simp [opsOf])) (hx y (by simp [opsOf])) hp
  | nilCheck x => rw [ho] at hx hp; exact s_nilCheck h ho (hx x (by simp [opsOf])) hp
  | binOp op t x y u => rw [ho] at hx hp; exact s_binOp h ho ht (hx x (by simp [opsOf])) (hx y (by simp [opsOf])) hp
  | unOp op t x =>
    rw [ho] at hx hp
    cases op with
    | not => exact s_not h ho (hx x (by simp [opsOf])) hp
    | neg => exact s_neg h ho (hx x (by simp [opsOf])) hp
    | _ => simp only [opEff, ho] at hp; exact hp.elim
  | convert s t x => rw [ho] at hx hp; exact s_convert h ho ht (hx x (by simp [opsOf])) hp
  | makeFunc fn a b => have := s_makeFunc (P := P) h ho hx hp; rwa [ho] at this
  | makeMap t r => have := s_makeMap (ρ := ρ) (av := av) h hfr ho ht hp; rwa [ho] at this
  | slice t x lo hi mx =>
    rw [ho] at hx hp
    exact s_slice h (hfr fr (by omega) (by omega)) ho ht hx hp
  | fieldAddr t x f => rw [ho] at hx hp; exact s_fieldAddr h ho ht (hx x (by simp [opsOf])) hp
  | field t x f => rw [ho] at hx hp; exact s_field h ho ht (hx x (by simp [opsOf])) hp
  | index t x y => rw [ho] at hx hp; exact s_index h ho ht (hx x (by simp [opsOf])) (hx y (by simp [opsOf])) hp
  | indexAddr t x y => rw [ho] at hx hp; exact s_indexAddr h ho ht (hx x (by simp [opsOf])) (hx y (by simp [opsOf])) hp
  | makeSlice t x y => rw [ho] at hx hp; exact s_makeSlice h hfr ho ht (hx x (by simp [opsOf])) (hx y (by simp [opsOf])) hp
  | lookup t x y ok => rw [ho] at hx hp; exact s_lookup h hfr ho ht (hx x (by simp [opsOf])) (hx y (by simp [opsOf])) hp
  | mapUpdate t x y z => rw [ho] at hx hp; exact s_mapUpdate h ho ht (hx x (by simp [opsOf])) (hx y (by simp [opsOf])) (hx z (by simp [opsOf])) hp
  | mapEntry t x y => rw [ho] at hx hp; exact s_mapEntry h hfr ho ht (hx x (by simp [opsOf])) (hx y (by simp [opsOf])) hp
  | entryStore t x y z => rw [ho] at hx hp; exact s_entryStore h hfr ho (hx x (by simp [opsOf])) (hx y (by simp [opsOf])) (hx z (by simp [opsOf])) hp
  | extract x i => rw [ho] at hx hp; exact s_extract h ho (hx x (by simp [opsOf])) hp
  | call c =>
    obtain ⟨callee, args, ts⟩ := c
    cases callee with
    | value f => have := s_callV h hfr ho hG hx hp; rwa [ho] at this
    | builtin b => have := s_builtin h hfr ho ht hx hp; rwa [ho] at this
    | invoke r n => rw [ho] at hp; simp only [opEff, ho] at hp; exact hp.elim
  | _ => rw [ho] at hp; simp only [opEff, ho] at hp; exact hp.elim


theorem run_equalIn_slnil (d : Nat) {t e : TypeId} {a : Option Addr} {n c : Nat} (h : P.underlying t = some (.slice e)) : (Op.equalIn (d + 1) t (.slice a n c) (.slice none 0 0)).run P w = .ok a.isNone w := by
  cases a <;> simp [Op.equalIn, run_underlying h]

/-- The operations that come to one of several effects. -/
theorem altE_sound (h : RepM cx σ N m w) (hfr : ∀ id, fr ≤ id → id < fr + 32 → N id) (ht : TabOK P T) (hG : EnvOk P G) {C : Chc}
    (hx : ∀ x ∈ opsOf o.op, repA (rx cx σ N m w) (av x) (ρ x)) (hc : ∀ v, ρ (.const v) = v) (hC : altE T G o.op ((opsOf o.op).map av) m fr = some C) (hp : C.pre) :
    Runs P w (fun v w' => ∃ a, Res cx σ N m w fr ⟨C.pre, C.r a, C.u a, C.asm a⟩ v w') ((execOp ρ o).run P w) := by
  cases ho : o.op with
  | binOp op t x y u =>
    rw [ho] at hx hC
    simp only [altE, opsOf, List.map_cons, List.map_nil] at hC
    have key : ∀ (q : Bool) (c : C1) (e : TypeId), av x = .one c → y = .const (.slice none 0 0) → (TI.of T t).desc = .slice e → (op = .eql ∧ q = true ∨ op = .neq ∧ q = false) → nilChc q (lenOf m c) = some C → Runs P w (fun v w' => ∃ a, Res cx σ N m w fr ⟨C.pre, C.r a, C.u a, C.asm a⟩ v w') ((execOp ρ o).run P w) := by
      intro q c e hcx hy hd hop hn
      unfold nilChc at hn
      split at hn
      · rename_i n hl
        cases hn
        have hxx := hx x (by simp [opsOf])
        rw [hcx] at hxx
        unfold repA at hxx
        obtain ⟨a, cap, e1, e2⟩ := lenOf_nil h hl hxx
        have hyv : ρ y = .slice none 0 0 := by rw [hy]; exact hc _
        have hst := (TI.of_ok ht t (fun k => by rw [k] at hd; cases hd)).slice e hd
        have hg : (eqGuard op t x y (ρ x) (ρ y)).run P w = .ok () w := by rw [e1, hyv]; unfold eqGuard; cases op <;> simp
        rcases hop with ⟨rfl, rfl⟩ | ⟨rfl, rfl⟩
        · have hrun : (execOp ρ o).run P w = .ok (.value (.bool a.isNone)) w := by
            simp only [execOp, ho, Sem.run_bind, hg, Result.andThen_ok]
            rw [e1, hyv]
            simp [binOp, Op.equal, Op.maxDepth, run_equalIn_slnil 9999 hst]
          rw [hrun]
          exact ⟨a.isNone, Res.pure h rfl (repA_bool _) (fun hb => e2 (by simpa using hb))⟩
        · have hrun : (execOp ρ o).run P w = .ok (.value (.bool (!a.isNone))) w := by
            simp only [execOp, ho, Sem.run_bind, hg, Result.andThen_ok]
            rw [e1, hyv]
            simp [binOp, Op.equal, Op.maxDepth, run_equalIn_slnil 9999 hst]
          rw [hrun]
          exact ⟨!a.isNone, Res.pure h rfl (repA_bool _) (fun hb => e2 (by simpa using hb))⟩
      · cases hn
    unfold altB at hC
    split at hC
    · rename_i c _ e hd heq
      simp only [List.cons.injEq, and_true] at heq
      exact key true c e heq.1 rfl hd (.inl ⟨rfl, rfl⟩) hC
    · rename_i c _ e hd heq
      simp only [List.cons.injEq, and_true] at heq
      exact key false c e heq.1 rfl hd (.inr ⟨rfl, rfl⟩) hC
    · cases hC
  | call c =>
    obtain ⟨callee, args, ts⟩ := c
    rw [ho] at hx hC
    cases callee with
    | value f =>
      have hreps := repAs_map (x := rx cx σ N m w) _ hx
      simp only [altE, opsOf, callOps, List.cons_append, List.nil_append, List.map_cons] at hC hreps
      unfold repAs at hreps
      obtain ⟨v, r, e, h1, h2⟩ := hreps
      simp only [List.cons.injEq] at e
      obtain ⟨e1, e2⟩ := e
      unfold altC at hC
      split at hC
      · rename_i g caps as heq
        simp only [List.cons.injEq] at heq
        rw [heq.1] at h1
        unfold repA repC at h1
        obtain ⟨vs, e3, h3⟩ := h1
        cases hf : findL G.r g with
        | none => rw [hf] at hC; cases hC
        | some D =>
          rw [hf] at hC
          cases hC
          obtain ⟨hok, ⟨fn, hfn, hname, hbody⟩⟩ := hG.r g D hf
          have hargs := repAs_append (as := as) (bs := caps.map .one) _ _ (heq.2 ▸ h2) (repAs_ones _ _ h3)
          have hcall := hok cx σ N m w fr (as ++ caps.map .one) (r ++ vs) h hfr hargs hp
          have hrun : (execOp ρ o).run P w = .ok (.enter g (r ++ vs).toArray) w := by
            rw [← e1] at e3
            have er : args.map ρ = r.toArray := by rw [← e2, ← Array.toList_map, Array.toArray_toList]
            have hname' : fn.name ≠ "runtime.NumGoroutine" := by simpa using hname
            have hbody' : fn.body ≠ none := by intro hh; rw [hh] at hbody; cases hbody
            simp [execOp, ho, resolve, e3, Deferred.ofValue, er, invoke, callFunc, hfn, hname', hbody']
          rw [hrun]
          exact ⟨rfl, hcall⟩
      · cases hC
    | _ => simp [altE] at hC
  | _ => rw [ho] at hC; simp [altE] at hC

end
end Go.Ev

/- A part of what is owned, alone; and back. -/
set_option linter.unusedSimpArgs false
set_option linter.unusedVariables false
namespace Go.Ev

section
variable {cx : Cx} {σ : Nat → Value} {N : Nat → Prop} {m : Mem} {w : World}

/-- The context in which the ids S alone are owned. -/
def sub (cx : Cx) (σ : Nat → Value) (m : Mem) (w : World) (S : List Nat) : Cx :=
  ⟨w, fun b => cx.F b ∨ ∃ id, S.contains id = false ∧ own (m id) = true ∧ hb (σ id) b, fun b => ∃ id, S.contains id = true ∧ own (m id) = true ∧ hb (σ id) b, cx.np, cx.arg, cx.mks, cx.tm⟩

theorem owned_sub (S : List Nat) (b : Nat) : Owned (sub cx σ m w S) σ (restr S m) b ↔ Owned cx σ m b := by
  unfold Owned sub restr
  constructor
  · rintro ((h | ⟨id, h1, h2, h3⟩) | ⟨id, h1, h2⟩)
    · exact .inl h
    · exact .inr ⟨id, h2, h3⟩
    · by_cases hs : S.contains id = true
      · rw [if_pos hs] at h1; exact .inr ⟨id, h1, h2⟩
      · rw [if_neg hs] at h1; cases h1
  · rintro (h | ⟨id, h1, h2⟩)
    · exact .inl (.inl h)
    · by_cases hs : S.contains id = true
      · exact .inr ⟨id, by rw [if_pos hs]; exact h1, h2⟩
      · exact .inl (.inr ⟨id, by simpa using hs, h1, h2⟩)

theorem keeps_sub (S : List Nat) : Rx.Keeps (rx cx σ N m w) (rx (sub cx σ m w S) σ N (restr S m) w) :=
  ⟨.ex fun b _ ho => ⟨fun h => ho ((owned_sub S b).1 h), rfl⟩, fun _ _ => rfl, fun _ h => h⟩

theorem RepM.sub (h : RepM cx σ N m w) (S : List Nat) : RepM (sub cx σ m w S) σ N (restr S m) w := by
  have own_r : ∀ id, own (restr S m id) = true → S.contains id = true ∧ own (m id) = true := by
    intro id ho
    unfold restr at ho
    split at ho
    · rename_i hs; exact ⟨hs, ho⟩
    · cases ho
  refine ⟨fun id => ?_, fun id hn => ?_, fun id id' b ho ho' => ?_, fun id b ho hb => ?_, fun id b ho hb => ?_, ⟨rfl, rfl, rfl, Nat.le_refl _, Nat.le_refl _, fun _ _ _ => rfl⟩, fun b hb => ?_, h.hone, h.fix, h.mks⟩
  · unfold restr
    split
    · by_cases hn : N id
      · rw [h.fresh id hn]; trivial
      · exact repB_keep (keeps_sub S) hn _ (h.blk id) (fun _ _ _ => rfl)
    · trivial
  · unfold restr; split
    · exact h.fresh id hn
    · rfl
  · exact h.inj id id' b (own_r id ho).2 (own_r id' ho').2
  · rintro (hf | ⟨i, h1, h2, h3⟩)
    · exact h.notF id b (own_r id ho).2 hb hf
    · have := h.inj id i b (own_r id ho).2 h2 hb h3
      subst this
      rw [(own_r id ho).1] at h1; cases h1
  · exact .inr ⟨id, (own_r id ho).1, (own_r id ho).2, hb⟩
  · rcases hb with hf | ⟨id, _, h2, h3⟩
    · exact h.hF b hf
    · exact repB_lt (h.blk id) h2 b h3

/-- Back: what was not touched stands as it stood. -/
theorem RepM.glue (h : RepM cx σ N m w) (S : List Nat) {σ' : Nat → Value} {N' : Nat → Prop} {m' : Mem} {w' : World} (h' : RepM (Ev.sub cx σ m w S) σ' N' m' w') (k : Rx.Keeps (rx (Ev.sub cx σ m w S) σ N (restr S m) w) (rx (Ev.sub cx σ m w S) σ' N' m' w'))
    (hm' : ∀ id, S.contains id = false → ¬ N id → m' id = .dead) (M : Mem) (hin : ∀ id, S.contains id = true → M id = m' id) (hnew : ∀ id, N id → M id = m' id) (hout : ∀ id, S.contains id = false → ¬ N id → M id = m id) :
    RepM cx σ' N' M w' ∧ Rx.Keeps (rx cx σ N m w) (rx cx σ' N' M w') ∧ Rx.Keeps (rx (Ev.sub cx σ m w S) σ' N' m' w') (rx cx σ' N' M w') := by
  have hσ : ∀ id, ¬ N id → σ' id = σ id := k.σ
  have part : ∀ id, own (M id) = true → (own (m' id) = true ∧ M id = m' id) ∨ (S.contains id = false ∧ ¬ N id ∧ own (m id) = true ∧ M id = m id ∧ σ' id = σ id) := by
    intro id ho
    by_cases hn : N id
    · have e := hnew id hn; rw [e] at ho; exact .inl ⟨ho, e⟩
    · by_cases hs : S.contains id = true
      · have e := hin id hs; rw [e] at ho; exact .inl ⟨ho, e⟩
      · have hs' : S.contains id = false := by simpa using hs
        have e := hout id hs' hn; rw [e] at ho; exact .inr ⟨hs', hn, ho, e, hσ id hn⟩
  have old_same : ∀ id b, S.contains id = false → own (m id) = true → hb (σ id) b → w'.heap[b]? = w.heap[b]? := by
    intro id b hs ho hb
    refine h'.evo.block b (repB_lt (h.blk id) ho b hb) ?_
    rintro ⟨i, h1, h2, h3⟩
    have := h.inj id i b ho h2 hb h3
    subst this
    rw [hs] at h1; cases h1
  have hO : ∀ b, Owned cx σ' M b ↔ Owned (Ev.sub cx σ m w S) σ' m' b := by
    intro b
    constructor
    · rintro (hf | ⟨id, ho, hb⟩)
      · exact .inl (.inl hf)
      · rcases part id ho with ⟨h1, h2⟩ | ⟨h1, h2, h3, h4, h5⟩
        · exact .inr ⟨id, h1, hb⟩
        · exact .inl (.inr ⟨id, h1, h3, by rw [← h5]; exact hb⟩)
    · rintro ((hf | ⟨id, h1, h2, h3⟩) | ⟨id, ho, hb⟩)
      · exact .inl hf
      · have hn : ¬ N id := fun hn => by rw [h.fresh id hn] at h2; cases h2
        exact .inr ⟨id, by rw [hout id h1 hn]; exact h2, by rw [hσ id hn]; exact h3⟩
      · refine .inr ⟨id, ?_, hb⟩
        by_cases hn : N id
        · rw [hnew id hn]; exact ho
        · by_cases hs : S.contains id = true
          · rw [hin id hs]; exact ho
          · rw [hm' id (by simpa using hs) hn] at ho; cases ho
  have k2 : Rx.Keeps (rx (Ev.sub cx σ m w S) σ' N' m' w') (rx cx σ' N' M w') := ⟨.ex fun b _ ho => ⟨fun hh => ho ((hO b).1 hh), rfl⟩, fun _ _ => rfl, fun _ h => h⟩
  have kk : Rx.Keeps (rx cx σ N m w) (rx cx σ' N' M w') :=
    ⟨⟨fun b hb ho => by
      obtain ⟨h1, h2⟩ := k.k.blk b hb (fun hh => ho ((owned_sub S b).1 hh))
      exact ⟨fun hh => h1 ((hO b).1 hh), h2⟩⟩, k.σ, k.N⟩
  refine ⟨⟨fun id => ?_, fun id hn => ?_, fun id id' b ho ho' hb hb' => ?_, fun id b ho hb => ?_, fun id b ho hb => ?_, ?_, fun b hb => ?_, h'.hone, h'.fix, h'.mks⟩, kk, k2⟩
  · by_cases hn : N id
    · rw [hnew id hn]
      by_cases hn' : N' id
      · rw [h'.fresh id hn']; trivial
      · exact repB_keep k2 hn' _ (h'.blk id) (fun _ _ _ => rfl)
    · by_cases hs : S.contains id = true
      · rw [hin id hs]
        exact repB_keep k2 (fun hh => hn (k.N id hh)) _ (h'.blk id) (fun _ _ _ => rfl)
      · have hs' : S.contains id = false := by simpa using hs
        rw [hout id hs' hn]
        exact repB_keep kk hn _ (h.blk id) (fun ho b hb => old_same id b hs' ho hb)
  · have hn0 := k.N id hn
    rw [hnew id hn0]; exact h'.fresh id hn
  · rcases part id ho with ⟨h1, h2⟩ | ⟨h1, h2, h3, h4, h5⟩ <;> rcases part id' ho' with ⟨g1, g2⟩ | ⟨g1, g2, g3, g4, g5⟩
    · exact h'.inj id id' b h1 g1 hb hb'
    · exact absurd (.inr ⟨id', g1, g3, by rw [← g5]; exact hb'⟩) (h'.notF id b h1 hb)
    · exact absurd (.inr ⟨id, h1, h3, by rw [← h5]; exact hb⟩) (h'.notF id' b g1 hb')
    · exact h.inj id id' b h3 g3 (by rw [← h5]; exact hb) (by rw [← g5]; exact hb')
  · rcases part id ho with ⟨h1, h2⟩ | ⟨h1, h2, h3, h4, h5⟩
    · exact fun hf => h'.notF id b h1 hb (.inl hf)
    · exact h.notF id b h3 (by rw [← h5]; exact hb)
  · rcases part id ho with ⟨h1, h2⟩ | ⟨h1, h2, h3, h4, h5⟩
    · rcases h'.low id b h1 hb with hl | ⟨i, _, hi2, hi3⟩
      · have := h.evo.size; exact .inl (by simp only [Ev.sub] at hl; omega)
      · exact h.low i b hi2 hi3
    · exact h.low id b h3 (by rw [← h5]; exact hb)
  · refine ⟨h'.evo.os.trans h.evo.os, h'.evo.tape.trans h.evo.tape, h'.evo.output.trans h.evo.output, Nat.le_trans h.evo.drawn h'.evo.drawn, Nat.le_trans h.evo.size h'.evo.size, fun b hb hmu => ?_⟩
    have hsz := h.evo.size
    by_cases hmu' : (Ev.sub cx σ m w S).Mu b
    · obtain ⟨i, _, h2, h3⟩ := hmu'
      rcases h.low i b h2 h3 with h4 | h4
      · omega
      · exact absurd h4 hmu
    · rw [h'.evo.block b (by simp only [Ev.sub]; omega) hmu']
      exact h.evo.block b hb hmu
  · exact h'.hF b (.inl hb)

end
end Go.Ev
