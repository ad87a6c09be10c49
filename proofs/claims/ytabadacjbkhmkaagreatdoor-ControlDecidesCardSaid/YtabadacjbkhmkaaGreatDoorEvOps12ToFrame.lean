/- Part. -/
import Derived.Test.YtabadacjbkhmkaaGreatDoorEvOps13ToG7
import Derived.Test.YtabadacjbkhmkaaGreatDoorEvOps11ToG4
set_option linter.all false
namespace Go.Ev
def loose : List String := ["maps.Keys[map[string]baggage/forward.label,string,baggage/forward.label]"]
def StrictP (P : Program) : Prop := P.funcs.all (fun f => !loose.contains f.name) = true
def CtrD (D : Prop) (gv : GVs) (P : Program) (f : FuncId) (C : Ctr) : Prop :=
 ∀ (cx : Cx), (cx.D = D ∧ cx.gv = gv) → ∀ (σ : Nat → Value) (N : Nat → Prop) (m : Mem) (w : World) (fr : Nat) (avs : List AV) (vs : List Value), RepM cx σ N m w → (∀ id, fr ≤ id → id < fr + 32 → N id) →
   repAs (rx cx σ N m w) avs vs → (C avs m fr).pre → Calls P f vs.toArray w fun e w' => ∃ v, e = .returned v ∧ Res cx σ N m w fr (C avs m fr) v w'
structure FnHas (P : Program) (f : FuncId) : Prop where
 ex : ∃ fn, P.funcs[f]? = some fn ∧ (fn.name == "runtime.NumGoroutine") = false ∧ fn.body.isNone = false
def CtrOk (P : Program) (f : FuncId) (C : Ctr) : Prop := ∀ (D : Prop) (gv : GVs), (D → StrictP P) → CtrD D gv P f C
def RCtrD (D : Prop) (gv : GVs) (P : Program) (f : FuncId) (C : RCtr) : Prop :=
 ∀ (cx : Cx), (cx.D = D ∧ cx.gv = gv) → ∀ (σ : Nat → Value) (N : Nat → Prop) (m : Mem) (w : World) (fr : Nat) (avs : List AV) (vs : List Value), RepM cx σ N m w → (∀ id, fr ≤ id → id < fr + 32 → N id) →
   repAs (rx cx σ N m w) avs vs → (C avs m fr).pre → Calls P f vs.toArray w fun e w' => ∃ v, e = .returned v ∧ ∃ a, Res cx σ N m w fr ⟨(C avs m fr).pre, (C avs m fr).r a, (C avs m fr).u a, (C avs m fr).asm a⟩ v w'
def CtrG (gl : GVs) (P : Program) (f : FuncId) (C : Ctr) : Prop := ∀ (D : Prop) (gv : GVs), (D → StrictP P) → GLe gl gv → CtrD D gv P f C
def RCtrG (gl : GVs) (P : Program) (f : FuncId) (C : RCtr) : Prop := ∀ (D : Prop) (gv : GVs), (D → StrictP P) → GLe gl gv → RCtrD D gv P f C
def RCtrOk (P : Program) (f : FuncId) (C : RCtr) : Prop := ∀ (D : Prop) (gv : GVs), (D → StrictP P) → RCtrD D gv P f C
def GrowN (B : Nat) (A C : World) : Prop := ∃ row, A.grownBy C row ∧ A.drawn ≤ C.drawn ∧ ∀ r, row = some r → B ≤ r ∧ ∃ o : Obj, A.heap[r]? = some o ∧ datB o = false
structure KeepN (W W' : World) : Prop where
 size : W.heap.size ≤ W'.heap.size
 same : ∀ (k : Nat) (o : Obj), W.heap[k]? = some o → datB o = false → W'.heap[k]? = some o
def KpB (bs : List Nat) (A B : World) : Prop := ∀ b ∈ bs, B.heap[b]? = A.heap[b]?
def SeqEv (P : Program) (g : Nat) (lb : Array Value) (encs : Nat → Array Value) (bs : List Nat) (ord : List Nat → Prop) (w : World) : Prop :=
 ∀ (l : Nat) (J Jx : List Nat → World → Prop) (W : World), RowKit.Below w.heap.size w W → (∀ s A B, J s A → GrowN W.heap.size A B → J s B) → (∀ s A B, Jx s A → GrowN W.heap.size A B → Jx s B) →
   (∀ pre j W1, Pfx ord (pre ++ [j]) → J pre W1 → YieldAt Fence.wide 1 P l (encs j) W1 fun e W' =>
     (e = .returned (.bool true) ∧ J (pre ++ [j]) W' ∧ KpB bs W1 W' ∧ KeepN W1 W') ∨ (e = .returned (.bool false) ∧ Jx (pre ++ [j]) W')) →
   J [] W →
   CallsIn Fence.wide 2 P g (#[.func (.yield l) #[] #[]] ++ lb) W fun e W' => (∃ v, e = .returned v) ∧ ((∃ xs, ord xs ∧ J xs W') ∨ (∃ pre, Pfx ord pre ∧ Jx pre W'))
def ItOk (P : Program) (f : FuncId) (I : ItC) : Prop :=
 ∀ (cx : Cx) (σ : Nat → Value) (N : Nat → Prop) (m : Mem) (w : World) (caps : List C1) (lb : List Value), RepM cx σ N m w → repCs (rx cx σ N m w) caps lb → (I caps m).pre →
   ∃ (vals : Nat → Array Value) (bs : List Nat), RepM cx σ N (updM m (I caps m).u) w ∧ Rx.Keeps (rx cx σ N m w) (rx cx σ N (updM m (I caps m).u) w) ∧
     (∀ p j, Pfx (I caps m).ord (p ++ [j]) → (I caps m).asm j ∧ (vals j).size = (I caps m).ar ∧ ∀ y : Rx, Keep w y.w (Owned cx σ (updM m (I caps m).u)) y.O → repAs y ((I caps m).y j) (vals j).toList) ∧
     (∀ b ∈ bs, b < w.heap.size ∧ ¬ Owned cx σ (updM m (I caps m).u) b) ∧ SeqEv P f lb.toArray vals bs (I caps m).ord w
structure EnvOk (P : Program) (G : Env) : Prop where
 d : ∀ f C, findL G.d f = some C → CtrOk P f C ∧ FnHas P f
 r : ∀ f C, findL G.r f = some C → RCtrOk P f C ∧ FnHas P f
 it : ∀ f I, findL G.it f = some I → ItOk P f I ∧ FnHas P f
 gl : G.gl = []
structure EnvD (D : Prop) (gv : GVs) (P : Program) (G : Env) : Prop where
 d : ∀ f C, findL G.d f = some C → CtrD D gv P f C ∧ FnHas P f
 r : ∀ f C, findL G.r f = some C → RCtrD D gv P f C ∧ FnHas P f
 it : ∀ f I, findL G.it f = some I → ItOk P f I ∧ FnHas P f
 gl : GLe G.gl gv
theorem EnvOk.at_ {P : Program} {G : Env} (h : EnvOk P G) {D : Prop} {gv : GVs} (hD : D → StrictP P) : EnvD D gv P G :=
 ⟨fun f C k => ⟨(h.d f C k).1 D gv hD, (h.d f C k).2⟩, fun f C k => ⟨(h.r f C k).1 D gv hD, (h.r f C k).2⟩, h.it, fun g v e => by rw [h.gl] at e; cases e⟩
structure EnvG (gl : GVs) (P : Program) (G : Env) : Prop where
 d : ∀ f C, findL G.d f = some C → CtrG gl P f C ∧ FnHas P f
 r : ∀ f C, findL G.r f = some C → RCtrG gl P f C ∧ FnHas P f
 it : ∀ f I, findL G.it f = some I → ItOk P f I ∧ FnHas P f
 gl : G.gl = gl
theorem EnvG.at_ {gl : GVs} {P : Program} {G : Env} (h : EnvG gl P G) {D : Prop} {gv : GVs} (hD : D → StrictP P) (hg : GLe gl gv) : EnvD D gv P G :=
 ⟨fun f C k => ⟨(h.d f C k).1 D gv hD hg, (h.d f C k).2⟩, fun f C k => ⟨(h.r f C k).1 D gv hD hg, (h.r f C k).2⟩, h.it, by rw [h.gl]; exact hg⟩
theorem CtrOk.g {gl : GVs} {P : Program} {f : FuncId} {C : Ctr} (h : CtrOk P f C) : CtrG gl P f C := fun D gv hD _ => h D gv hD
theorem RCtrOk.g {gl : GVs} {P : Program} {f : FuncId} {C : RCtr} (h : RCtrOk P f C) : RCtrG gl P f C := fun D gv hD _ => h D gv hD
section
variable {cx : Cx} {σ : Nat → Value} {N : Nat → Prop} {m : Mem} {w : World} {P : Program} {T : Tab} {G : Env} {o : Oper} {fr : Nat} {ρ : Operand → Value} {av : Operand → AV}
theorem sD2 (h : RepM cx σ N m w) {x : AV} {v : Value} (hx : repA (rx cx σ N m w) x v) (hp : (fullE m x).pre) : Res cx σ N m w fr (fullE m x) v w := by
 unfold fullE at hp ⊢; split at hp
 · rename_i id; obtain ⟨hn, e1⟩ : ¬ N id ∧ v = σ id := by unfold repA repC at hx; exact hx
   subst e1; split at hp
   · rename_i e u xs hm; refine Res.pure h rfl ?_ trivial; have hb := h.blk id; rw [hm] at hb; obtain ⟨n', fl, rfl, r1, r2⟩ := hb; simp only [rx] at r1; unfold repA repC; simp only [rx]
     rcases r1.2 with ⟨q1, a, q2⟩ | ⟨g, cap, cur, q1, q2, q3, q4, _⟩
     · exact ⟨hn, a, 0, 0, a, q2, by omega, Nat.le_refl _, by rw [q1]; exact q2, fun hlt => by omega⟩
     · exact ⟨hn, _, _, cap, _, q2, by omega, q4, by rw [Nat.sub_zero]; exact q2, fun _ => ⟨g, rfl, by rw [Nat.zero_mul]⟩⟩
   · exact hp.elim
 · exact rA0 h hx
theorem mC9 (h : RepM cx σ N m w) {x : AV} {v : Value} (hx : repA (rx cx σ N m w) x v) (hfr0 : N fr) {T : Tab} {ty : TypeId} (hp : (nilRE T ty fr x).pre) : Res cx σ N m w fr (nilRE T ty fr x) v w := by
 unfold nilRE at hp ⊢; split at hp
 · have e1 : v = .slice none 0 0 := by unfold repA repC at hx; exact hx
   subst e1; split at hp
   · rename_i e hd; split at hp
     · rename_i t hty; exact aA6 (e := e) (t := t) (p := True) (q := True) (u0 := []) (a0 := none) ⟨Keep.refl _ _, fun _ _ => rfl, fun _ h => h⟩ h hfr0 (fun id hid _ => hid) trivial rfl
     · exact hp.elim
   · exact hp.elim
 · exact rA0 h hx
theorem xC6 (h : RepM cx σ N m w) (hfr : ∀ id, fr ≤ id → id < fr + 32 → N id) {x : Operand} (h8 : ¬ 8 ≤ wfOf G o.dst) (ho : o.op = .assign x) (ht : TabOK P T) (hx : repA (rx cx σ N m w) (av x) (ρ x)) (hc : ∀ v, x = .const v → ρ x = v)
 (hp : (opEff T G o [av x] m fr).pre) : Runs P w (Res cx σ N m w fr (opEff T G o [av x] m fr)) ((execOp ρ o).run P w) := by
 have hrun : (execOp ρ o).run P w = .ok (.value (ρ x)) w := by simp [execOp, ho]
 have k0 : Rx.Keeps (rx cx σ N m w) (rx cx σ N m w) := ⟨Keep.refl _ _, fun _ _ => rfl, fun _ h => h⟩; simp only [opEff, ho] at hp ⊢; split at hp
 · rename_i hnil; rw [if_pos hnil]; split at hp
   · rename_i e hd; split at hp
     · rename_i t hty; have e1 : ρ x = .slice none 0 0 := by
        unfold nilC at hnil; split at hnil
        · exact hc _ rfl
        · cases hnil
       rw [e1] at hrun; rw [if_neg h8]; have := aA6 (e := e) (t := t) (p := True) (q := True) (u0 := []) (a0 := none) k0 h (hfr fr (by omega) (by omega)) (fun id hid _ => hid) trivial rfl; exact bA0 hrun this
     · exact hp.elim
   · exact hp.elim
 · rename_i hnil; rw [if_neg hnil]; by_cases h1 : wfOf G o.dst = 1
   · rw [if_pos h1] at hp ⊢; exact bA0 hrun (sD2 h hx hp)
   · rw [if_neg h1] at hp ⊢; by_cases h2 : wfOf G o.dst = 2
     · rw [if_pos h2] at hp ⊢; exact bA0 hrun (mC9 h hx (hfr fr (by omega) (by omega)) hp)
     · rw [if_neg h2] at hp ⊢; exact bA0 hrun (rA0 h hx)
theorem wA4 {x : Rx} : ∀ (avs : List AV) (vs : List Value) (cs : List C1), onesOf avs = some cs → repAs x avs vs → repCs x cs vs
 | [], vs, cs, h, hr => by
   simp [onesOf] at h; subst h; unfold repAs at hr
   rw [hr]; exact repCs_nil.2 rfl
 | .one c :: r, vs, cs, h, hr => by
   simp only [onesOf] at h; split at h
   · rename_i cs' hcs; simp at h; subst h; unfold repAs at hr; obtain ⟨v, r', rfl, h1, h2⟩ := hr; unfold repA at h1; exact repCs_cons.2 ⟨v, r', rfl, h1, wA4 r r' cs' hcs h2⟩
   · cases h
 | .agg c :: r, vs, cs, h, hr => by
   simp only [onesOf] at h; split at h
   · rename_i cs' hcs; simp at h; subst h; unfold repAs at hr; obtain ⟨v, r', rfl, h1, h2⟩ := hr; unfold repA at h1; exact repCs_cons.2 ⟨v, r', rfl, by unfold repC; exact h1, wA4 r r' cs' hcs h2⟩
   · cases h
 | .tup _ :: r, vs, cs, h, hr => by simp [onesOf] at h
 | .ifd _ _ :: r, vs, cs, h, hr => by simp [onesOf] at h
theorem kB9 (h : RepM cx σ N m w) {fn : Fn} {first captured : Array Operand} (ho : o.op = .makeFunc fn first captured) (hx : ∀ x ∈ opsOf o.op, repA (rx cx σ N m w) (av x) (ρ x))
 (hp : (opEff T G o ((opsOf o.op).map av) m fr).pre) : Runs P w (Res cx σ N m w fr (opEff T G o ((opsOf o.op).map av) m fr)) ((execOp ρ o).run P w) := by
 have hreps := mA4 (x := rx cx σ N m w) _ hx; rw [ho] at hp hreps ⊢; cases fn <;> simp only [opEff, ho] at hp ⊢ <;> try exact hp.elim
 rename_i f; split at hp
 · rename_i cs hfi hcs; have hf0 : first = #[] := by rw [← Array.toArray_toList (xs := first), hfi]
   subst hf0; simp only [opsOf, List.nil_append] at hcs hreps ⊢; refine bA0 (v := .func (.func f) #[] (captured.map ρ)) (w' := w) ?_ (rA0 h ?_)
   · simp [execOp, ho, Instr.makeFunc]
   · unfold repA repC; refine ⟨captured.toList.map ρ, ?_, wA4 _ _ _ hcs hreps⟩; rw [← Array.toList_map, Array.toArray_toList]
 · rename_i a r cs hfi hcs; split at hp
   · rename_i hc; rw [if_pos hc]; have hc0 : captured = #[] := by rw [← Array.toArray_toList (xs := captured), List.eq_nil_of_length_eq_zero hc]
     subst hc0; simp only [opsOf, List.append_nil] at hcs hreps ⊢; refine bA0 (v := .func (.func f) (first.map ρ) #[]) (w' := w) ?_ (rA0 h ?_)
     · simp [execOp, ho, Instr.makeFunc]
     · unfold repA repC; refine ⟨first.toList.map ρ, ?_, wA4 _ _ _ hcs hreps⟩; rw [← Array.toList_map, Array.toArray_toList]
   · exact hp.elim
 · exact hp.elim
theorem gA3 {x : Rx} : ∀ (a9s bs : List AV) (vs us : List Value), repAs x a9s vs → repAs x bs us → repAs x (a9s ++ bs) (vs ++ us)
 | [], bs, vs, us, h, k => by unfold repAs at h; rw [h]; exact k
 | a :: a9s, bs, vs, us, h, k => by
   unfold repAs at h; obtain ⟨v, r, rfl, h1, h2⟩ := h; rw [List.cons_append, List.cons_append]; unfold repAs; exact ⟨v, r ++ us, rfl, h1, gA3 a9s bs r us h2 k⟩
theorem eC7 {x : Rx} {c : C1} {v : Value} (h : repC x c v) : repA x (capA c) v := by
 cases c with
 | pk cs => unfold repC at h; unfold capA repA; exact h
 | _ => unfold capA repA; exact h
theorem xA4 {x : Rx} : ∀ (cs : List C1) (vs : List Value), repCs x cs vs → repAs x (cs.map capA) vs
 | [], vs, h => by rw [repCs_nil.1 h]; unfold repAs; rfl
 | c :: cs, vs, h => by
   obtain ⟨v, r, rfl, h1, h2⟩ := repCs_cons.1 h; simp only [List.map_cons]; unfold repAs; exact ⟨v, r, rfl, eC7 h1, xA4 cs r h2⟩
theorem rC8 (h : RepM cx σ N m w) (hfr : ∀ id, fr ≤ id → id < fr + 32 → N id) {f : Operand} {args : Array Operand} {ts : Array TypeId} (ho : o.op = .call { callee := .value f, args := args, argTypes := ts }) (hG : EnvD cx.D cx.gv P G)
 (hx : ∀ x ∈ opsOf o.op, repA (rx cx σ N m w) (av x) (ρ x)) (hp : (opEff T G o ((opsOf o.op).map av) m fr).pre) : Runs P w (Res cx σ N m w fr (opEff T G o ((opsOf o.op).map av) m fr)) ((execOp ρ o).run P w) := by
 have hreps := mA4 (x := rx cx σ N m w) _ hx; rw [ho] at hp hreps ⊢; simp only [opEff, ho, opsOf, callOps] at hp hreps ⊢; simp only [List.cons_append, List.nil_append, List.map_cons] at hp hreps ⊢; unfold repAs at hreps; obtain ⟨v, r, e, h1, h2⟩ := hreps; simp only [List.cons.injEq] at e; obtain ⟨e1, e2⟩ := e; split at hp <;> rename_i heq
 · rename_i g caps a9s; simp only [List.cons.injEq] at heq; rw [heq.1] at h1; unfold repA repC at h1; obtain ⟨vs, e3, h3⟩ := h1; rw [sA1] at hp ⊢
   cases hf : findL G.d g with
   | none => rw [hf] at hp; exact hp.elim
   | some C =>
     rw [hf] at hp; simp only [Option.getD_some] at hp ⊢; obtain ⟨hc, ⟨fn, hfn, hname, hbody⟩⟩ := hG.d g C hf; have hargs := gA3 (a9s := a9s) (bs := caps.map capA) _ _ (heq.2 ▸ h2) (xA4 _ _ h3); have hcall := hc cx ⟨rfl, rfl⟩ σ N m w fr (a9s ++ caps.map capA) (r ++ vs) h hfr hargs hp; have hrun : (execOp ρ o).run P w = .ok (.enter g (r ++ vs).toArray) w := by
      rw [← e1] at e3; have er : args.map ρ = r.toArray := by rw [← e2, ← Array.toList_map, Array.toArray_toList]
      have hname' : fn.name ≠ "runtime.NumGoroutine" := by simpa using hname
      have hbody' : fn.body ≠ none := by intro hh; rw [hh] at hbody; cases hbody
      simp [execOp, ho, resolve, e3, Deferred.ofValue, er, invoke, callFunc, hfn, hname', hbody']
     rw [hrun]; exact ⟨rfl, hcall⟩
 · rename_i g caps a9s; simp only [List.cons.injEq] at heq; rw [heq.1] at h1; unfold repA repC at h1; obtain ⟨vs, e3, h3⟩ := h1; rw [sA1] at hp ⊢
   cases hf : findL G.d g with
   | none => rw [hf] at hp; exact hp.elim
   | some C =>
     rw [hf] at hp; simp only [Option.getD_some] at hp ⊢; obtain ⟨hc, ⟨fn, hfn, hname, hbody⟩⟩ := hG.d g C hf; have hargs := gA3 (a9s := caps.map capA) (bs := a9s) _ _ (xA4 _ _ h3) (heq.2 ▸ h2); have hcall := hc cx ⟨rfl, rfl⟩ σ N m w fr (caps.map capA ++ a9s) (vs ++ r) h hfr hargs hp; have hrun : (execOp ρ o).run P w = .ok (.enter g (vs ++ r).toArray) w := by
      rw [← e1] at e3; have er : args.map ρ = r.toArray := by rw [← e2, ← Array.toList_map, Array.toArray_toList]
      have hname' : fn.name ≠ "runtime.NumGoroutine" := by simpa using hname
      have hbody' : fn.body ≠ none := by intro hh; rw [hh] at hbody; cases hbody
      simp [execOp, ho, resolve, e3, Deferred.ofValue, er, invoke, callFunc, hfn, hname', hbody']
     rw [hrun]; exact ⟨rfl, hcall⟩
 · exact hp.elim
theorem mC7 (h : RepM cx σ N m w) (hfr : ∀ id, fr ≤ id → id < fr + 32 → N id) (ht : TabOK P T) {st ty : TypeId} {b x : C1} {vb vx : Value} (hb : repC (rx cx σ N m w) b vb) (hx : repC (rx cx σ N m w) x vx)
 (hp : (appX T st m fr b x).pre) : ∃ r w', (Builtin.append_ #[st, st] ty #[vb, vx]).run P w = .ok r w' ∧ Res cx σ N m w fr (appX T st m fr b x) r w' := by
 unfold appX at hp ⊢; split at hp
 · rename_i id2; split at hp
   · rename_i hg
     try simp only []
     rw [if_pos hg]; unfold repC at hx
     cases hm : m id2 with
     | rowg e t p fid2 ys hole =>
       rw [hm] at hp
       cases hole with
       | none =>
         simp only [appG] at hp ⊢; split at hp
         · rename_i e' hd; split at hp
           · rename_i hc; rw [if_pos hc]; obtain ⟨rfl, hty⟩ := hc; exact pD3 h hfr ht hd hty hm hx.1 hx.2 hb hp
           · exact hp.elim
         · exact hp.elim
       | some j => exact hp.elim
     | _ => rw [hm] at hg; cases hg
   · rename_i hg
     try simp only []
     rw [if_neg hg]; exact yA7 h hfr ht hb hx hp
 · exact yA7 h hfr ht hb hx hp
theorem cC1 (h : RepM cx σ N m w) (hfr : ∀ id, fr ≤ id → id < fr + 32 → N id) {b : Builtin} {args : Array Operand} {ts : Array TypeId} (ho : o.op = .call { callee := .builtin b, args := args, argTypes := ts }) (ht : TabOK P T)
 (hx : ∀ x ∈ opsOf o.op, repA (rx cx σ N m w) (av x) (ρ x)) (hp : (opEff T G o ((opsOf o.op).map av) m fr).pre) : Runs P w (Res cx σ N m w fr (opEff T G o ((opsOf o.op).map av) m fr)) ((execOp ρ o).run P w) := by
 rw [ho] at hx hp ⊢; simp only [opEff, ho, opsOf, callOps, List.nil_append] at hx hp ⊢; have e : args = args.toList.toArray := by simp
 cases b <;> try exact hp.elim
 case len =>
  generalize hl : args.toList = l at *
  match l, hp with
  | [x], hp => exact aD5 h (by rw [ho, e]) ht (hx x (by simp)) hp
  | [], hp => exact hp.elim
  | _ :: _ :: _, hp => simp [builtinE] at hp; exact hp.elim
 case min =>
  generalize hl : args.toList = l at *
  match l, hp with
  | [x, y], hp => exact uB6 h (.inl rfl) (by rw [ho, e]) (hx x (by simp)) (hx y (by simp)) hp
  | [], hp => exact hp.elim
  | [_], hp => simp [builtinE] at hp; exact hp.elim
  | _ :: _ :: _ :: _, hp => simp [builtinE] at hp; exact hp.elim
 case max =>
  generalize hl : args.toList = l at *
  match l, hp with
  | [x, y], hp => exact uB6 h (.inr rfl) (by rw [ho, e]) (hx x (by simp)) (hx y (by simp)) hp
  | [], hp => exact hp.elim
  | [_], hp => simp [builtinE] at hp; exact hp.elim
  | _ :: _ :: _ :: _, hp => simp [builtinE] at hp; exact hp.elim
 case clear =>
  generalize hl : args.toList = l at *
  match l, hp with
  | [x], hp => exact bD1 h (by rw [ho, e]) ht (hx x (by simp)) hp
  | [], hp => exact hp.elim
  | _ :: _ :: _, hp => simp [builtinE] at hp; exact hp.elim
 case append =>
  by_cases h9 : wfOf G o.dst = 9
  · simp only [if_pos h9] at hp; exact hp.elim
  · simp only [if_neg h9] at hp ⊢; generalize hl : args.toList = l at *
    match l, hp with
    | [x, y], hp =>
      have hx' := hx x (by simp); have hy' := hx y (by simp); simp only [List.map_cons, List.map_nil, builtinE] at hp ⊢; split at hp <;> rename_i heq
      · rename_i c d; simp at heq; rw [heq.1] at hx'; rw [heq.2] at hy'; unfold repA at hx' hy'; split at hp
        · rename_i hts; rw [if_pos hts]; obtain ⟨r, w', hr, hres⟩ := mC7 (ty := o.type) h hfr ht hx' hy' hp; refine bA0 (v := r) (w' := w') ?_ hres; rw [qA1 ho, e]; rw [hts]; simp only [builtin, List.map_toArray, List.map_cons, List.map_nil, Sem.run_bind]; simp only [Array.getD_eq_getD_getElem?] at hr ⊢; simp at hr ⊢; rw [hr]; rfl
        · exact hp.elim
      · exact hp.elim
    | [], hp => exact hp.elim
    | [_], hp => simp [builtinE] at hp; exact hp.elim
    | _ :: _ :: _ :: _, hp => simp [builtinE] at hp; exact hp.elim
theorem vA9 {a : AV} {n : Int} (h : intOf? a = some n) : a = .one (.int .i64 n) := by
 unfold intOf? at h; split at h
 · simp at h; subst h; rfl
 · cases h
theorem wB7 (h : RepM cx σ N m w) (hfr0 : N fr) {t : TypeId} {x : Operand} {lo hi mx : Option Operand} (ho : o.op = .slice t x lo hi mx) (ht : TabOK P T)
 (hx : ∀ y ∈ opsOf (.slice t x lo hi mx), repA (rx cx σ N m w) (av y) (ρ y)) (hp : (opEff T G o ((opsOf (.slice t x lo hi mx)).map av) m fr).pre) :
 ∃ r, (execOp ρ o).run P w = .ok (.value r) w ∧ Res cx σ N m w fr (opEff T G o ((opsOf (.slice t x lo hi mx)).map av) m fr) r w := by
 simp only [opEff, ho, opsOf] at hx hp ⊢; simp only [List.cons_append, List.nil_append, List.map_cons] at hp ⊢; have hx0 := hx x (by simp); split at hp <;> rename_i heq
 · rename_i e c rest hd; simp only [List.cons.injEq] at heq; obtain ⟨h1, h2⟩ := heq; rw [h1] at hx0; unfold repA at hx0; split at hp
   · rename_i u hty
     cases hwf : wfOf G o.dst with
     | succ kk =>
      simp only [hwf] at hp ⊢; have key : ∀ (l q : Option Int), lo.map ρ = l.map (.int .i64) → hi.map ρ = q.map (.int .i64) → mx = none → (winE m u fr c l q (kk + 1)).pre →
       ∃ r, (execOp ρ o).run P w = .ok (.value r) w ∧ Res cx σ N m w fr (winE m u fr c l q (kk + 1)) r w := by
       intro l q e1 e2 e3 hpre; obtain ⟨r, hr, hres⟩ := oD2 h hfr0 hx0 ht hd hty e1 e2 hpre; subst e3; exact ⟨r, by simp only [execOp, ho, Option.map_none, Sem.run_bind, hr, Result.andThen_ok, Sem.run_pure], hres⟩
      have iv : ∀ (y : Operand) (n : Int), repA (rx cx σ N m w) (av y) (ρ y) → intOf? (av y) = some n → ρ y = .int .i64 n := by
       intro y n hr hi; rw [vA9 hi] at hr; exact (lA1 hr).1
      subst h2
      cases lo with
      | none =>
       cases hi with
       | none =>
         cases mx with
         | none => exact key none none rfl rfl rfl hp
         | some z => exact hp.elim
       | some q =>
         have hq := hx q (by simp)
         cases mx with
         | none =>
           simp only [Option.toList_none, Option.toList_some, List.map_cons, List.map_nil, List.nil_append, List.append_nil] at hp ⊢
           cases hb : intOf? (av q) with
           | none => rw [hb] at hp; exact hp.elim
           | some n => rw [hb] at hp; exact key none (some n) rfl (by rw [Option.map_some, iv q n hq hb]; rfl) rfl hp
         | some z => exact hp.elim
      | some l =>
       have hl := hx l (by simp)
       cases hi with
       | none =>
         cases mx with
         | none =>
           simp only [Option.toList_none, Option.toList_some, List.map_cons, List.map_nil, List.nil_append, List.append_nil] at hp ⊢
           cases hb : intOf? (av l) with
           | none => rw [hb] at hp; exact hp.elim
           | some n => rw [hb] at hp; exact key (some n) none (by rw [Option.map_some, iv l n hl hb]; rfl) rfl rfl hp
         | some z => exact hp.elim
       | some q =>
         have hq := hx q (by simp)
         cases mx with
         | none =>
           simp only [Option.toList_none, Option.toList_some, List.map_cons, List.map_nil, List.nil_append, List.append_nil, List.cons_append, List.map_append] at hp ⊢
           cases hb : intOf? (av l) with
           | none => rw [hb] at hp; exact hp.elim
           | some n =>
             rw [hb] at hp
             cases hb2 : intOf? (av q) with
             | none => rw [hb2] at hp; exact hp.elim
             | some k => rw [hb2] at hp; exact key (some n) (some k) (by rw [Option.map_some, iv l n hl hb]; rfl) (by rw [Option.map_some, iv q k hq hb2]; rfl) rfl hp
         | some z => exact hp.elim
     | zero =>
     simp only [hwf] at hp ⊢; have key : ∀ (l q z : Option Int), (z.isSome = true → q.isSome = true) → lo.map ρ = l.map (.int .i64) → hi.map ρ = q.map (.int .i64) → mx.map ρ = z.map (.int .i64) → (sliceE m u c l q z).pre →
      ∃ r, (execOp ρ o).run P w = .ok (.value r) w ∧ Res cx σ N m w fr (sliceE m u c l q z) r w := by
      intro l q z hz e1 e2 e3 hpre; obtain ⟨r, hr, hres⟩ := gC7 h hx0 ht hd hty e1 e2 e3 hz hpre; exact ⟨r, by simp only [execOp, ho, Sem.run_bind, hr, Result.andThen_ok, Sem.run_pure], hres⟩
     have iv : ∀ (y : Operand) (n : Int), repA (rx cx σ N m w) (av y) (ρ y) → intOf? (av y) = some n → ρ y = .int .i64 n := by
      intro y n hr hi; rw [vA9 hi] at hr; exact (lA1 hr).1
     subst h2
     cases lo with
     | none =>
       cases hi with
       | none =>
         cases mx with
         | none => exact key none none none (by simp) rfl rfl rfl hp
         | some z => exact hp.elim
       | some q =>
         have hq := hx q (by simp)
         cases mx with
         | none =>
           simp only [Option.toList_none, Option.toList_some, List.map_cons, List.map_nil, List.nil_append, List.append_nil] at hp ⊢
           cases hb : intOf? (av q) with
           | none => rw [hb] at hp; exact hp.elim
           | some n => rw [hb] at hp; exact key none (some n) none (by simp) rfl (by rw [Option.map_some, iv q n hq hb]; rfl) rfl hp
         | some z =>
           have hz := hx z (by simp); simp only [Option.toList_none, Option.toList_some, List.map_cons, List.map_nil, List.nil_append, List.append_nil, List.cons_append, List.map_append] at hp ⊢
           cases hb : intOf? (av q) with
           | none => rw [hb] at hp; exact hp.elim
           | some n =>
             rw [hb] at hp
             cases hb2 : intOf? (av z) with
             | none => rw [hb2] at hp; exact hp.elim
             | some k => rw [hb2] at hp; exact key none (some n) (some k) (by simp) rfl (by rw [Option.map_some, iv q n hq hb]; rfl) (by rw [Option.map_some, iv z k hz hb2]; rfl) hp
     | some l =>
       have hl := hx l (by simp)
       cases hi with
       | none =>
         cases mx with
         | none =>
           simp only [Option.toList_none, Option.toList_some, List.map_cons, List.map_nil, List.nil_append, List.append_nil] at hp ⊢
           cases hb : intOf? (av l) with
           | none => rw [hb] at hp; exact hp.elim
           | some n => rw [hb] at hp; exact key (some n) none none (by simp) (by rw [Option.map_some, iv l n hl hb]; rfl) rfl rfl hp
         | some z => exact hp.elim
       | some q =>
         have hq := hx q (by simp)
         cases mx with
         | none =>
           simp only [Option.toList_none, Option.toList_some, List.map_cons, List.map_nil, List.nil_append, List.append_nil, List.cons_append, List.map_append] at hp ⊢
           cases hb : intOf? (av l) with
           | none => rw [hb] at hp; exact hp.elim
           | some n =>
             rw [hb] at hp
             cases hb2 : intOf? (av q) with
             | none => rw [hb2] at hp; exact hp.elim
             | some k => rw [hb2] at hp; exact key (some n) (some k) none (by simp) (by rw [Option.map_some, iv l n hl hb]; rfl) (by rw [Option.map_some, iv q k hq hb2]; rfl) rfl hp
         | some z =>
           have hz := hx z (by simp); simp only [Option.toList_none, Option.toList_some, List.map_cons, List.map_nil, List.nil_append, List.append_nil, List.cons_append, List.map_append] at hp ⊢
           cases hb : intOf? (av l) with
           | none => rw [hb] at hp; exact hp.elim
           | some n =>
             rw [hb] at hp
             cases hb2 : intOf? (av q) with
             | none => rw [hb2] at hp; exact hp.elim
             | some k =>
               rw [hb2] at hp
               cases hb3 : intOf? (av z) with
               | none => rw [hb3] at hp; exact hp.elim
               | some j => rw [hb3] at hp; exact key (some n) (some k) (some j) (by simp) (by rw [Option.map_some, iv l n hl hb]; rfl) (by rw [Option.map_some, iv q k hq hb2]; rfl) (by rw [Option.map_some, iv z j hz hb3]; rfl) hp
   · exact hp.elim
 · rename_i c l q hd
   cases hwf : wfOf G o.dst with
   | succ k => rw [hwf] at hp; exact hp.elim
   | zero =>
     rw [hwf] at hp
     cases lo with
     | none => exact hp.elim
     | some lo =>
       cases hi with
       | none => exact hp.elim
       | some hi =>
         cases mx with
         | some mx => exact hp.elim
         | none =>
           simp only [Option.toList_none, Option.toList_some, List.map_cons, List.map_nil, List.nil_append, List.append_nil, List.cons_append, List.map_append, List.cons.injEq, and_true] at heq; obtain ⟨h1, h2, h3⟩ := heq; have hl := hx lo (by simp); have hh := hx hi (by simp); rw [h1] at hx0; rw [h2] at hl; rw [h3] at hh; obtain ⟨el, _⟩ := lA1 hl; obtain ⟨eh, _⟩ := lA1 hh; simp only [strSl] at hp ⊢
           cases c with
           | str s =>
             simp only [strS] at hp ⊢; obtain ⟨ex, hsz⟩ := tC0 hx0; have hu := (TI.of_ok ht t (fun e => by rw [e] at hd; cases hd)).str hd; refine ⟨.string (s.extract l.toNat q.toNat), ?_, Res.pure h rfl ?_ trivial⟩
             · simp only [execOp, ho, Option.map_some, Option.map_none, Sem.run_bind, ex, el, eh, run_sliceAt_string w t _ _ _ _ hu, run_slice_string w t s .i64 .i64 l q hu hp.1 hp.2.1 hp.2.2, Result.andThen_ok, Sem.run_pure]
             · unfold repA repC; refine ⟨rfl, ?_⟩
               rw [ByteArray.size_extract]; omega
           | _ => exact hp.elim
 · exact hp.elim
theorem bD0 (h : RepM cx σ N m w) (hfr0 : N fr) {t : TypeId} {x : Operand} {lo hi mx : Option Operand} (ho : o.op = .slice t x lo hi mx) (ht : TabOK P T)
 (hx : ∀ y ∈ opsOf (.slice t x lo hi mx), repA (rx cx σ N m w) (av y) (ρ y)) (hp : (opEff T G o ((opsOf (.slice t x lo hi mx)).map av) m fr).pre) :
 Runs P w (Res cx σ N m w fr (opEff T G o ((opsOf (.slice t x lo hi mx)).map av) m fr)) ((execOp ρ o).run P w) := by
 obtain ⟨r, hr, hres⟩ := wB7 h hfr0 ho ht hx hp; exact bA0 hr hres
theorem hD0 (h : RepM cx σ N m w) {t : TypeId} {x y : Operand} (ho : o.op = .index t x y) (ht : TabOK P T) (hx : repA (rx cx σ N m w) (av x) (ρ x)) (hy : repA (rx cx σ N m w) (av y) (ρ y))
 (hp : (opEff T G o [av x, av y] m fr).pre) : Runs P w (Res cx σ N m w fr (opEff T G o [av x, av y] m fr)) ((execOp ρ o).run P w) := by
 simp only [opEff, ho] at hp ⊢; split at hp <;> rename_i heq
 · rename_i q k i hd; simp at heq; rw [heq.1] at hx; rw [heq.2] at hy; have hu := (TI.of_ok ht t (fun e => by rw [e] at hd; cases hd)).str hd; obtain ⟨ey, _⟩ := lA1 hy; have ex : ρ x = .string q := by unfold repA repC at hx; exact hx.1
   have hi : i.toNat < q.size := by have := hp.1; have := hp.2; omega
   have hb : byteAt q i = ((q[i.toNat]'hi).toNat : Int) := by unfold byteAt; rw [ByteArray.getElem?_lt' _ _ hi]; rfl
   refine bA0 (v := .int .u8 (byteAt q i)) (w' := w) ?_ (Res.pure h rfl ?_ trivial)
   · simp only [execOp, ho, ex, ey, Sem.run_bind, run_index_string w t q k i hu, dif_pos hp, Result.andThen_ok, Sem.run_pure, hb]
   · unfold repA repC; refine ⟨rfl, ?_⟩; have := (q[i.toNat]'hi).toNat_lt; rw [hb]; simp only [InR, IntKind.min, IntKind.max, IntKind.signed, IntKind.bits]; simp; omega
 · exact hp.elim
theorem gB6 (h : RepM cx σ N m w) (hfr0 : N fr) (ho : isSl o.op = true) (ht : TabOK P T)
 (hx : ∀ y ∈ opsOf o.op, repA (rx cx σ N m w) (av y) (ρ y)) {b : Bool} {C : Chc} (hC : chkC (opEff T G o ((opsOf o.op).map av) m fr) b = some C) (hp : C.pre) :
 Runs P w (fun v w' => ∃ a, Res cx σ N m w fr ⟨C.pre, C.r a, C.u a, C.asm a⟩ v w') ((execOp ρ o).run P w) := by
 cases b with
 | false => cases hC
 | true =>
   cases hC
   cases e : o.op with
   | slice t x lo hi mx =>
     rw [e] at hx hp; obtain ⟨r, hr, _⟩ := wB7 h hfr0 e ht hx hp
     exact bA0 hr ⟨(), Res.pure h rfl (by unfold repA repC; trivial) trivial⟩
   | _ => rw [e] at ho; cases ho
theorem dA3 (h : RepM cx σ N m w) (hfr : ∀ id, fr ≤ id → id < fr + 32 → N id) (ht : TabOK P T) (hG : EnvD cx.D cx.gv P G)
 (hx : ∀ x ∈ opsOf o.op, repA (rx cx σ N m w) (av x) (ρ x)) (hc : ∀ v, ρ (.const v) = v)
 (hp : (opEff T G o ((opsOf o.op).map av) m fr).pre) : Runs P w (Res cx σ N m w fr (opEff T G o ((opsOf o.op).map av) m fr)) ((execOp ρ o).run P w) := by
 cases ho : o.op with
 | move x =>
   rw [ho] at hx hp; refine bA0 (v := ρ x) (w' := w) (by simp [execOp, ho]) ?_; have h1 := hx x (by simp [opsOf]); simp only [opEff, ho, opsOf, List.map_cons, List.map_nil] at hp ⊢
   cases hw : wfOf G o.dst with
   | zero => exact rA0 h h1
   | succ k => rw [hw] at hp; exact gD5 h (hfr fr (Nat.le_refl _) (by omega)) h1 hp
 | assign x =>
   rw [ho] at hx hp; by_cases h8 : 8 ≤ wfOf G o.dst
   · have hrun : (execOp ρ o).run P w = .ok (.value (ρ x)) w := by simp [execOp, ho]
     have hcv := hc; have hx1 := hx x (by simp [opsOf]); simp only [opEff, ho, opsOf, List.map_cons, List.map_nil] at hp ⊢; split at hp
     · rename_i hnil; rw [if_pos hnil]; split at hp
       · rename_i e hd; split at hp
         · rename_i t hty; have e1 : ρ x = .slice none 0 0 := by
            unfold nilC at hnil; split at hnil
            · exact hcv _
            · cases hnil
           rw [e1] at hrun; rw [if_pos h8]
           first | exact bA0 hrun (bC8 h hfr hp) | (rw [if_pos h8] at hp; exact bA0 hrun (bC8 h hfr hp))
         · exact hp.elim
       · exact hp.elim
     · rename_i hnil; rw [if_neg hnil]; have h1 : ¬ wfOf G o.dst = 1 := by omega
       rw [if_neg h1, if_neg (show ¬ wfOf G o.dst = 2 by omega)]; exact bA0 hrun (rA0 h hx1)
   · exact xC6 h hfr h8 ho ht (hx x (by simp [opsOf])) (fun v e => by rw [e]; exact hc v) hp
 | pick c a b => rw [ho] at hx hp; exact zD2 h ho (hx c (by simp [opsOf])) (hx a (by simp [opsOf])) (hx b (by simp [opsOf])) hp
 | alloc t =>
   rw [ho] at hx hp; by_cases h8 : 8 ≤ wfOf G o.dst
   · simp only [opEff, ho, opsOf, List.map_nil] at hp ⊢; by_cases hU : isU (TI.of T t) = true
     · rw [if_pos hU]; exact nA6 h hfr ho ht hU
     rw [if_neg hU] at hp ⊢; split at hp
     · rename_i n e u hd; rw [if_pos h8] at hp ⊢; exact bC7 h hfr ho ht hd hp
     · rename_i hnd; rw [if_pos h8] at hp ⊢; exact pC1 h hfr ho ht hp
   · exact rD1 h hfr h8 ho ht hp
 | box t x => rw [ho] at hx hp; exact fD5 h hfr ho (hx x (by simp [opsOf])) hp
 | build t ps => have := wC9 h hfr ho ht hx hp; rwa [ho] at this
 | buildSlice t l ps =>
   by_cases h7 : wfOf G o.dst = 7
   · rw [ho] at hx hp; simp only [opEff, ho, opsOf] at hx hp ⊢; split at hp
     · rename_i e hd; rw [if_pos h7] at hp; exact hp.elim
     · exact hp.elim
   by_cases h8 : 8 ≤ wfOf G o.dst
   · rw [ho] at hx hp; simp only [opEff, ho, opsOf] at hx hp ⊢; split at hp
     · rename_i e hd; rw [if_neg h7, if_pos h8] at hp ⊢; split at hp
       · rename_i a hav; have hln : (List.map av (List.map (fun x => x.2) ps.toList)).length = 1 := by rw [hav]; rfl
         simp only [hln] at hp ⊢; by_cases hq : seqIdx (ps.toList.map (·.1)) l (TI.of T e).size 1 = true
         · rw [if_pos hq] at hp ⊢; exact oD5 h hfr ho ht hd hav hx hq hp
         · rw [if_neg hq] at hp; exact hp.elim
       · exact hp.elim
     · exact hp.elim
   · have := kB3 h hfr h7 h8 ho ht hx hp; rwa [ho] at this
 | load t x =>
   rw [ho] at hx hp; have hx1 := hx x (by simp [opsOf])
   cases hw : wfOf G o.dst with
   | zero => exact uD2 hG.gl h hw ho ht hx1 hp
   | succ k =>
     simp only [opEff, ho, opsOf, List.map_cons, List.map_nil] at hp ⊢; split at hp <;> rename_i heq
     · rename_i c; simp at heq; rw [heq] at hx1; unfold repA at hx1; simp only [hw] at hp ⊢; exact qD1 h hfr ho ht hx1 hp
     · exact hp.elim
 | store t x y => rw [ho] at hx hp; exact yC4 h (hfr fr (by omega) (by omega)) ho ht (hx x (by simp [opsOf])) (hx y (by simp [opsOf])) hp
 | nilCheck x => rw [ho] at hx hp; exact nB8 h ho (hx x (by simp [opsOf])) hp
 | binOp op t x y u => rw [ho] at hx hp; exact oC9 h ho ht (hx x (by simp [opsOf])) (hx y (by simp [opsOf])) hp
 | unOp op t x =>
   rw [ho] at hx hp
   cases op with
   | not => exact cD5 h ho (hx x (by simp [opsOf])) hp
   | neg => exact uD4 h ho (hx x (by simp [opsOf])) hp
   | _ => simp only [opEff, ho] at hp; exact hp.elim
 | convert s t x => rw [ho] at hx hp; exact hC2 h ho ht (hx x (by simp [opsOf])) hp
 | makeFunc fn a b => have := kB9 (P := P) h ho hx hp; rwa [ho] at this
 | makeMap t r => have := dC2 (ρ := ρ) (av := av) h hfr ho ht hp; rwa [ho] at this
 | slice t x lo hi mx =>
   rw [ho] at hx hp
   exact bD0 h (hfr fr (by omega) (by omega)) ho ht hx hp
 | fieldAddr t x f => rw [ho] at hx hp; exact zB4 h ho ht (hx x (by simp [opsOf])) hp
 | field t x f => rw [ho] at hx hp; exact uD0 h ho ht (hx x (by simp [opsOf])) hp
 | index t x y => rw [ho] at hx hp; exact hD0 h ho ht (hx x (by simp [opsOf])) (hx y (by simp [opsOf])) hp
 | indexAddr t x y => rw [ho] at hx hp; exact uB4 hG.gl h ho ht (hx x (by simp [opsOf])) (hx y (by simp [opsOf])) hp
 | makeSlice t x y => rw [ho] at hx hp; exact qB5 h hfr ho ht (hx x (by simp [opsOf])) (hx y (by simp [opsOf])) hp
 | lookup t x y ok => rw [ho] at hx hp; exact iC6 h hfr ho ht (hx x (by simp [opsOf])) (hx y (by simp [opsOf])) hp
 | mapUpdate t x y z => rw [ho] at hx hp; exact aB5 h ho ht (hx x (by simp [opsOf])) (hx y (by simp [opsOf])) (hx z (by simp [opsOf])) hp
 | extract x i => rw [ho] at hx hp; exact eC4 h ho (hx x (by simp [opsOf])) hp
 | call c =>
   obtain ⟨callee, args, ts⟩ := c
   cases callee with
   | value f => have := rC8 h hfr ho hG hx hp; rwa [ho] at this
   | builtin b => have := cC1 h hfr ho ht hx hp; rwa [ho] at this
   | invoke r n => rw [ho] at hp; simp only [opEff, ho] at hp; exact hp.elim
 | _ => rw [ho] at hp; simp only [opEff, ho] at hp; exact hp.elim
theorem mA3 (d : Nat) {t e : TypeId} {a : Option Addr} {n c : Nat} (h : P.underlying t = some (.slice e)) : (Op.equalIn (d + 1) t (.slice a n c) (.slice none 0 0)).run P w = .ok a.isNone w := by
 cases a <;> simp [Op.equalIn, run_underlying h]
theorem yB8 (h : RepM cx σ N m w) (hfr : ∀ id, fr ≤ id → id < fr + 32 → N id) (ht : TabOK P T) (hG : EnvD cx.D cx.gv P G) {C : Chc}
 (hx : ∀ x ∈ opsOf o.op, repA (rx cx σ N m w) (av x) (ρ x)) (hc : ∀ v, ρ (.const v) = v) (hC : altE T G o.op ((opsOf o.op).map av) m fr = some C) (hp : C.pre) :
 Runs P w (fun v w' => ∃ a, Res cx σ N m w fr ⟨C.pre, C.r a, C.u a, C.asm a⟩ v w') ((execOp ρ o).run P w) := by
 cases ho : o.op with
 | binOp op t x y u =>
   rw [ho] at hx hC; simp only [altE, opsOf, List.map_cons, List.map_nil] at hC; have key : ∀ (q : Bool) (c : C1) (e : TypeId), av x = .one c → y = .const (.slice none 0 0) → (TI.of T t).desc = .slice e → (op = .eql ∧ q = true ∨ op = .neq ∧ q = false) → nilChc q (lenOf m c) = some C → Runs P w (fun v w' => ∃ a, Res cx σ N m w fr ⟨C.pre, C.r a, C.u a, C.asm a⟩ v w') ((execOp ρ o).run P w) := by
    intro q c e hcx hy hd hop hn; unfold nilChc at hn; split at hn
    · rename_i n hl; cases hn; have hxx := hx x (by simp [opsOf]); rw [hcx] at hxx; unfold repA at hxx; obtain ⟨a, cap, e1, e2⟩ := eC1 h hl hxx; have hyv : ρ y = .slice none 0 0 := by rw [hy]; exact hc _
      have hst := (TI.of_ok ht t (fun k => by rw [k] at hd; cases hd)).slice e hd; have hg : (eqGuard op t x y (ρ x) (ρ y)).run P w = .ok () w := by rw [e1, hyv]; unfold eqGuard; cases op <;> simp
      rcases hop with ⟨rfl, rfl⟩ | ⟨rfl, rfl⟩
      · have hrun : (execOp ρ o).run P w = .ok (.value (.bool a.isNone)) w := by
         simp only [execOp, ho, Sem.run_bind, hg, Result.andThen_ok]; rw [e1, hyv]; simp [binOp, Op.equal, Op.maxDepth, mA3 9999 hst]
        rw [hrun]; exact ⟨a.isNone, Res.pure h rfl (kA1 _) (fun hb => e2 (by simpa using hb))⟩
      · have hrun : (execOp ρ o).run P w = .ok (.value (.bool (!a.isNone))) w := by
         simp only [execOp, ho, Sem.run_bind, hg, Result.andThen_ok]; rw [e1, hyv]; simp [binOp, Op.equal, Op.maxDepth, mA3 9999 hst]
        rw [hrun]; exact ⟨!a.isNone, Res.pure h rfl (kA1 _) (fun hb => e2 (by simpa using hb))⟩
    · cases hn
   unfold altB at hC; split at hC
   · rename_i c _ e hd heq; simp only [List.cons.injEq, and_true] at heq; exact key true c e heq.1 rfl hd (.inl ⟨rfl, rfl⟩) hC
   · rename_i c _ e hd heq; simp only [List.cons.injEq, and_true] at heq; exact key false c e heq.1 rfl hd (.inr ⟨rfl, rfl⟩) hC
   · cases hC
 | call c =>
   obtain ⟨callee, args, ts⟩ := c; rw [ho] at hx hC
   cases callee with
   | value f =>
     have hreps := mA4 (x := rx cx σ N m w) _ hx; simp only [altE, opsOf, callOps, List.cons_append, List.nil_append, List.map_cons] at hC hreps; unfold repAs at hreps; obtain ⟨v, r, e, h1, h2⟩ := hreps; simp only [List.cons.injEq] at e; obtain ⟨e1, e2⟩ := e; unfold altC at hC; split at hC
     · rename_i g caps a9s heq; simp only [List.cons.injEq] at heq; rw [heq.1] at h1; unfold repA repC at h1; obtain ⟨vs, e3, h3⟩ := h1
       cases hf : findL G.r g with
       | none => rw [hf] at hC; cases hC
       | some D =>
         rw [hf] at hC; cases hC; obtain ⟨hok, ⟨fn, hfn, hname, hbody⟩⟩ := hG.r g D hf; have hargs := gA3 (a9s := a9s) (bs := caps.map capA) _ _ (heq.2 ▸ h2) (xA4 _ _ h3); have hcall := hok cx ⟨rfl, rfl⟩ σ N m w fr (a9s ++ caps.map capA) (r ++ vs) h hfr hargs hp; have hrun : (execOp ρ o).run P w = .ok (.enter g (r ++ vs).toArray) w := by
          rw [← e1] at e3; have er : args.map ρ = r.toArray := by rw [← e2, ← Array.toList_map, Array.toArray_toList]
          have hname' : fn.name ≠ "runtime.NumGoroutine" := by simpa using hname
          have hbody' : fn.body ≠ none := by intro hh; rw [hh] at hbody; cases hbody
          simp [execOp, ho, resolve, e3, Deferred.ofValue, er, invoke, callFunc, hfn, hname', hbody']
         rw [hrun]; exact ⟨rfl, hcall⟩
     · cases hC
   | _ => simp [altE] at hC
 | _ => rw [ho] at hC; simp [altE] at hC
end
end Go.Ev

namespace Go.Ev
section
variable {cx : Cx} {σ : Nat → Value} {N : Nat → Prop} {m : Mem} {w : World}
def sub (cx : Cx) (σ : Nat → Value) (m : Mem) (w : World) (S : List Nat) : Cx :=
 ⟨w, fun b => cx.F b ∨ ∃ id, S.contains id = false ∧ own (m id) = true ∧ hb (σ id) b, fun b => ∃ id, S.contains id = true ∧ own (m id) = true ∧ hb (σ id) b, cx.np, cx.arg, cx.mks, cx.tm, cx.D, cx.gv⟩
theorem rB3 (S : List Nat) (b : Nat) : Owned (sub cx σ m w S) σ (restr S m) b ↔ Owned cx σ m b := by
 unfold Owned sub restr; constructor
 · rintro ((h | ⟨id, h1, h2, h3⟩) | ⟨id, h1, h2⟩)
   · exact .inl h
   · exact .inr ⟨id, h2, h3⟩
   · by_cases hs : S.contains id = true
     · rw [if_pos hs] at h1; exact .inr ⟨id, h1, h2⟩
     · rw [if_neg hs] at h1; cases h1
 · rintro (h | ⟨id, h1, h2⟩)
   · exact .inl (.inl h)
   · by_cases hs : S.contains id = true
     · exact .inr ⟨id, by rw [if_pos hs]; exact h1, h2⟩
     · exact .inl (.inr ⟨id, by simpa using hs, h1, h2⟩)
theorem eA8 (S : List Nat) : Rx.Keeps (rx cx σ N m w) (rx (sub cx σ m w S) σ N (restr S m) w) :=
 ⟨.ex fun b _ ho => ⟨fun h => ho ((rB3 S b).1 h), rfl⟩, fun _ _ => rfl, fun _ h => h⟩
theorem RepM.sub (h : RepM cx σ N m w) (S : List Nat) : RepM (sub cx σ m w S) σ N (restr S m) w := by
 have own_r : ∀ id, own (restr S m id) = true → S.contains id = true ∧ own (m id) = true := by
  intro id ho; unfold restr at ho; split at ho
  · rename_i hs; exact ⟨hs, ho⟩
  · cases ho
 refine ⟨fun id => ?_, fun id hn => ?_, fun id id' b ho ho' => ?_, fun id b ho hb => ?_, fun id b ho hb => ?_, ⟨rfl, rfl, rfl, fun _ => Nat.le_refl _, Nat.le_refl _, fun _ _ _ => rfl⟩, fun b hb => ?_, h.hone, h.fix, h.mks, h.gl_next rfl rfl (fun b hb => hb.imp id fun ⟨i, _, h2, h3⟩ => ⟨i, h2, h3⟩) (fun b ⟨i, _, h2, h3⟩ => ⟨i, h2, h3⟩)⟩
 · unfold restr; split
   · by_cases hn : N id
     · rw [h.fresh id hn]; trivial
     · exact rA3 (eA8 S) hn _ (h.blk id) (fun _ _ _ => rfl)
   · trivial
 · unfold restr; split
   · exact h.fresh id hn
   · rfl
 · exact h.inj id id' b (own_r id ho).2 (own_r id' ho').2
 · rintro (hf | ⟨i, h1, h2, h3⟩)
   · exact h.notF id b (own_r id ho).2 hb hf
   · have := h.inj id i b (own_r id ho).2 h2 hb h3; subst this; rw [(own_r id ho).1] at h1; cases h1
 · exact .inr ⟨id, (own_r id ho).1, (own_r id ho).2, hb⟩
 · rcases hb with hf | ⟨id, _, h2, h3⟩
   · exact h.hF b hf
   · exact xA3 (h.blk id) h2 b h3
theorem RepM.glue (h : RepM cx σ N m w) (S : List Nat) {σ' : Nat → Value} {N' : Nat → Prop} {m' : Mem} {w' : World} (h' : RepM (Ev.sub cx σ m w S) σ' N' m' w') (k : Rx.Keeps (rx (Ev.sub cx σ m w S) σ N (restr S m) w) (rx (Ev.sub cx σ m w S) σ' N' m' w'))
 (hm' : ∀ id, S.contains id = false → ¬ N id → m' id = .dead) (M : Mem) (hin : ∀ id, S.contains id = true → M id = m' id) (hnew : ∀ id, N id → M id = m' id) (hout : ∀ id, S.contains id = false → ¬ N id → M id = m id) :
 RepM cx σ' N' M w' ∧ Rx.Keeps (rx cx σ N m w) (rx cx σ' N' M w') ∧ Rx.Keeps (rx (Ev.sub cx σ m w S) σ' N' m' w') (rx cx σ' N' M w') := by
 have hσ : ∀ id, ¬ N id → σ' id = σ id := k.σ; have part : ∀ id, own (M id) = true → (own (m' id) = true ∧ M id = m' id) ∨ (S.contains id = false ∧ ¬ N id ∧ own (m id) = true ∧ M id = m id ∧ σ' id = σ id) := by
  intro id ho; by_cases hn : N id
  · have e := hnew id hn; rw [e] at ho; exact .inl ⟨ho, e⟩
  · by_cases hs : S.contains id = true
    · have e := hin id hs; rw [e] at ho; exact .inl ⟨ho, e⟩
    · have hs' : S.contains id = false := by simpa using hs
      have e := hout id hs' hn; rw [e] at ho; exact .inr ⟨hs', hn, ho, e, hσ id hn⟩
 have old_same : ∀ id b, S.contains id = false → own (m id) = true → hb (σ id) b → w'.heap[b]? = w.heap[b]? := by
  intro id b hs ho hb; refine h'.evo.block b (xA3 (h.blk id) ho b hb) ?_; rintro ⟨i, h1, h2, h3⟩; have := h.inj id i b ho h2 hb h3; subst this; rw [hs] at h1; cases h1
 have hO : ∀ b, Owned cx σ' M b ↔ Owned (Ev.sub cx σ m w S) σ' m' b := by
  intro b; constructor
  · rintro (hf | ⟨id, ho, hb⟩)
    · exact .inl (.inl hf)
    · rcases part id ho with ⟨h1, h2⟩ | ⟨h1, h2, h3, h4, h5⟩
      · exact .inr ⟨id, h1, hb⟩
      · exact .inl (.inr ⟨id, h1, h3, by rw [← h5]; exact hb⟩)
  · rintro ((hf | ⟨id, h1, h2, h3⟩) | ⟨id, ho, hb⟩)
    · exact .inl hf
    · have hn : ¬ N id := fun hn => by rw [h.fresh id hn] at h2; cases h2
      exact .inr ⟨id, by rw [hout id h1 hn]; exact h2, by rw [hσ id hn]; exact h3⟩
    · refine .inr ⟨id, ?_, hb⟩; by_cases hn : N id
      · rw [hnew id hn]; exact ho
      · by_cases hs : S.contains id = true
        · rw [hin id hs]; exact ho
        · rw [hm' id (by simpa using hs) hn] at ho; cases ho
 have k2 : Rx.Keeps (rx (Ev.sub cx σ m w S) σ' N' m' w') (rx cx σ' N' M w') := ⟨.ex fun b _ ho => ⟨fun hh => ho ((hO b).1 hh), rfl⟩, fun _ _ => rfl, fun _ h => h⟩; have kk : Rx.Keeps (rx cx σ N m w) (rx cx σ' N' M w') :=
  ⟨⟨fun b hb ho => by
    obtain ⟨h1, h2⟩ := k.k.blk b hb (fun hh => ho ((rB3 S b).1 hh)); exact ⟨fun hh => h1 ((hO b).1 hh), h2⟩⟩, k.σ, k.N⟩
 refine ⟨⟨fun id => ?_, fun id hn => ?_, fun id id' b ho ho' hb hb' => ?_, fun id b ho hb => ?_, fun id b ho hb => ?_, ?_, fun b hb => ?_, h'.hone, h'.fix, h'.mks, h.gl⟩, kk, k2⟩
 · by_cases hn : N id
   · rw [hnew id hn]; by_cases hn' : N' id
     · rw [h'.fresh id hn']; trivial
     · exact rA3 k2 hn' _ (h'.blk id) (fun _ _ _ => rfl)
   · by_cases hs : S.contains id = true
     · rw [hin id hs]; exact rA3 k2 (fun hh => hn (k.N id hh)) _ (h'.blk id) (fun _ _ _ => rfl)
     · have hs' : S.contains id = false := by simpa using hs
       rw [hout id hs' hn]; exact rA3 kk hn _ (h.blk id) (fun ho b hb => old_same id b hs' ho hb)
 · have hn0 := k.N id hn; rw [hnew id hn0]; exact h'.fresh id hn
 · rcases part id ho with ⟨h1, h2⟩ | ⟨h1, h2, h3, h4, h5⟩ <;> rcases part id' ho' with ⟨g1, g2⟩ | ⟨g1, g2, g3, g4, g5⟩
   · exact h'.inj id id' b h1 g1 hb hb'
   · exact absurd (.inr ⟨id', g1, g3, by rw [← g5]; exact hb'⟩) (h'.notF id b h1 hb)
   · exact absurd (.inr ⟨id, h1, h3, by rw [← h5]; exact hb⟩) (h'.notF id' b g1 hb')
   · exact h.inj id id' b h3 g3 (by rw [← h5]; exact hb) (by rw [← g5]; exact hb')
 · rcases part id ho with ⟨h1, h2⟩ | ⟨h1, h2, h3, h4, h5⟩
   · exact fun hf => h'.notF id b h1 hb (.inl hf)
   · exact h.notF id b h3 (by rw [← h5]; exact hb)
 · rcases part id ho with ⟨h1, h2⟩ | ⟨h1, h2, h3, h4, h5⟩
   · rcases h'.low id b h1 hb with hl | ⟨i, _, hi2, hi3⟩
     · have := h.evo.size; exact .inl (by simp only [Ev.sub] at hl; omega)
     · exact h.low i b hi2 hi3
   · exact h.low id b h3 (by rw [← h5]; exact hb)
 · refine ⟨h'.evo.os.trans h.evo.os, h'.evo.tape.trans h.evo.tape, h'.evo.output.trans h.evo.output, fun d => Nat.le_trans (h.evo.drawn d) (h'.evo.drawn d), Nat.le_trans h.evo.size h'.evo.size, fun b hb hmu => ?_⟩; have hsz := h.evo.size; by_cases hmu' : (Ev.sub cx σ m w S).Mu b
   · obtain ⟨i, _, h2, h3⟩ := hmu'
     rcases h.low i b h2 h3 with h4 | h4
     · omega
     · exact absurd h4 hmu
   · rw [h'.evo.block b (by simp only [Ev.sub]; omega) hmu']; exact h.evo.block b hb hmu
 · exact h'.hF b (.inl hb)
end
end Go.Ev
