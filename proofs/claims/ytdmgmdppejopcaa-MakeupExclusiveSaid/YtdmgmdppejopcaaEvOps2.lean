/- Soundness of the operations that only compute, and of loads. -/
import Derived.Test.YtdmgmdppejopcaaEvOps
namespace Go.Ev

section
variable {cx : Cx} {σ : Nat → Value} {N : Nat → Prop} {m : Mem} {w : World} {P : Program} {T : Tab} {G : Env} {o : Oper} {fr : Nat} {ρ : Operand → Value} {av : Operand → AV}

theorem runs_value {K : Value → World → Prop} {r : Result Next} {v : Value} {w' : World} (e : r = .ok (.value v) w') (h : K v w') : Runs P w K r := by rw [e]; exact h
theorem runs_skip {K : Value → World → Prop} {r : Result Next} {w' : World} (e : r = .ok .skip w') (h : K undef w') : Runs P w K r := by rw [e]; exact h

theorem bool_of {x : Rx} {b : Bool} {v : Value} (h : repA x (.one (.bool b)) v) : v = .bool b := of_bool h

theorem pickV_ok {x : Rx} {a : AV} {v : Value} {c b : Bool} (h : pickV a = some (c, b)) (hr : repA x a v) (hc : c = true) : v = .bool b := by
  unfold pickV at h
  split at h
  · cases h; exact of_bool hr
  · cases h
    unfold repA at hr
    exact of_bool (hr.1 hc)
  · cases h
theorem s_pick (h : RepM cx σ N m w) {c a b : Operand} (ho : o.op = .pick c a b) (hc : repA (rx cx σ N m w) (av c) (ρ c)) (ha : repA (rx cx σ N m w) (av a) (ρ a)) (hb : repA (rx cx σ N m w) (av b) (ρ b))
    (hp : (opEff T G o [av c, av a, av b] m fr).pre) : Runs P w (Res cx σ N m w fr (opEff T G o [av c, av a, av b] m fr)) ((execOp ρ o).run P w) := by
  simp only [opEff, ho] at hp ⊢
  cases h1 : pickV (av c) with
  | none => rw [h1] at hp; exact hp.elim
  | some p1 =>
    cases h2 : pickV (av a) with
    | none => rw [h1, h2] at hp; exact hp.elim
    | some p2 =>
      cases h3 : pickV (av b) with
      | none => rw [h1, h2, h3] at hp; exact hp.elim
      | some p3 =>
        obtain ⟨ce, e⟩ := p1
        obtain ⟨cx', x⟩ := p2
        obtain ⟨cy, y⟩ := p3
        rw [h1, h2, h3] at hp
        obtain ⟨k1, k2, k3⟩ := hp
        have e1 := pickV_ok h1 hc k1
        refine runs_value (v := .bool (if e then x else y)) (w' := w) ?_ (Res.pure h rfl (repA_bool _) trivial)
        cases e with
        | true =>
          have e2 := pickV_ok h2 ha (k2 rfl)
          simp [execOp, ho, e1, e2, asBool]
        | false =>
          have e3 := pickV_ok h3 hb (k3 rfl)
          simp [execOp, ho, e1, e3, asBool]

theorem bytes_eq (a b : ByteArray) : (a.toList == b.toList) = decide (a = b) := by
  by_cases e : a = b
  · subst e; simp
  · have : a.toList ≠ b.toList := fun k => e (by
      rw [ByteArray.toList_eq, ByteArray.toList_eq] at k
      exact WideShapes.bytes_inj k)
    simp [e, this]

theorem s_bin (h : RepM cx σ N m w) {op : BinOp} {t u : TypeId} {x y : Operand} (ho : o.op = .binOp op t x y u) {c d : C1} (hx : repA (rx cx σ N m w) (.one c) (ρ x)) (hy : repA (rx cx σ N m w) (.one d) (ρ y))
    (hT : P.underlying t = some .bool ∨ ∀ a b, ¬ (c = .bool a ∧ d = .bool b))
    (hp : (binE op c d).pre) : Runs P w (Res cx σ N m w fr (binE op c d)) ((execOp ρ o).run P w) := by
  have hrun : ∀ v, (binOp op t (ρ x) (ρ y)).run P w = .ok v w → (eqGuard op t x y (ρ x) (ρ y)).run P w = .ok () w → (execOp ρ o).run P w = .ok (.value v) w := by
    intro v h1 h2
    simp [execOp, ho, h1, h2]
  unfold binE at hp ⊢
  split at hp
  · rename_i k a k' b
    obtain ⟨e1, r1⟩ := of_int hx
    obtain ⟨e2, r2⟩ := of_int hy
    split at hp
    · rename_i hk
      subst hk
      have hg : (eqGuard op t x y (ρ x) (ρ y)).run P w = .ok () w := by rw [e1, e2]; unfold eqGuard; cases op <;> simp
      simp only [if_true]
      cases op <;> simp only at hp ⊢ <;> first
        | exact hp.elim
        | (refine runs_value (hrun (.int k _) ?_ hg) (res_in h fr k _ _ (IntKind.wrap_inR k _)); rw [e1, e2]; simp [binOp, Op.intBits, andV]; done)
        | (refine runs_value (hrun (.int k _) ?_ hg) (res_in h fr k _ _ (by first | exact hp | exact hp.2)); rw [e1, e2]; simp only [binOp, ne_eq, not_true_eq_false, if_false, Op.intArith, Sem.run_pure]; rw [IntKind.wrap_in hp])
        | (refine runs_value (hrun (.int k _) ?_ hg) (res_in h fr k _ _ hp.2); rw [e1, e2]; simp [binOp, Op.intDiv, hp.1, IntKind.wrap_in hp.2])
        | (refine runs_value (hrun (.bool _) ?_ hg) (res_bool h fr _); rw [e1, e2]; simp [binOp, Op.intCmp]; done)
        | (refine runs_value (hrun (.bool _) ?_ hg) (res_bool h fr _); rw [e1, e2]; simp only [binOp, Op.intCmp]; by_cases hab : a = b <;> simp [hab])
    · exact hp.elim
  · rename_i a b
    have e1 := of_bool hx
    have e2 := of_bool hy
    have hT' : P.underlying t = some .bool := hT.resolve_right fun k => k a b ⟨rfl, rfl⟩
    have hg : (eqGuard op t x y (ρ x) (ρ y)).run P w = .ok () w := by rw [e1, e2]; unfold eqGuard; cases op <;> simp
    cases op <;> simp only at hp ⊢ <;> first
      | exact hp.elim
      | (refine runs_value (hrun (.bool _) ?_ hg) (res_bool h fr _); rw [e1, e2]; first | rw [run_eql_bool w t a b hT'] | rw [run_neq_bool w t a b hT']); cases a <;> cases b <;> rfl
  · rename_i a b
    obtain ⟨e1, _⟩ := of_str hx
    obtain ⟨e2, _⟩ := of_str hy
    have hg : (eqGuard op t x y (ρ x) (ρ y)).run P w = .ok () w := by rw [e1, e2]; unfold eqGuard; cases op <;> simp
    cases op <;> simp only at hp ⊢ <;> first
      | exact hp.elim
      | (refine runs_value (hrun (.bool _) ?_ hg) (res_bool h fr _); rw [e1, e2]; simp only [binOp, Op.stringOp, Sem.run_pure, bytes_eq, strLt]; done)
      | (refine runs_value (hrun (.bool _) ?_ hg) (res_bool h fr _); rw [e1, e2]; simp only [binOp, Op.stringOp, Sem.run_pure, bytes_eq]; by_cases hab : a = b <;> simp [hab])
  · exact hp.elim

theorem s_not (h : RepM cx σ N m w) {t : TypeId} {x : Operand} (ho : o.op = .unOp .not t x) (hx : repA (rx cx σ N m w) (av x) (ρ x))
    (hp : (opEff T G o [av x] m fr).pre) : Runs P w (Res cx σ N m w fr (opEff T G o [av x] m fr)) ((execOp ρ o).run P w) := by
  simp only [opEff, ho] at hp ⊢
  split at hp <;> rename_i heq
  · rename_i b
    simp at heq
    rw [heq] at hx
    have e := of_bool hx
    exact runs_value (v := .bool (!b)) (w' := w) (by simp [execOp, ho, e, Op.unary]) (okr_res h (repA_bool _))
  · exact hp.elim

theorem s_neg (h : RepM cx σ N m w) {t : TypeId} {x : Operand} (ho : o.op = .unOp .neg t x) (hx : repA (rx cx σ N m w) (av x) (ρ x))
    (hp : (opEff T G o [av x] m fr).pre) : Runs P w (Res cx σ N m w fr (opEff T G o [av x] m fr)) ((execOp ρ o).run P w) := by
  simp only [opEff, ho] at hp ⊢
  split at hp <;> rename_i heq
  · rename_i k n
    simp at heq
    rw [heq] at hx
    obtain ⟨e, _⟩ := of_int hx
    refine runs_value (v := .int k (-n)) (w' := w) ?_ (res_in h fr k _ _ hp)
    simp [execOp, ho, e, Op.unary, Op.intArith, IntKind.wrap_in hp]
  · exact hp.elim

theorem repAs_get {x : Rx} : ∀ (as : List AV) (vs : List Value), repAs x as vs → ∀ (i : Nat) (a : AV), as[i]? = some a → ∃ v, vs[i]? = some v ∧ repA x a v
  | [], _, _, i, a, hi => by simp at hi
  | a :: as, vs, h, i, b, hi => by
    unfold repAs at h
    obtain ⟨v, r, rfl, h1, h2⟩ := h
    cases i with
    | zero => simp at hi; subst hi; exact ⟨v, rfl, h1⟩
    | succ i => simpa using repAs_get as r h2 i b (by simpa using hi)

theorem s_extract (h : RepM cx σ N m w) {x : Operand} {i : Nat} (ho : o.op = .extract x i) (hx : repA (rx cx σ N m w) (av x) (ρ x))
    (hp : (opEff T G o [av x] m fr).pre) : Runs P w (Res cx σ N m w fr (opEff T G o [av x] m fr)) ((execOp ρ o).run P w) := by
  simp only [opEff, ho] at hp ⊢
  split at hp <;> rename_i heq
  · rename_i vs
    simp at heq
    rw [heq] at hx
    unfold repA at hx
    obtain ⟨us, e, hus⟩ := hx
    cases hv : vs[i]? with
    | none => rw [hv] at hp; exact hp.elim
    | some a =>
      obtain ⟨v, h1, h2⟩ := repAs_get _ _ hus i a hv
      exact runs_value (v := v) (w' := w) (by simp [execOp, ho, e, Instr.extract, h1]) (okr_res h h2)
  · exact hp.elim

theorem s_nilCheck (h : RepM cx σ N m w) {x : Operand} (ho : o.op = .nilCheck x) (hx : repA (rx cx σ N m w) (av x) (ρ x))
    (hp : (opEff T G o [av x] m fr).pre) : Runs P w (Res cx σ N m w fr (opEff T G o [av x] m fr)) ((execOp ρ o).run P w) := by
  simp only [opEff, ho] at hp ⊢
  split at hp <;> rename_i heq
  · simp at heq
    rw [heq] at hx
    have hx' := hx
    unfold repA repC at hx'
    obtain ⟨_, b, _, e⟩ := hx'
    exact runs_value (v := ρ x) (w' := w) (by simp [execOp, ho, e]) (okr_res h hx)
  · simp at heq
    rw [heq] at hx
    have hx' := hx
    unfold repA repC at hx'
    obtain ⟨b, _, _, e, _⟩ := hx'
    exact runs_value (v := ρ x) (w' := w) (by simp [execOp, ho, e]) (okr_res h hx)
  · simp at heq
    rw [heq] at hx
    have hx' := hx
    unfold repA repC at hx'
    obtain ⟨_, b, _, _, _, e⟩ := hx'
    exact runs_value (v := ρ x) (w' := w) (by simp [execOp, ho, e]) (okr_res h hx)
  · exact hp.elim

/-! ### loads -/

theorem run_isAgg {t : TypeId} {d : TypeDesc} (hd : P.underlying t = some d) : (isAgg t).run P w = .ok (aggB d) w := by
  unfold isAgg
  rw [Sem.run_bind, run_underlying hd w]
  cases d <;> simp [aggB]

theorem run_sizeOf {t : TypeId} {i : TypeInfo} (hi : P.info? t = some i) : (sizeOf t).run P w = .ok i.size w := by
  simp [sizeOf, typeInfo, hi]

/-- A variable, read: its cells. -/
theorem run_loadVar_cells {t : TypeId} {ti : TI} (ht : TIok P t ti) {b o : Nat} {vs : List Value} (hl : vs.length = ti.size) (hc : ∀ j u, vs[j]? = some u → w.cell? ⟨b, o + j, none⟩ = some u) :
    (loadVar t ⟨b, o, none⟩).run P w = .ok (if ti.agg then .agg vs.toArray else vs.getD 0 undef) w := by
  obtain ⟨i, hi, hs, _⟩ := ht.info
  obtain ⟨d, hd, ha⟩ := ht.agg
  unfold loadVar
  rw [Sem.run_bind, run_isAgg hd, ha, Result.andThen_ok]
  cases hag : ti.agg with
  | true =>
    have hlc := run_loadCells_list (P := P) w ⟨b, o, none⟩ vs (fun j v hv => by rw [add_none]; exact hc j v hv)
    rw [hl, ← hs] at hlc
    simp [run_sizeOf hi, hlc]
  | false =>
    have h1 := ht.one hag
    match vs, hl with
    | [v], _ =>
      have := hc 0 v rfl
      simp only [Nat.add_zero] at this
      simp [this]
    | [], hl => simp [h1] at hl
    | _ :: _ :: _, hl => simp [h1] at hl

theorem avOf_rep {x : Rx} {ag : Bool} {cs : List C1} {vs : List Value} (h : repCs x cs vs) (h1 : ag = false → cs.length = 1) :
    repA x (avOf ag cs) (if ag then .agg vs.toArray else vs.getD 0 undef) := by
  unfold avOf
  cases ag with
  | true => simp only [if_true]; unfold repA; exact ⟨vs, rfl, h⟩
  | false =>
    match cs, h1 rfl with
    | [c], _ =>
      obtain ⟨v, r, rfl, h2, h3⟩ := repCs_cons.1 h
      simp only [Bool.false_eq_true, if_false, List.getD_cons_zero]
      unfold repA; exact h2

theorem TI_ne {ti : TI} (h : ti.size ≠ 0) : ti ≠ TI.none := fun e => h (by rw [e]; rfl)

theorem cell_at {vs : List Value} {b : Nat} {e : TypeId} (hb : w.heap[b]? = some (.cells vs.toArray e (0, 0))) (j : Nat) : w.cell? ⟨b, j, none⟩ = vs[j]? := by
  rw [cell_of_row w b j _ e (0, 0) hb]; simp

/-- An element of a row that the call owns. -/
theorem row_elem (h : RepM cx σ N m w) {id : Nat} {e : TypeId} {u : Ty} {xs : List u.den} (hm : m id = .row e u xs) {b n c : Nat} (hσ : σ id = .slice (some ⟨b, 0, none⟩) n c) {i : Nat} (hi : i < xs.length) :
    ∃ vs, ro w (Owned cx σ m) u xs[i] vs ∧ ∀ j v, vs[j]? = some v → w.cell? ⟨b, i * u.n + j, none⟩ = some v := by
  have hb := h.blk id
  rw [hm] at hb
  obtain ⟨a, cap, flat, e1, e2, e3, e4, e5⟩ := row_read hb
  rw [hσ] at e1
  simp only [Value.slice.injEq] at e1
  obtain ⟨rfl, rfl, rfl⟩ := e1
  rcases e5 with ⟨_, rfl, _⟩ | ⟨g, e6, _, e7⟩
  · cases hi
  · simp only [Option.some.injEq, Addr.mk.injEq, and_true] at e6
    subst e6
    obtain ⟨pre, vs, post, he, hl, hr, _, _⟩ := roAll_at (fun x c => ro_len u x c) e4 hi
    refine ⟨vs, hr, fun j v hv => e7 _ v ?_⟩
    have hj := (List.getElem?_eq_some_iff.1 hv).1
    rw [he, List.getElem?_append_right (by omega), hl, Nat.add_sub_cancel_left, List.getElem?_append_left hj]
    exact hv

theorem settled_elem (h : RepM cx σ N m w) {id : Nat} {u : Ty} {xs : List u.den} (hm : m id = .settled u xs) {b o n c : Nat} (hσ : σ id = .slice (some ⟨b, o, none⟩) n c) {i : Nat} (hi : i < xs.length) :
    ∃ vs, ro w (Owned cx σ m) u xs[i] vs ∧ CellsAt w (Owned cx σ m) b (o + i * u.n) vs := by
  have hb := h.blk id
  rw [hm] at hb
  obtain ⟨a, len, cap, e, h2, h3, h4, h5⟩ := hb
  simp [rx, hσ] at e
  rcases h5 with h7 | ⟨b', o', flat, h6, h7, h8⟩
  · rw [h7] at h3; rw [h2] at h3; omega
  · obtain ⟨e1, e2⟩ : b = b' ∧ o = o' := by rw [h6] at e; simp at e; exact e.1
    subst e1; subst e2
    obtain ⟨pre, vs, post, he, hl, hr, _, _⟩ := roAll_at (fun x c => ro_len u x c) h7 hi
    refine ⟨vs, hr, fun j v hv => ?_⟩
    have := h8 (i * u.n + j) v (by
      rw [he, List.getElem?_append_right (by omega), hl, show i * u.n + j - i * u.n = j by omega]
      have hj : j < vs.length := (List.getElem?_eq_some_iff.1 hv).1
      rw [List.getElem?_append_left hj]; exact hv)
    rwa [← Nat.add_assoc] at this

theorem getD_eq {α : Type} (xs : List α) (i : Nat) (d : α) (h : i < xs.length) : xs.getD i d = xs[i] := by simp [List.getD, h]

theorem load_core (h : RepM cx σ N m w) {t : TypeId} {x : Operand} (ho : o.op = .load t x) (ht : TabOK P T) {c : C1} (hx : repC (rx cx σ N m w) c (ρ x))
    (hp : (loadE m (TI.of T t) c).pre) : Runs P w (Res cx σ N m w fr (loadE m (TI.of T t) c)) ((execOp ρ o).run P w) := by
  generalize hti : TI.of T t = ti at *
  have hrun : ∀ (b q : Nat) (vs : List Value), 0 < ti.size → ρ x = .pointer (some ⟨b, q, none⟩) → vs.length = ti.size → (∀ j u, vs[j]? = some u → w.cell? ⟨b, q + j, none⟩ = some u) →
      (execOp ρ o).run P w = .ok (.value (if ti.agg then .agg vs.toArray else vs.getD 0 undef)) w := by
    intro b q vs hne e1 e2 e3
    have := run_loadVar_cells (P := P) (w := w) (hti ▸ TI.of_ok ht t (hti.symm ▸ TI_ne (by omega))) e2 e3
    simp [execOp, ho, Instr.loadAt, Instr.sureAddr, e1, this]
  have hone : 0 < ti.size → ti.agg = false → ti.size = 1 := fun hne => (hti ▸ TI.of_ok ht t (hti.symm ▸ TI_ne (by omega))).one
  have elem : ∀ (u : Ty) (y : u.den) (vs : List Value) (b q off : Nat) (p : Prop), 0 < ti.size → off + ti.size ≤ u.n → ρ x = .pointer (some ⟨b, q + off, none⟩) → ro w (Owned cx σ m) u y vs →
      (∀ j v, vs[j]? = some v → w.cell? ⟨b, q + j, none⟩ = some v) →
      Runs P w (Res cx σ N m w fr ⟨p, avOf ti.agg (((expl u y).drop off).take ti.size), [], Wf u y⟩) ((execOp ρ o).run P w) := by
    intro u y vs b q off p hpos hle e1 hr hca
    have hlen := ro_len u y vs hr
    have hcs := expl_rep (x := rx cx σ N m w) u y vs hr
    have hd := repCs_take ti.size _ _ (repCs_drop off _ _ hcs)
    refine runs_value (hrun b (q + off) ((vs.drop off).take ti.size) hpos e1 (by simp; omega) (fun j v hv => ?_)) (Res.pure h rfl (avOf_rep hd (fun hg => by simp [expl_len]; have := hone hpos hg; omega)) (ro_wf u y vs hr))
    rw [List.getElem?_take] at hv
    split at hv
    · rw [List.getElem?_drop] at hv
      rw [Nat.add_assoc]; exact hca _ _ hv
    · cases hv
  unfold loadE at hp ⊢
  split at hp
  · rename_i id off
    split at hp
    · rename_i e cs hm
      try simp only [hm]
      split at hp
      · rename_i hle
        simp only [hle, and_self, if_true]
        unfold repC at hx
        obtain ⟨hn, b, e1, e2⟩ := hx
        have hb := h.blk id
        rw [hm] at hb
        obtain ⟨b', vs, e3, e4, hcs, h1⟩ := hb
        simp only [rx] at e1 e3 e4
        rw [e1] at e3; simp at e3; subst e3
        have hlen := repCs_len _ _ hcs
        have hd := repCs_take ti.size _ _ (repCs_drop off _ _ hcs)
        refine runs_value (hrun b off ((vs.drop off).take ti.size) hle.1 e2 (by simp; omega) (fun j u hu => ?_)) (okr_res h (avOf_rep hd (fun hg => by simp; have := hone hle.1 hg; omega)))
        rw [cell_at e4]
        rw [List.getElem?_take] at hu
        split at hu
        · rwa [List.getElem?_drop] at hu
        · cases hu
      · exact hp.elim
    · exact hp.elim
  · rename_i u y off
    split at hp
    · rename_i hle
      simp only [hle, and_self, if_true]
      unfold repC at hx
      obtain ⟨b, q, vs, e1, hr, hca⟩ := hx
      exact elem u y vs b q off True hle.1 hle.2 e1 hr (fun j v hv => (hca j v hv).2)
    · exact hp.elim
  · rename_i id sz i off
    unfold repC at hx
    obtain ⟨hn, b, n, c, e1, e2⟩ := hx
    simp only [rx] at e1
    split at hp
    · rename_i e u xs hm
      try simp only [hm]
      split at hp
      · rename_i hle
        obtain ⟨h1, h2, rfl⟩ := hle
        obtain ⟨hi0, hi1⟩ := hp
        have hi : i.toNat < xs.length := by omega
        obtain ⟨vs, hr, hca⟩ := row_elem h hm e1 hi
        simp only [h1, h2, and_self, if_true]
        rw [getD_eq xs i.toNat u.dflt hi]
        exact elem u _ vs b (i.toNat * u.n) off _ h1 h2 e2 hr hca
      · exact hp.elim
    · rename_i u xs hm
      try simp only [hm]
      split at hp
      · rename_i hle
        obtain ⟨h1, h2, rfl⟩ := hle
        obtain ⟨hi0, hi1⟩ := hp
        have hi : i.toNat < xs.length := by omega
        obtain ⟨vs, hr, hca⟩ := settled_elem h hm e1 hi
        simp only [h1, h2, and_self, if_true]
        rw [getD_eq xs i.toNat u.dflt hi]
        refine elem u _ vs b (i.toNat * u.n) off _ h1 h2 e2 hr (fun j v hv => ?_)
        have := (hca j v hv).2
        rwa [Nat.zero_add] at this
      · exact hp.elim
    · exact hp.elim
  · exact hp.elim

theorem s_load (h : RepM cx σ N m w) {t : TypeId} {x : Operand} (ho : o.op = .load t x) (ht : TabOK P T) (hx : repA (rx cx σ N m w) (av x) (ρ x))
    (hp : (opEff T G o [av x] m fr).pre) : Runs P w (Res cx σ N m w fr (opEff T G o [av x] m fr)) ((execOp ρ o).run P w) := by
  simp only [opEff, ho] at hp ⊢
  split at hp <;> rename_i heq
  · rename_i c
    simp at heq
    rw [heq] at hx
    unfold repA at hx
    exact load_core h ho ht hx hp
  · exact hp.elim

end
end Go.Ev
