/- Soundness of the operations on maps. -/
import Derived.Test.YtdmgmdppejopcaaEvOps8
set_option linter.unusedSimpArgs false
set_option linter.unusedVariables false
namespace Go.Ev

section
variable {cx : Cx} {σ : Nat → Value} {N : Nat → Prop} {m : Mem} {w : World} {P : Program} {T : Tab} {G : Env} {o : Oper} {fr : Nat} {ρ : Operand → Value} {av : Operand → AV}

/-! ### keys -/

theorem eqCells_append : ∀ (k1 k2 : List CK) (cs ds cs' ds' : List C1) (q q' : Bool), eqCells k1 cs ds = some q → eqCells k2 cs' ds' = some q' → eqCells (k1 ++ k2) (cs ++ cs') (ds ++ ds') = some (q && q')
  | [], k2, cs, ds, cs', ds', q, q', h, h' => by
    match cs, ds, h with
    | [], [], h => simp [eqCells] at h; subst h; simpa using h'
  | .i kk :: k1, k2, cs, ds, cs', ds', q, q', h, h' => by
    match cs, ds, h with
    | .int a x :: cs, .int b y :: ds, h =>
      simp only [eqCells] at h
      split at h
      · rename_i hk
        obtain ⟨q0, hq, rfl⟩ := Option.map_eq_some_iff.1 h
        have := eqCells_append k1 k2 cs ds cs' ds' q0 q' hq h'
        simp [eqCells, hk, this, Bool.and_assoc]
      · cases h
  | .b :: k1, k2, cs, ds, cs', ds', q, q', h, h' => by
    match cs, ds, h with
    | .bool x :: cs, .bool y :: ds, h =>
      simp only [eqCells] at h
      obtain ⟨q0, hq, rfl⟩ := Option.map_eq_some_iff.1 h
      have := eqCells_append k1 k2 cs ds cs' ds' q0 q' hq h'
      simp [eqCells, this, Bool.and_assoc]
  | .s :: k1, k2, cs, ds, cs', ds', q, q', h, h' => by
    match cs, ds, h with
    | .str x :: cs, .str y :: ds, h =>
      simp only [eqCells] at h
      obtain ⟨q0, hq, rfl⟩ := Option.map_eq_some_iff.1 h
      have := eqCells_append k1 k2 cs ds cs' ds' q0 q' hq h'
      simp [eqCells, this, Bool.and_assoc]

theorem kinds_eq : ∀ (t : Ty) (ks : List CK), kindsOf t = some ks → ∀ a b : t.den, eqCells ks (expl t a) (expl t b) = some (keyEq t a b)
  | .int k, ks, h, a, b => by simp [kindsOf] at h; subst h; simp [expl, eqCells, keyEq]
  | .bool, ks, h, a, b => by simp [kindsOf] at h; subst h; simp [expl, eqCells, keyEq]
  | .str, ks, h, a, b => by simp [kindsOf] at h; subst h; simp [expl, eqCells, keyEq]
  | .unit, ks, h, a, b => by simp [kindsOf] at h; subst h; simp [expl, eqCells, keyEq]
  | .sl t, ks, h, a, b => by simp [kindsOf] at h
  | .pair x y, ks, h, a, b => by
    rw [kindsOf] at h
    split at h
    · rename_i k1 k2 h1 h2
      simp at h; subst h
      exact eqCells_append _ _ _ _ _ _ _ _ (kinds_eq x k1 h1 a.1 b.1) (kinds_eq y k2 h2 a.2 b.2)
    · cases h

theorem keyEq_eq : ∀ (t : Ty) (ks : List CK), kindsOf t = some ks → ∀ a b : t.den, keyEq t a b = true → a = b
  | .int k, ks, h, a, b, e => by simpa [keyEq] using e
  | .bool, ks, h, a, b, e => by simpa [keyEq] using e
  | .str, ks, h, a, b, e => by simpa [keyEq] using e
  | .unit, ks, h, a, b, e => rfl
  | .sl t, ks, h, a, b, e => by simp [kindsOf] at h
  | .pair x y, ks, h, a, b, e => by
    rw [kindsOf] at h
    split at h
    · rename_i k1 k2 h1 h2
      simp only [keyEq, Bool.and_eq_true] at e
      exact Prod.ext (keyEq_eq x k1 h1 _ _ e.1) (keyEq_eq y k2 h2 _ _ e.2)
    · cases h

/-- A key's cells are known by the key. -/
theorem ro_det {w : World} {O : Nat → Prop} : ∀ (t : Ty) (ks : List CK), kindsOf t = some ks → ∀ (a : t.den) (xs ys : List Value), ro w O t a xs → ro w O t a ys → xs = ys
  | .int k, ks, h, a, xs, ys, h1, h2 => by rw [h1.1, h2.1]
  | .bool, ks, h, a, xs, ys, h1, h2 => by rw [show _ = _ from h1, show _ = _ from h2]
  | .str, ks, h, a, xs, ys, h1, h2 => by rw [h1.1, h2.1]
  | .unit, ks, h, a, xs, ys, h1, h2 => by rw [show _ = _ from h1, show _ = _ from h2]
  | .sl t, ks, h, a, xs, ys, h1, h2 => by simp [kindsOf] at h
  | .pair x y, ks, h, a, xs, ys, ⟨c, d, e, h1, h2⟩, ⟨c', d', e', h1', h2'⟩ => by
    rw [kindsOf] at h
    split at h
    · rename_i k1 k2 g1 g2
      rw [e, e', ro_det x k1 g1 a.1 c c' h1 h1', ro_det y k2 g2 a.2 d d' h2 h2']
    · cases h

theorem ro_scalars {w : World} {O : Nat → Prop} : ∀ (t : Ty) (ks : List CK), kindsOf t = some ks → ∀ (a : t.den) (xs : List Value), ro w O t a xs → ∀ v ∈ xs, (∃ k n, v = .int k n) ∨ (∃ b, v = .bool b) ∨ ∃ s, v = .string s
  | .int k, ks, h, a, xs, h1, v, hv => by rw [h1.1] at hv; simp at hv; exact .inl ⟨_, _, hv⟩
  | .bool, ks, h, a, xs, h1, v, hv => by rw [show _ = _ from h1] at hv; simp at hv; exact .inr (.inl ⟨_, hv⟩)
  | .str, ks, h, a, xs, h1, v, hv => by rw [h1.1] at hv; simp at hv; exact .inr (.inr ⟨_, hv⟩)
  | .unit, ks, h, a, xs, h1, v, hv => by rw [show _ = _ from h1] at hv; simp at hv
  | .sl t, ks, h, a, xs, h1, v, hv => by simp [kindsOf] at h
  | .pair x y, ks, h, a, xs, ⟨c, d, e, h1, h2⟩, v, hv => by
    rw [kindsOf] at h
    split at h
    · rename_i k1 k2 g1 g2
      rw [e, List.mem_append] at hv
      exact hv.elim (ro_scalars x k1 g1 a.1 c h1 v) (ro_scalars y k2 g2 a.2 d h2 v)
    · cases h

theorem sameBits_self {v : Value} (h : (∃ k n, v = .int k n) ∨ (∃ b, v = .bool b) ∨ ∃ s, v = .string s) (n : Nat) : Instr.sameBits n v v = true := by
  rcases h with ⟨k, q, rfl⟩ | ⟨b, rfl⟩ | ⟨s, rfl⟩ <;> cases n <;> simp [Instr.sameBits, beq_toListBytes]

theorem sameBits_agg {vs : List Value} (h : ∀ v ∈ vs, (∃ k n, v = .int k n) ∨ (∃ b, v = .bool b) ∨ ∃ s, v = .string s) (n : Nat) : Instr.sameBits (n + 1) (.agg vs.toArray) (.agg vs.toArray) = true := by
  simp only [Instr.sameBits, beq_self_eq_true, Bool.true_and, List.toList_toArray, List.all_eq_true]
  intro p hp
  obtain ⟨i, hi, e⟩ := List.mem_iff_getElem.1 hp
  have : p.1 = p.2 ∧ p.1 ∈ vs := by
    rw [← e, List.getElem_zip]
    exact ⟨rfl, List.getElem_mem _⟩
  obtain ⟨a, b⟩ := p
  simp at this
  rw [← this.1]
  exact sameBits_self (h a this.2) n

/-! ### checkKey -/

theorem checkKey_fields {f : TypeId → Option (List CK)} {em : Bool} {n : Nat} {x : Rx}
    (hf : ∀ t ks, f t = some ks → (∃ i dd, P.info? t = some i ∧ i.size = ks.length ∧ P.underlying t = some dd ∧ (aggB dd = false → i.size = 1)) ∧
      ∀ cs xs q, eqCells ks cs cs = some q → repCs x cs xs → (Instr.checkKey em n t (mkV (isAggB P t) xs)).run P w = .ok () w) :
    ∀ (fs : List Field) (off : Nat) (ks : List CK), eqTB.eqFs f fs off = some ks → ∀ (pre xs : List Value) (cs : List C1) (q : Bool), pre.length = off → eqCells ks cs cs = some q → repCs x cs xs →
      (forIn fs PUnit.unit fun fd _ => (if fd.name ≠ "_" then (part fd.type (pre ++ xs).toArray fd.offset >>= fun a => Instr.checkKey em n fd.type a >>= fun _ => pure (ForInStep.yield PUnit.unit)) else pure (ForInStep.yield PUnit.unit) : Sem (ForInStep PUnit)) : Sem PUnit).run P w = .ok () w
  | [], off, ks, h, pre, xs, cs, q, _, _, _ => by simp
  | fd :: fs, off, ks, h, pre, xs, cs, q, hl, hq, hr => by
    rw [eqTB.eqFs] at h
    split at h
    · rename_i hc
      obtain ⟨c1, c2⟩ := hc
      split at h
      · rename_i kx hkx
        obtain ⟨ks', hks', rfl⟩ := Option.map_eq_some_iff.1 h
        obtain ⟨⟨i, dd, hi, hs, hu, h1⟩, hck⟩ := hf _ _ hkx
        obtain ⟨q1, q2, hq1, hq2, rfl⟩ := eqCells_split _ _ _ _ _ hq
        have hxl := repCs_len _ _ hr
        obtain ⟨e1, _⟩ := eqCells_len _ _ _ _ hq
        simp only [List.length_append] at e1
        have hag : isAggB P fd.type = aggB dd := by simp [isAggB, hu]
        have hp1 : (part fd.type (pre ++ xs).toArray fd.offset).run P w = .ok (mkV (isAggB P fd.type) (xs.take kx.length)) w := by
          rw [run_part hi hu h1 (pre ++ xs) fd.offset (by simp; omega) (fun hh => by have := h1 hh; simp; omega), hag, hs, c2, ← hl, List.drop_left]
          rfl
        have hck' := hck _ _ _ hq1 (repCs_take kx.length _ _ hr)
        have ih := checkKey_fields hf fs (off + kx.length) ks' hks' (pre ++ xs.take kx.length) (xs.drop kx.length) _ q2 (by simp; omega) hq2 (repCs_drop _ _ _ hr)
        rw [List.append_assoc, List.take_append_drop] at ih
        simp only [List.forIn_cons, c1, ne_eq, not_false_eq_true, if_true, Sem.run_bind, hp1, hck', Result.andThen_ok, Sem.run_pure]
        exact ih
      · cases h
    · cases h

theorem checkKey_sound {x : Rx} {em : Bool} : ∀ (d : Nat) (t : TypeId) (ks : List CK), eqTB P d t = some ks → ∀ D, d ≤ D → ∀ cs xs q, eqCells ks cs cs = some q → repCs x cs xs →
    (Instr.checkKey em D t (mkV (isAggB P t) xs)).run P w = .ok () w
  | 0, t, ks, h, _, _, _, _, _, _, _ => by simp [eqTB] at h
  | d + 1, t, ks, h, D, hD, cs, xs, q, hq, hr => by
    obtain ⟨D', rfl⟩ : ∃ D', D = D' + 1 := ⟨D - 1, by omega⟩
    rw [eqTB] at h
    split at h
    · rename_i k e1 e2
      simp at h; subst h
      unfold Instr.checkKey
      have : isAggB P t = false := by simp [isAggB, e1, aggB]
      obtain ⟨a, b, rfl, _, _⟩ := eqCells_i hq
      obtain ⟨v, r, rfl, h1, h2⟩ := repCs_cons.1 hr
      unfold repC at h1
      simp [run_underlying e1, this, mkV, h1.1]
    · rename_i e1 e2
      simp at h; subst h
      unfold Instr.checkKey
      have : isAggB P t = false := by simp [isAggB, e1, aggB]
      obtain ⟨a, b, rfl, _, _⟩ := eqCells_b hq
      obtain ⟨v, r, rfl, h1, h2⟩ := repCs_cons.1 hr
      unfold repC at h1
      simp [run_underlying e1, this, mkV, h1]
    · rename_i e1 e2
      simp at h; subst h
      unfold Instr.checkKey
      have : isAggB P t = false := by simp [isAggB, e1, aggB]
      obtain ⟨a, b, rfl, _, _⟩ := eqCells_s hq
      obtain ⟨v, r, rfl, h1, h2⟩ := repCs_cons.1 hr
      unfold repC at h1
      simp [run_underlying e1, this, mkV, h1.1]
    · rename_i fs n e1 e2
      split at h
      · cases h
      · split at h
        · rename_i ks' hk
          split at h
          · simp at h; subst h
            have : isAggB P t = true := by simp [isAggB, e1, aggB]
            rw [this]
            show (Instr.checkKey em (D' + 1) t (.agg xs.toArray)).run P w = _
            unfold Instr.checkKey
            simp only [Sem.run_bind, run_underlying e1, Result.andThen_ok]
            rw [← Array.forIn_toList]
            have := checkKey_fields (P := P) (w := w) (x := x) (em := em) (n := D') (f := eqTB P d) (fun t ks hk => ⟨eqTB_size d t ks hk, fun cs xs q hq hr => checkKey_sound d t ks hk D' (by omega) cs xs q hq hr⟩) fs.toList 0 ks' hk [] xs cs q rfl hq hr
            simp only [List.nil_append] at this
            rw [this]
            rfl
          · cases h
        · cases h
    · cases h

end
end Go.Ev
