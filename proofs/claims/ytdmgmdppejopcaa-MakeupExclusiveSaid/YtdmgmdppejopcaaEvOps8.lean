/- Soundness of the operations: equality of structs; maps; slices built. -/
import Derived.Test.YtdmgmdppejopcaaEvOps7
set_option linter.unusedSimpArgs false
set_option linter.unusedVariables false
namespace Go.Ev

section
variable {cx : Cx} {σ : Nat → Value} {N : Nat → Prop} {m : Mem} {w : World} {P : Program} {T : Tab} {G : Env} {o : Oper} {fr : Nat} {ρ : Operand → Value} {av : Operand → AV}

/-! ### equality -/

theorem eqTB_size : ∀ (d : Nat) (t : TypeId) (ks : List CK), eqTB P d t = some ks → ∃ i dd, P.info? t = some i ∧ i.size = ks.length ∧ P.underlying t = some dd ∧ (aggB dd = false → i.size = 1)
  | 0, _, _, h => by simp [eqTB] at h
  | d + 1, t, ks, h => by
    rw [eqTB] at h
    cases hi : P.info? t with
    | none => rw [hi] at h; cases hu : P.underlying t <;> rw [hu] at h <;> simp at h
    | some i =>
      rw [hi] at h
      split at h
      · rename_i k e1 e2
        simp at h e2; subst h
        exact ⟨i, _, rfl, e2, e1, fun _ => e2⟩
      · rename_i e1 e2
        simp at h e2; subst h
        exact ⟨i, _, rfl, e2, e1, fun _ => e2⟩
      · rename_i e1 e2
        simp at h e2; subst h
        exact ⟨i, _, rfl, e2, e1, fun _ => e2⟩
      · rename_i fs n e1 e2
        split at h
        · cases h
        · split at h
          · rename_i ks' hk
            split at h
            · rename_i hl
              simp at h e2; subst h
              exact ⟨i, _, rfl, by omega, e1, fun hh => by simp [aggB] at hh⟩
            · cases h
          · cases h
      · cases h

theorem eqCells_split : ∀ (k1 k2 : List CK) (cs ds : List C1) (q : Bool), eqCells (k1 ++ k2) cs ds = some q →
    ∃ q1 q2, eqCells k1 (cs.take k1.length) (ds.take k1.length) = some q1 ∧ eqCells k2 (cs.drop k1.length) (ds.drop k1.length) = some q2 ∧ q = (q1 && q2)
  | [], k2, cs, ds, q, h => ⟨true, q, by simp [eqCells], by simpa using h, by simp⟩
  | k :: k1, k2, cs, ds, q, h => by
    rw [List.cons_append] at h
    cases k with
    | i kk =>
      match cs, ds, h with
      | .int a x :: cs, .int b y :: ds, h =>
        simp only [eqCells] at h
        split at h
        · rename_i hk
          obtain ⟨q', hq, rfl⟩ := Option.map_eq_some_iff.1 h
          obtain ⟨q1, q2, h1, h2, h3⟩ := eqCells_split k1 k2 cs ds q' hq
          refine ⟨decide (x = y) && q1, q2, ?_, by simpa using h2, by rw [h3, Bool.and_assoc]⟩
          simp [eqCells, hk, h1]
        · cases h
    | b =>
      match cs, ds, h with
      | .bool x :: cs, .bool y :: ds, h =>
        simp only [eqCells] at h
        obtain ⟨q', hq, rfl⟩ := Option.map_eq_some_iff.1 h
        obtain ⟨q1, q2, h1, h2, h3⟩ := eqCells_split k1 k2 cs ds q' hq
        exact ⟨decide (x = y) && q1, q2, by simp [eqCells, h1], by simpa using h2, by rw [h3, Bool.and_assoc]⟩
    | s =>
      match cs, ds, h with
      | .str x :: cs, .str y :: ds, h =>
        simp only [eqCells] at h
        obtain ⟨q', hq, rfl⟩ := Option.map_eq_some_iff.1 h
        obtain ⟨q1, q2, h1, h2, h3⟩ := eqCells_split k1 k2 cs ds q' hq
        exact ⟨decide (x = y) && q1, q2, by simp [eqCells, h1], by simpa using h2, by rw [h3, Bool.and_assoc]⟩

theorem eqCells_len : ∀ (ks : List CK) (cs ds : List C1) (q : Bool), eqCells ks cs ds = some q → cs.length = ks.length ∧ ds.length = ks.length
  | [], cs, ds, q, h => by
    match cs, ds, h with
    | [], [], _ => exact ⟨rfl, rfl⟩
  | k :: ks, cs, ds, q, h => by
    cases k with
    | i kk =>
      match cs, ds, h with
      | .int a x :: cs, .int b y :: ds, h =>
        simp only [eqCells] at h
        split at h
        · obtain ⟨q', hq, rfl⟩ := Option.map_eq_some_iff.1 h
          have := eqCells_len ks cs ds q' hq
          simp [this]
        · cases h
    | b =>
      match cs, ds, h with
      | .bool x :: cs, .bool y :: ds, h =>
        simp only [eqCells] at h
        obtain ⟨q', hq, rfl⟩ := Option.map_eq_some_iff.1 h
        have := eqCells_len ks cs ds q' hq
        simp [this]
    | s =>
      match cs, ds, h with
      | .str x :: cs, .str y :: ds, h =>
        simp only [eqCells] at h
        obtain ⟨q', hq, rfl⟩ := Option.map_eq_some_iff.1 h
        have := eqCells_len ks cs ds q' hq
        simp [this]

theorem eqCells_i {k : IntKind} {cs ds : List C1} {q : Bool} (h : eqCells [.i k] cs ds = some q) : ∃ a b, cs = [.int k a] ∧ ds = [.int k b] ∧ q = decide (a = b) := by
  obtain ⟨l1, l2⟩ := eqCells_len _ _ _ _ h
  match cs, l1, ds, l2 with
  | [c], _, [d], _ =>
    cases c <;> cases d <;> simp [eqCells] at h
    obtain ⟨⟨rfl, rfl⟩, hq⟩ := h
    exact ⟨_, _, rfl, rfl, hq.symm⟩
theorem eqCells_b {cs ds : List C1} {q : Bool} (h : eqCells [.b] cs ds = some q) : ∃ a b, cs = [.bool a] ∧ ds = [.bool b] ∧ q = decide (a = b) := by
  obtain ⟨l1, l2⟩ := eqCells_len _ _ _ _ h
  match cs, l1, ds, l2 with
  | [c], _, [d], _ =>
    cases c <;> cases d <;> simp [eqCells] at h
    exact ⟨_, _, rfl, rfl, h.symm⟩
theorem eqCells_s {cs ds : List C1} {q : Bool} (h : eqCells [.s] cs ds = some q) : ∃ a b, cs = [.str a] ∧ ds = [.str b] ∧ q = decide (a = b) := by
  obtain ⟨l1, l2⟩ := eqCells_len _ _ _ _ h
  match cs, l1, ds, l2 with
  | [c], _, [d], _ =>
    cases c <;> cases d <;> simp [eqCells] at h
    exact ⟨_, _, rfl, rfl, h.symm⟩

theorem eqFields_run {x : Rx} {f : TypeId → Option (List CK)} {D : Nat}
    (hf : ∀ t ks, f t = some ks → (∃ i dd, P.info? t = some i ∧ i.size = ks.length ∧ P.underlying t = some dd ∧ (aggB dd = false → i.size = 1)) ∧
      ∀ cs ds xs ys q, eqCells ks cs ds = some q → repCs x cs xs → repCs x ds ys → (Op.equalIn D t (mkV (isAggB P t) xs) (mkV (isAggB P t) ys)).run P w = .ok q w) :
    ∀ (fs : List Field) (off : Nat) (ks : List CK), eqTB.eqFs f fs off = some ks → ∀ (pre pre' xs ys : List Value) (cs ds : List C1) (q : Bool), pre.length = off → pre'.length = off → eqCells ks cs ds = some q → repCs x cs xs → repCs x ds ys →
      (Op.eqFields D (pre ++ xs).toArray (pre' ++ ys).toArray fs).run P w = .ok q w
  | [], off, ks, h, pre, pre', xs, ys, cs, ds, q, _, _, hq, _, _ => by
    simp [eqTB.eqFs] at h; subst h
    match cs, ds, hq with
    | [], [], hq => simp [eqCells] at hq; subst hq; rfl
  | fd :: fs, off, ks, h, pre, pre', xs, ys, cs, ds, q, hl, hl', hq, hr, hr' => by
    rw [eqTB.eqFs] at h
    split at h
    · rename_i hc
      obtain ⟨c1, c2⟩ := hc
      split at h
      · rename_i kx hkx
        obtain ⟨ks', hks', rfl⟩ := Option.map_eq_some_iff.1 h
        obtain ⟨⟨i, dd, hi, hs, hu, h1⟩, heq⟩ := hf _ _ hkx
        obtain ⟨q1, q2, hq1, hq2, rfl⟩ := eqCells_split _ _ _ _ _ hq
        have hxl := repCs_len _ _ hr
        have hyl := repCs_len _ _ hr'
        obtain ⟨e1, e2⟩ := eqCells_len _ _ _ _ hq
        simp only [List.length_append] at e1 e2
        have hag : isAggB P fd.type = aggB dd := by simp [isAggB, hu]
        have hp1 : (part fd.type (pre ++ xs).toArray fd.offset).run P w = .ok (mkV (isAggB P fd.type) (xs.take kx.length)) w := by
          rw [run_part hi hu h1 (pre ++ xs) fd.offset (by simp; omega) (fun hh => by have := h1 hh; simp; omega), hag, hs, c2, ← hl, List.drop_left]
          rfl
        have hp2 : (part fd.type (pre' ++ ys).toArray fd.offset).run P w = .ok (mkV (isAggB P fd.type) (ys.take kx.length)) w := by
          rw [run_part hi hu h1 (pre' ++ ys) fd.offset (by simp; omega) (fun hh => by have := h1 hh; simp; omega), hag, hs, c2, ← hl', List.drop_left]
          rfl
        have he := heq _ _ _ _ _ hq1 (repCs_take kx.length _ _ hr) (repCs_take kx.length _ _ hr')
        have ih := eqFields_run hf fs (off + kx.length) ks' hks' (pre ++ xs.take kx.length) (pre' ++ ys.take kx.length) (xs.drop kx.length) (ys.drop kx.length) _ _ q2 (by simp; omega) (by simp; omega) hq2 (repCs_drop _ _ _ hr) (repCs_drop _ _ _ hr')
        rw [List.append_assoc, List.take_append_drop, List.append_assoc, List.take_append_drop] at ih
        simp only [Op.eqFields, c1, ne_eq, not_false_eq_true, if_true, Sem.run_bind, hp1, hp2, he, Result.andThen_ok]
        cases q1 with
        | true => simpa using ih
        | false => simp
      · cases h
    · cases h

theorem eq_sound {x : Rx} : ∀ (d : Nat) (t : TypeId) (ks : List CK), eqTB P d t = some ks → ∀ D, d ≤ D → ∀ cs ds xs ys q, eqCells ks cs ds = some q → repCs x cs xs → repCs x ds ys →
    (Op.equalIn D t (mkV (isAggB P t) xs) (mkV (isAggB P t) ys)).run P w = .ok q w
  | 0, t, ks, h, _, _, _, _, _, _, _, _, _, _ => by simp [eqTB] at h
  | d + 1, t, ks, h, D, hD, cs, ds, xs, ys, q, hq, hr, hr' => by
    obtain ⟨D', rfl⟩ : ∃ D', D = D' + 1 := ⟨D - 1, by omega⟩
    have h0 := h
    rw [eqTB] at h
    split at h
    · rename_i k e1 e2
      simp at h; subst h
      obtain ⟨a, b, rfl, rfl, rfl⟩ := eqCells_i hq
      obtain ⟨v, r, rfl, h1, h2⟩ := repCs_cons.1 hr
      obtain ⟨v', r', rfl, h1', h2'⟩ := repCs_cons.1 hr'
      unfold repC at h1 h1'
      have : isAggB P t = false := by simp [isAggB, e1, aggB]
      rw [this, h1.1, h1'.1]
      show (Op.equalIn (D' + 1) t (.int k a) (.int k b)).run P w = _
      rw [run_equalIn_int w D' t k k a b e1]
      by_cases hab : a = b <;> simp [hab]
    · rename_i e1 e2
      simp at h; subst h
      obtain ⟨a, b, rfl, rfl, rfl⟩ := eqCells_b hq
      obtain ⟨v, r, rfl, h1, h2⟩ := repCs_cons.1 hr
      obtain ⟨v', r', rfl, h1', h2'⟩ := repCs_cons.1 hr'
      unfold repC at h1 h1'
      have : isAggB P t = false := by simp [isAggB, e1, aggB]
      rw [this, h1, h1']
      show (Op.equalIn (D' + 1) t (.bool a) (.bool b)).run P w = _
      rw [run_equalIn_bool w D' t a b e1]
      cases a <;> cases b <;> rfl
    · rename_i e1 e2
      simp at h; subst h
      obtain ⟨a, b, rfl, rfl, rfl⟩ := eqCells_s hq
      obtain ⟨v, r, rfl, h1, h2⟩ := repCs_cons.1 hr
      obtain ⟨v', r', rfl, h1', h2'⟩ := repCs_cons.1 hr'
      unfold repC at h1 h1'
      have : isAggB P t = false := by simp [isAggB, e1, aggB]
      rw [this, h1.1, h1'.1]
      show (Op.equalIn (D' + 1) t (.string a) (.string b)).run P w = _
      rw [run_equalIn_string w D' t a b e1, bytes_eq]
    · rename_i fs n e1 e2
      split at h
      · cases h
      · rename_i hst
        split at h
        · rename_i ks' hk
          split at h
          · simp at h; subst h
            have : isAggB P t = true := by simp [isAggB, e1, aggB]
            rw [this]
            show (Op.equalIn (D' + 1) t (.agg xs.toArray) (.agg ys.toArray)).run P w = _
            have hfo : P.fieldsOf t = fs := by simp [Program.fieldsOf, e1]
            rw [run_equalIn_struct w D' t _ _ (by rw [hfo]; exact e1) (by simpa using hst), hfo]
            exact eqFields_run (x := x) (f := eqTB P d) (D := D') (fun t ks hk => ⟨eqTB_size d t ks hk, fun cs ds xs ys q hq hr hr' => eq_sound d t ks hk D' (by omega) cs ds xs ys q hq hr hr'⟩) fs.toList 0 ks' hk [] [] xs ys cs ds q rfl rfl hq hr hr'
          · cases h
        · cases h
    · cases h

theorem s_eqAgg (h : RepM cx σ N m w) {op : BinOp} {t u : TypeId} {x y : Operand} (ho : o.op = .binOp op t x y u) (ht : TabOK P T) {cs ds : List C1} (hx : repA (rx cx σ N m w) (.agg cs) (ρ x)) (hy : repA (rx cx σ N m w) (.agg ds) (ρ y))
    (hne : (TI.of T t).eqn ≠ []) (hag : (TI.of T t).agg = true) {q : Bool} (hq : eqCells (TI.of T t).eqn cs ds = some q) (hop : op = .eql ∨ op = .neq) :
    Runs P w (Res cx σ N m w fr (okr (.one (.bool (if op = .eql then q else !q))))) ((execOp ρ o).run P w) := by
  have htt := TI.of_ok ht t (fun e => hne (by rw [e]; rfl))
  obtain ⟨he, hg⟩ := htt.eqn hne
  obtain ⟨dd, hdd, hagg⟩ := htt.agg
  have hia : isAggB P t = true := by simp [isAggB, hdd, hagg, hag]
  unfold repA at hx hy
  obtain ⟨xs, e1, hr1⟩ := hx
  obtain ⟨ys, e2, hr2⟩ := hy
  have hs := eq_sound (P := P) (w := w) (x := rx cx σ N m w) 100 t _ he 10000 (by omega) cs ds xs ys q hq hr1 hr2
  rw [hia] at hs
  have hs' : (Op.equalIn 10000 t (.agg xs.toArray) (.agg ys.toArray)).run P w = .ok q w := hs
  have hgd := run_eqGuard_agg (P := P) w op t x y xs.toArray ys.toArray hg
  rcases hop with rfl | rfl
  · refine runs_value (v := .bool q) (w' := w) ?_ (okr_res h (repA_bool _))
    simp only [execOp, ho, e1, e2, Sem.run_bind, hgd, Result.andThen_ok, run_eql_struct, hs', Sem.run_pure]
  · refine runs_value (v := .bool (!q)) (w' := w) ?_ (okr_res h (repA_bool _))
    simp only [execOp, ho, e1, e2, Sem.run_bind, hgd, Result.andThen_ok, run_neq_struct, hs', Sem.run_pure]

theorem s_binOp (h : RepM cx σ N m w) {op : BinOp} {t u : TypeId} {x y : Operand} (ho : o.op = .binOp op t x y u) (ht : TabOK P T) (hx : repA (rx cx σ N m w) (av x) (ρ x)) (hy : repA (rx cx σ N m w) (av y) (ρ y))
    (hp : (opEff T G o [av x, av y] m fr).pre) : Runs P w (Res cx σ N m w fr (opEff T G o [av x, av y] m fr)) ((execOp ρ o).run P w) := by
  simp only [opEff, ho] at hp ⊢
  split at hp <;> rename_i heq
  · rename_i a b
    simp at heq
    rw [heq.1] at hx
    rw [heq.2] at hy
    split at hp
    · rename_i hd
      exact s_bin h ho hx hy (.inl ((TI.of_ok ht t (fun e => by rw [e] at hd; cases hd)).bool hd)) hp
    · exact hp.elim
  · rename_i k a k' b
    simp at heq
    rw [heq.1] at hx
    rw [heq.2] at hy
    split at hp
    · obtain ⟨e1, r1⟩ := of_int hx
      obtain ⟨e2, r2⟩ := of_int hy
      obtain ⟨p1, p2, p3⟩ := hp
      have hg : (eqGuard .shr t x y (ρ x) (ρ y)).run P w = .ok () w := by rw [e1, e2]; unfold eqGuard; simp
      have hpow : (0 : Int) < 2 ^ b.toNat := Int.pow_pos (by decide)
      have hdiv : a.fdiv (2 ^ min b.toNat k.bits) = a / 2 ^ b.toNat ∨ True := .inr trivial
      have hR : InR k (a / 2 ^ b.toNat) := by
        have h1 : 0 ≤ a / 2 ^ b.toNat := Int.ediv_nonneg p1 (by omega)
        have h2 : a / 2 ^ b.toNat ≤ a := Int.ediv_le_self _ p1
        have h3 : k.min ≤ 0 := by cases k <;> simp [IntKind.min, IntKind.signed, IntKind.bits]
        exact ⟨by omega, by have := r1.2; omega⟩
      refine runs_value (v := .int k (a / 2 ^ b.toNat)) (w' := w) ?_ (res_in h fr k _ _ hR)
      have hrun : (binOp .shr t (ρ x) (ρ y)).run P w = .ok (.int k (a / 2 ^ b.toNat)) w := by
        rw [e1, e2]
        simp only [binOp, Op.shift]
        rw [if_neg (by omega)]
        by_cases hb : b.toNat ≤ k.bits
        · rw [Nat.min_eq_left hb, Int.fdiv_eq_ediv_of_nonneg _ (by omega)]; rfl
        · have hk : k.bits < b.toNat := by omega
          rw [Nat.min_eq_right (by omega), Int.fdiv_eq_ediv_of_nonneg _ (by have : (0 : Int) < 2 ^ k.bits := Int.pow_pos (by decide); omega)]
          have hmx : a < 2 ^ k.bits := by
            have := r1.2
            cases k <;> simp [IntKind.max, IntKind.signed, IntKind.bits] at this ⊢ <;> omega
          have hmx2 : a < 2 ^ b.toNat := by
            have : (2 : Int) ^ k.bits ≤ 2 ^ b.toNat := by exact_mod_cast Nat.pow_le_pow_right (n := 2) (by decide) (show k.bits ≤ b.toNat by omega)
            omega
          rw [Int.ediv_eq_zero_of_lt p1 hmx, Int.ediv_eq_zero_of_lt p1 hmx2]; rfl
      simp [execOp, ho, hg, hrun]
    · exact s_bin h ho hx hy (.inr (fun a b hh => by simp at hh)) hp
  · simp at heq
    rw [heq.1] at hx
    rw [heq.2] at hy
    exact s_bin h ho hx hy (.inr (fun a b hh => by simp at hh)) hp
  · rename_i cs ds
    simp at heq
    rw [heq.1] at hx
    rw [heq.2] at hy
    split at hp
    · exact hp.elim
    · rename_i hne
      rw [if_neg hne]
      simp only [not_or] at hne
      split at hp
      · rename_i q hq
        have := s_eqAgg (fr := fr) h ho ht hx hy hne.1 (by simpa using hne.2) hq (.inl rfl)
        simpa using this
      · rename_i q hq
        have := s_eqAgg (fr := fr) h ho ht hx hy hne.1 (by simpa using hne.2) hq (.inr rfl)
        simpa using this
      · exact hp.elim
  · exact hp.elim

theorem s_convert (h : RepM cx σ N m w) {s t : TypeId} {x : Operand} (ho : o.op = .convert s t x) (ht : TabOK P T) (hx : repA (rx cx σ N m w) (av x) (ρ x))
    (hp : (opEff T G o [av x] m fr).pre) : Runs P w (Res cx σ N m w fr (opEff T G o [av x] m fr)) ((execOp ρ o).run P w) := by
  simp only [opEff, ho] at hp ⊢
  split at hp <;> rename_i heq
  · rename_i k n
    simp at heq
    rw [heq] at hx
    obtain ⟨e1, r1⟩ := of_int hx
    split at hp
    · rename_i k1 k2 hd1 ht1 hd2 ht2
      split at hp
      · rename_i hk
        rw [if_pos hk]
        have hs := (TI.of_ok ht s (fun e => by rw [e] at ht1; cases ht1)).int k1 hd1 ht1
        have hd := (TI.of_ok ht t (fun e => by rw [e] at ht2; cases ht2)).int k2 hd2 ht2
        refine runs_value (v := .int k2 n) (w' := w) ?_ (res_in h fr k2 _ _ hp)
        simp [execOp, ho, e1, convert, run_underlying hs, run_underlying hd, Conv.intToInt, IntKind.wrap_in hp]
      · exact hp.elim
    · exact hp.elim
  · exact hp.elim

end
end Go.Ev
