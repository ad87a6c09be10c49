/- Soundness of the operations on maps. -/
import Derived.Test.YtdmgmdppejopcaaGreatEvOps6ToOps8
set_option linter.unusedSimpArgs false
set_option linter.unusedVariables false
namespace Go.Ev

section
variable {cx : Cx} {σ : Nat → Value} {N : Nat → Prop} {m : Mem} {w : World} {P : Program} {T : Tab} {G : Env} {o : Oper} {fr : Nat} {ρ : Operand → Value} {av : Operand → AV}

/-! ### keys -/

theorem eqCells_append : ∀ (k1 k2 : List CK) (cs ds cs' ds' : List C1) (q q' : Bool), eqCells k1 cs ds = some q → eqCells k2 cs' ds' = some q' → eqCells (k1 ++ k2) (cs ++ cs') (ds ++ ds') = some (q && q')
  | [], k2, cs, ds, cs', ds', q, q', h, h' => by
    match cs, ds, h with
    | [], [], h => simp [eqCells] at h; subst h; simpa using h'
  | .i kk :: k1, k2, cs, ds, cs', ds', q, q', h, h' => by
    match cs, ds, h with
    | .int a x :: cs, .int b y :: ds, h =>
      simp only [eqCells] at h
      split at h
      · rename_i hk
        obtain ⟨q0, hq, rfl⟩ := Option.map_eq_some_iff.1 h
        have := eqCells_append k1 k2 cs ds cs' ds' q0 q' hq h'
        simp [eqCells, hk, this, Bool.and_assoc]
      · cases h
  | .b :: k1, k2, cs, ds, cs', ds', q, q', h, h' => by
    match cs, ds, h with
    | .bool x :: cs, .bool y :: ds, h =>
      simp only [eqCells] at h
      obtain ⟨q0, hq, rfl⟩ := Option.map_eq_some_iff.1 h
      have := eqCells_append k1 k2 cs ds cs' ds' q0 q' hq h'
      simp [eqCells, this, Bool.and_assoc]
  | .s :: k1, k2, cs, ds, cs', ds', q, q', h, h' => by
    match cs, ds, h with
    | .str x :: cs, .str y :: ds, h =>
      simp only [eqCells] at h
      obtain ⟨q0, hq, rfl⟩ := Option.map_eq_some_iff.1 h
      have := eqCells_append k1 k2 cs ds cs' ds' q0 q' hq h'
      simp [eqCells, this, Bool.and_assoc]

theorem kinds_eq : ∀ (t : Ty) (ks : List CK), kindsOf t = some ks → ∀ a b : t.den, eqCells ks (expl t a) (expl t b) = some (keyEq t a b)
  | .int k, ks, h, a, b => by simp [kindsOf] at h; subst h; simp [expl, eqCells, keyEq]
  | .bool, ks, h, a, b => by simp [kindsOf] at h; subst h; simp [expl, eqCells, keyEq]
  | .str, ks, h, a, b => by simp [kindsOf] at h; subst h; simp [expl, eqCells, keyEq]
  | .unit, ks, h, a, b => by simp [kindsOf] at h; subst h; simp [expl, eqCells, keyEq]
  | .sl t, ks, h, a, b => by simp [kindsOf] at h
  | .pair x y, ks, h, a, b => by
    rw [kindsOf] at h
    split at h
    · rename_i k1 k2 h1 h2
      simp at h; subst h
      exact eqCells_append _ _ _ _ _ _ _ _ (kinds_eq x k1 h1 a.1 b.1) (kinds_eq y k2 h2 a.2 b.2)
    · cases h

theorem keyEq_eq : ∀ (t : Ty) (ks : List CK), kindsOf t = some ks → ∀ a b : t.den, keyEq t a b = true → a = b
  | .int k, ks, h, a, b, e => by simpa [keyEq] using e
  | .bool, ks, h, a, b, e => by simpa [keyEq] using e
  | .str, ks, h, a, b, e => by simpa [keyEq] using e
  | .unit, ks, h, a, b, e => rfl
  | .sl t, ks, h, a, b, e => by simp [kindsOf] at h
  | .pair x y, ks, h, a, b, e => by
    rw [kindsOf] at h
    split at h
    · rename_i k1 k2 h1 h2
      simp only [keyEq, Bool.and_eq_true] at e
      exact Prod.ext (keyEq_eq x k1 h1 _ _ e.1) (keyEq_eq y k2 h2 _ _ e.2)
    · cases h

/-- A key's cells are known by the key. -/
theorem ro_det {w : World} {O : Nat → Prop} : ∀ (t : Ty) (ks : List CK), kindsOf t = some ks → ∀ (a : t.den) (xs ys : List Value), ro w O t a xs → ro w O t a ys → xs = ys
  | .int k, ks, h, a, xs, ys, h1, h2 => by rw [h1.1, h2.1]
  | .bool, ks, h, a, xs, ys, h1, h2 => by rw [show _ = _ from h1, show _ = _ from h2]
  | .str, ks, h, a, xs, ys, h1, h2 => by rw [h1.1, h2.1]
  | .unit, ks, h, a, xs, ys, h1, h2 => by rw [show _ = _ from h1, show _ = _ from h2]
  | .sl t, ks, h, a, xs, ys, h1, h2 => by simp [kindsOf] at h
  | .pair x y, ks, h, a, xs, ys, ⟨c, d, e, h1, h2⟩, ⟨c', d', e', h1', h2'⟩ => by
    rw [kindsOf] at h
    split at h
    · rename_i k1 k2 g1 g2
      rw [e, e', ro_det x k1 g1 a.1 c c' h1 h1', ro_det y k2 g2 a.2 d d' h2 h2']
    · cases h

theorem ro_scalars {w : World} {O : Nat → Prop} : ∀ (t : Ty) (ks : List CK), kindsOf t = some ks → ∀ (a : t.den) (xs : List Value), ro w O t a xs → ∀ v ∈ xs, (∃ k n, v = .int k n) ∨ (∃ b, v = .bool b) ∨ ∃ s, v = .string s
  | .int k, ks, h, a, xs, h1, v, hv => by rw [h1.1] at hv; simp at hv; exact .inl ⟨_, _, hv⟩
  | .bool, ks, h, a, xs, h1, v, hv => by rw [show _ = _ from h1] at hv; simp at hv; exact .inr (.inl ⟨_, hv⟩)
  | .str, ks, h, a, xs, h1, v, hv => by rw [h1.1] at hv; simp at hv; exact .inr (.inr ⟨_, hv⟩)
  | .unit, ks, h, a, xs, h1, v, hv => by rw [show _ = _ from h1] at hv; simp at hv
  | .sl t, ks, h, a, xs, h1, v, hv => by simp [kindsOf] at h
  | .pair x y, ks, h, a, xs, ⟨c, d, e, h1, h2⟩, v, hv => by
    rw [kindsOf] at h
    split at h
    · rename_i k1 k2 g1 g2
      rw [e, List.mem_append] at hv
      exact hv.elim (ro_scalars x k1 g1 a.1 c h1 v) (ro_scalars y k2 g2 a.2 d h2 v)
    · cases h

theorem sameBits_self {v : Value} (h : (∃ k n, v = .int k n) ∨ (∃ b, v = .bool b) ∨ ∃ s, v = .string s) (n : Nat) : Instr.sameBits n v v = true := by
  rcases h with ⟨k, q, rfl⟩ | ⟨b, rfl⟩ | ⟨s, rfl⟩ <;> cases n <;> simp [Instr.sameBits, beq_toListBytes]

theorem sameBits_agg {vs : List Value} (h : ∀ v ∈ vs, (∃ k n, v = .int k n) ∨ (∃ b, v = .bool b) ∨ ∃ s, v = .string s) (n : Nat) : Instr.sameBits (n + 1) (.agg vs.toArray) (.agg vs.toArray) = true := by
  simp only [Instr.sameBits, beq_self_eq_true, Bool.true_and, List.toList_toArray, List.all_eq_true]
  intro p hp
  obtain ⟨i, hi, e⟩ := List.mem_iff_getElem.1 hp
  have : p.1 = p.2 ∧ p.1 ∈ vs := by
    rw [← e, List.getElem_zip]
    exact ⟨rfl, List.getElem_mem _⟩
  obtain ⟨a, b⟩ := p
  simp at this
  rw [← this.1]
  exact sameBits_self (h a this.2) n

/-! ### checkKey -/

theorem checkKey_fields {f : TypeId → Option (List CK)} {em : Bool} {n : Nat} {x : Rx}
    (hf : ∀ t ks, f t = some ks → (∃ i dd, P.info? t = some i ∧ i.size = ks.length ∧ P.underlying t = some dd ∧ (aggB dd = false → i.size = 1)) ∧
      ∀ cs xs q, eqCells ks cs cs = some q → repCs x cs xs → (Instr.checkKey em n t (mkV (isAggB P t) xs)).run P w = .ok () w) :
    ∀ (fs : List Field) (off : Nat) (ks : List CK), eqTB.eqFs f fs off = some ks → ∀ (pre xs : List Value) (cs : List C1) (q : Bool), pre.length = off → eqCells ks cs cs = some q → repCs x cs xs →
      (forIn fs PUnit.unit fun fd _ => (if fd.name ≠ "_" then (part fd.type (pre ++ xs).toArray fd.offset >>= fun a => Instr.checkKey em n fd.type a >>= fun _ => pure (ForInStep.yield PUnit.unit)) else pure (ForInStep.yield PUnit.unit) : Sem (ForInStep PUnit)) : Sem PUnit).run P w = .ok () w
  | [], off, ks, h, pre, xs, cs, q, _, _, _ => by simp
  | fd :: fs, off, ks, h, pre, xs, cs, q, hl, hq, hr => by
    rw [eqTB.eqFs] at h
    split at h
    · rename_i hc
      obtain ⟨c1, c2⟩ := hc
      split at h
      · rename_i kx hkx
        obtain ⟨ks', hks', rfl⟩ := Option.map_eq_some_iff.1 h
        obtain ⟨⟨i, dd, hi, hs, hu, h1⟩, hck⟩ := hf _ _ hkx
        obtain ⟨q1, q2, hq1, hq2, rfl⟩ := eqCells_split _ _ _ _ _ hq
        have hxl := repCs_len _ _ hr
        obtain ⟨e1, _⟩ := eqCells_len _ _ _ _ hq
        simp only [List.length_append] at e1
        have hag : isAggB P fd.type = aggB dd := by simp [isAggB, hu]
        have hp1 : (part fd.type (pre ++ xs).toArray fd.offset).run P w = .ok (mkV (isAggB P fd.type) (xs.take kx.length)) w := by
          rw [run_part hi hu h1 (pre ++ xs) fd.offset (by simp; omega) (fun hh => by have := h1 hh; simp; omega), hag, hs, c2, ← hl, List.drop_left]
          rfl
        have hck' := hck _ _ _ hq1 (repCs_take kx.length _ _ hr)
        have ih := checkKey_fields hf fs (off + kx.length) ks' hks' (pre ++ xs.take kx.length) (xs.drop kx.length) _ q2 (by simp; omega) hq2 (repCs_drop _ _ _ hr)
        rw [List.append_assoc, List.take_append_drop] at ih
        simp only [List.forIn_cons, c1, ne_eq, not_false_eq_true, if_true, Sem.run_bind, hp1, hck', Result.andThen_ok, Sem.run_pure]
        exact ih
      · cases h
    · cases h

theorem checkKey_sound {x : Rx} {em : Bool} : ∀ (d : Nat) (t : TypeId) (ks : List CK), eqTB P d t = some ks → ∀ D, d ≤ D → ∀ cs xs q, eqCells ks cs cs = some q → repCs x cs xs →
    (Instr.checkKey em D t (mkV (isAggB P t) xs)).run P w = .ok () w
  | 0, t, ks, h, _, _, _, _, _, _, _ => by simp [eqTB] at h
  | d + 1, t, ks, h, D, hD, cs, xs, q, hq, hr => by
    obtain ⟨D', rfl⟩ : ∃ D', D = D' + 1 := ⟨D - 1, by omega⟩
    rw [eqTB] at h
    split at h
    · rename_i k e1 e2
      simp at h; subst h
      unfold Instr.checkKey
      have : isAggB P t = false := by simp [isAggB, e1, aggB]
      obtain ⟨a, b, rfl, _, _⟩ := eqCells_i hq
      obtain ⟨v, r, rfl, h1, h2⟩ := repCs_cons.1 hr
      unfold repC at h1
      simp [run_underlying e1, this, mkV, h1.1]
    · rename_i e1 e2
      simp at h; subst h
      unfold Instr.checkKey
      have : isAggB P t = false := by simp [isAggB, e1, aggB]
      obtain ⟨a, b, rfl, _, _⟩ := eqCells_b hq
      obtain ⟨v, r, rfl, h1, h2⟩ := repCs_cons.1 hr
      unfold repC at h1
      simp [run_underlying e1, this, mkV, h1]
    · rename_i e1 e2
      simp at h; subst h
      unfold Instr.checkKey
      have : isAggB P t = false := by simp [isAggB, e1, aggB]
      obtain ⟨a, b, rfl, _, _⟩ := eqCells_s hq
      obtain ⟨v, r, rfl, h1, h2⟩ := repCs_cons.1 hr
      unfold repC at h1
      simp [run_underlying e1, this, mkV, h1.1]
    · rename_i fs n e1 e2
      split at h
      · cases h
      · split at h
        · rename_i ks' hk
          split at h
          · simp at h; subst h
            have : isAggB P t = true := by simp [isAggB, e1, aggB]
            rw [this]
            show (Instr.checkKey em (D' + 1) t (.agg xs.toArray)).run P w = _
            unfold Instr.checkKey
            simp only [Sem.run_bind, run_underlying e1, Result.andThen_ok]
            rw [← Array.forIn_toList]
            have := checkKey_fields (P := P) (w := w) (x := x) (em := em) (n := D') (f := eqTB P d) (fun t ks hk => ⟨eqTB_size d t ks hk, fun cs xs q hq hr => checkKey_sound d t ks hk D' (by omega) cs xs q hq hr⟩) fs.toList 0 ks' hk [] xs cs q rfl hq hr
            simp only [List.nil_append] at this
            rw [this]
            rfl
          · cases h
        · cases h
    · cases h

end
end Go.Ev

/- Soundness of the operations on maps: make, look up, store. -/
set_option linter.unusedSimpArgs false
set_option linter.unusedVariables false
namespace Go.Ev

section
variable {cx : Cx} {σ : Nat → Value} {N : Nat → Prop} {m : Mem} {w : World} {P : Program} {T : Tab} {G : Env} {o : Oper} {fr : Nat} {ρ : Operand → Value} {av : Operand → AV}

/-- What is known of a type of keys. -/
structure KeyT (P : Program) (kT : TypeId) (kt : Ty) (ks : List CK) (ka : Bool) : Prop where
  eq : eqTB P 100 kT = some ks
  kd : kindsOf kt = some ks
  ag : isAggB P kT = ka

def EntIs (x : Rx) (kt : Ty) (ka : Bool) (key : kt.den) (q : Bool) (e : MapEntry) : Prop := ∃ k' ks', e.key = mkV ka ks' ∧ ro x.w x.O kt k' ks' ∧ keyEq kt key k' = q

theorem key_equal {x : Rx} {kT : TypeId} {kt : Ty} {ks : List CK} {ka : Bool} (hk : KeyT P kT kt ks ka) {key : kt.den} {kvs : List Value} (hkv : ro x.w x.O kt key kvs) {q : Bool} {e : MapEntry} (he : EntIs x kt ka key q e) :
    (Op.equal kT (mkV ka kvs) e.key).run P w = .ok q w := by
  obtain ⟨k', ks', e1, e2, e3⟩ := he
  have := eq_sound (P := P) (w := w) (x := x) 100 kT ks hk.eq 10000 (by omega) _ _ kvs ks' (keyEq kt key k') (kinds_eq kt ks hk.kd key k') (expl_rep kt key kvs hkv) (expl_rep kt k' ks' e2)
  rw [hk.ag] at this
  rw [e1, ← e3]
  exact this

theorem findAsking_run {x : Rx} {kT : TypeId} {kt : Ty} {ks : List CK} {ka : Bool} (hk : KeyT P kT kt ks ka) {key : kt.den} {kvs : List Value} (hkv : ro x.w x.O kt key kvs) :
    ∀ (pre : List MapEntry) (rest : List MapEntry) (i : Nat), (∀ e ∈ pre, EntIs x kt ka key false e) → (rest = [] ∨ ∃ e r, rest = e :: r ∧ EntIs x kt ka key true e) →
      (Instr.findAsking kT (mkV ka kvs) (pre ++ rest) i).run P w = .ok (rest.head?.map fun e => (i + pre.length, e.val)) w
  | [], rest, i, _, h => by
    rcases h with rfl | ⟨e, r, rfl, he⟩
    · simp [Instr.findAsking]
    · simp [Instr.findAsking, key_equal hk hkv he]
  | e :: pre, rest, i, hp, h => by
    have he := hp e List.mem_cons_self
    have ih := findAsking_run hk hkv pre rest (i + 1) (fun e he => hp e (List.mem_cons_of_mem _ he)) h
    simp only [List.cons_append, Instr.findAsking, Sem.run_bind, key_equal hk hkv he, Result.andThen_ok, Bool.false_eq_true, if_false, ih]
    congr 2
    funext e
    simp; omega

theorem findNow_run {kind : TypeDesc} {k : Value} {Q : Bool → MapEntry → Prop} (hs : ∀ q e, Q q e → Instr.sameNow kind k e.key = some q) :
    ∀ (pre : List MapEntry) (rest : List MapEntry) (i : Nat), (∀ e ∈ pre, Q false e) → (rest = [] ∨ ∃ e r, rest = e :: r ∧ Q true e) →
      Instr.findNow kind k (pre ++ rest) i = some (rest.head?.map fun e => (i + pre.length, e.val))
  | [], rest, i, _, h => by
    rcases h with rfl | ⟨e, r, rfl, he⟩
    · rfl
    · simp [Instr.findNow, hs _ _ he]
  | e :: pre, rest, i, hp, h => by
    have ih := findNow_run hs pre rest (i + 1) (fun e he => hp e (List.mem_cons_of_mem _ he)) h
    simp only [List.cons_append, Instr.findNow, hs _ _ (hp e List.mem_cons_self), ih]
    congr 2
    funext e
    simp; omega

theorem findKey_sound {x : Rx} {kT : TypeId} {kt : Ty} {ks : List CK} {ka : Bool} (hk : KeyT P kT kt ks ka) {key : kt.den} {kvs : List Value} (hkv : ro x.w x.O kt key kvs)
    (pre rest : List MapEntry) (hp : ∀ e ∈ pre, EntIs x kt ka key false e) (hr : rest = [] ∨ ∃ e r, rest = e :: r ∧ EntIs x kt ka key true e) :
    (Instr.findKey kT (mkV ka kvs) (pre ++ rest)).run P w = .ok (rest.head?.map fun e => (pre.length, e.val)) w := by
  have ask := findAsking_run (P := P) (w := w) hk hkv pre rest 0 hp hr
  simp only [Nat.zero_add] at ask
  have heq := hk.eq
  rw [eqTB] at heq
  split at heq
  · rename_i k e1 e2
    simp at heq
    have now := findNow_run (kind := .int k) (k := mkV ka kvs) (Q := fun q e => EntIs x kt ka key q e) (fun q e he => by
      obtain ⟨k', ks', h1, h2, h3⟩ := he
      have hc := kinds_eq kt ks hk.kd key k'
      rw [← heq] at hc
      obtain ⟨a, b, c1, c2, c3⟩ := eqCells_i hc
      have hkv' := expl_rep (x := x) kt key kvs hkv
      have hks' := expl_rep (x := x) kt k' ks' h2
      rw [c1] at hkv'
      rw [c2] at hks'
      obtain ⟨v, r, rfl, g1, g2⟩ := repCs_cons.1 hkv'
      obtain ⟨v', r', rfl, g1', g2'⟩ := repCs_cons.1 hks'
      unfold repC at g1 g1'
      have hka : ka = false := by rw [← hk.ag]; simp [isAggB, e1, aggB]
      subst hka
      rw [h1, ← h3, c3]
      simp only [mkV, Bool.false_eq_true, if_false, List.getD_cons_zero, g1.1, g1'.1, Instr.sameNow, if_true]
      by_cases hab : a = b <;> simp [hab]) pre rest 0 hp hr
    simp [Instr.findKey, run_underlying e1, now]
  · rename_i e1 e2
    simp at heq
    have now := findNow_run (kind := .bool) (k := mkV ka kvs) (Q := fun q e => EntIs x kt ka key q e) (fun q e he => by
      obtain ⟨k', ks', h1, h2, h3⟩ := he
      have hc := kinds_eq kt ks hk.kd key k'
      rw [← heq] at hc
      obtain ⟨a, b, c1, c2, c3⟩ := eqCells_b hc
      have hkv' := expl_rep (x := x) kt key kvs hkv
      have hks' := expl_rep (x := x) kt k' ks' h2
      rw [c1] at hkv'
      rw [c2] at hks'
      obtain ⟨v, r, rfl, g1, g2⟩ := repCs_cons.1 hkv'
      obtain ⟨v', r', rfl, g1', g2'⟩ := repCs_cons.1 hks'
      unfold repC at g1 g1'
      have hka : ka = false := by rw [← hk.ag]; simp [isAggB, e1, aggB]
      subst hka
      rw [h1, ← h3, c3]
      simp only [mkV, Bool.false_eq_true, if_false, List.getD_cons_zero, g1, g1', Instr.sameNow, if_true]
      cases a <;> cases b <;> rfl) pre rest 0 hp hr
    simp [Instr.findKey, run_underlying e1, now]
  · rename_i e1 e2
    simp at heq
    have now := findNow_run (kind := .string) (k := mkV ka kvs) (Q := fun q e => EntIs x kt ka key q e) (fun q e he => by
      obtain ⟨k', ks', h1, h2, h3⟩ := he
      have hc := kinds_eq kt ks hk.kd key k'
      rw [← heq] at hc
      obtain ⟨a, b, c1, c2, c3⟩ := eqCells_s hc
      have hkv' := expl_rep (x := x) kt key kvs hkv
      have hks' := expl_rep (x := x) kt k' ks' h2
      rw [c1] at hkv'
      rw [c2] at hks'
      obtain ⟨v, r, rfl, g1, g2⟩ := repCs_cons.1 hkv'
      obtain ⟨v', r', rfl, g1', g2'⟩ := repCs_cons.1 hks'
      unfold repC at g1 g1'
      have hka : ka = false := by rw [← hk.ag]; simp [isAggB, e1, aggB]
      subst hka
      rw [h1, ← h3, c3]
      simp only [mkV, Bool.false_eq_true, if_false, List.getD_cons_zero, g1.1, g1'.1, Instr.sameNow, if_true]
      rw [beq_toListBytes, bytes_eq]) pre rest 0 hp hr
    simp [Instr.findKey, run_underlying e1, now]
  · rename_i fs n e1 e2
    have hka : ka = true := by rw [← hk.ag]; simp [isAggB, e1, aggB]
    subst hka
    have hnow : Instr.findNow (.struct fs) (mkV true kvs) (pre ++ rest) 0 = none ∨ (pre ++ rest = [] ∧ Instr.findNow (.struct fs) (mkV true kvs) (pre ++ rest) 0 = some none) := by
      cases hpr : pre ++ rest with
      | nil => exact .inr ⟨rfl, rfl⟩
      | cons e r => exact .inl (by simp [Instr.findNow, Instr.sameNow, mkV])
    rcases hnow with hnow | ⟨he, hnow⟩
    · simp [Instr.findKey, run_underlying e1, hnow, ask]
    · obtain ⟨rfl, rfl⟩ := List.append_eq_nil_iff.1 he
      simp [Instr.findKey, run_underlying e1, Instr.findNow]
  · cases heq

/-- A map's entries, parted at a key. -/
theorem map_cases {x : Rx} {kt vt : Ty} {ka va : Bool} (key : kt.den) : ∀ (l : List (kt.den × vt.den)) (es : List MapEntry), mapRep x kt vt ka va l es →
    (mget l key = none ∧ (∀ e ∈ es, EntIs x kt ka key false e) ∧ (∀ v, mset l key v = l ++ [(key, v)])) ∨
    ∃ pre e post k' ks' v vs, es = pre ++ e :: post ∧ (∀ e ∈ pre, EntIs x kt ka key false e) ∧ e.key = mkV ka ks' ∧ ro x.w x.O kt k' ks' ∧ keyEq kt key k' = true ∧ mget l key = some v ∧ e.val = mkV va vs ∧ ro x.w x.O vt v vs ∧
      ∀ (y : Rx), x.Keeps y → ∀ (v2 : vt.den) (e2 : MapEntry) (kvs vs2 : List Value), e2.key = mkV ka kvs → ro y.w y.O kt key kvs → e2.val = mkV va vs2 → ro y.w y.O vt v2 vs2 → mapRep y kt vt ka va (mset l key v2) (pre ++ e2 :: post)
  | [], es, h => by
    rw [show es = [] from h]
    exact .inl ⟨rfl, (fun e he => by cases he), fun v => rfl⟩
  | p :: l, es, h => by
    obtain ⟨e, r, ks, vs, he, e1, h1, e2, h2, h3⟩ := h
    subst he
    obtain ⟨a, b⟩ := p
    by_cases hq : keyEq kt key a = true
    · refine .inr ⟨[], e, r, a, ks, b, vs, rfl, (fun e he => by cases he), e1, h1, hq, by simp [mget, hq], e2, h2, fun y hk v2 e2' kvs vs2 g1 g2 g3 g4 => ?_⟩
      simp only [mset, hq, if_true, List.nil_append]
      exact ⟨e2', r, kvs, vs2, rfl, g1, g2, g3, g4, mapRep_keep hk l r h3⟩
    · simp only [Bool.not_eq_true] at hq
      rcases map_cases key l r h3 with ⟨g1, g2, g3⟩ | ⟨pre, e', post, k', ks', v, vs', rfl, g2, g3, g4, g5, g6, g7, g8, g9⟩
      · refine .inl ⟨by simp [mget, hq, g1], fun e' he' => ?_, fun v => by simp [mset, hq, g3]⟩
        cases List.mem_cons.1 he' with
        | inl k => subst k; exact ⟨a, ks, e1, h1, hq⟩
        | inr k => exact g2 e' k
      · refine .inr ⟨e :: pre, e', post, k', ks', v, vs', rfl, fun e'' he => ?_, g3, g4, g5, by simp [mget, hq, g6], g7, g8, fun y hk v2 e2' kvs vs2 f1 f2 f3 f4 => ?_⟩
        · cases List.mem_cons.1 he with
          | inl k => subst k; exact ⟨a, ks, e1, h1, hq⟩
          | inr k => exact g2 e'' k
        · simp only [mset, hq, Bool.false_eq_true, if_false, List.cons_append]
          exact ⟨e, pre ++ e2' :: post, ks, vs, rfl, e1, ro_keep hk.k _ _ _ h1, e2, ro_keep hk.k _ _ _ h2, g9 y hk v2 e2' kvs vs2 f1 f2 f3 f4⟩

theorem mapRep_append {x : Rx} {kt vt : Ty} {ka va : Bool} : ∀ (l l' : List (kt.den × vt.den)) (es es' : List MapEntry), mapRep x kt vt ka va l es → mapRep x kt vt ka va l' es' → mapRep x kt vt ka va (l ++ l') (es ++ es')
  | [], _, _, _, h, k => by rw [show _ = _ from h]; exact k
  | p :: l, l', es, es', h, k => by
    obtain ⟨e, r, ks, vs, he, e1, h1, e2, h2, h3⟩ := h
    subst he
    exact ⟨e, r ++ es', ks, vs, rfl, e1, h1, e2, h2, mapRep_append l l' r es' h3 k⟩

theorem s_makeMap (h : RepM cx σ N m w) (hfr : ∀ id, fr ≤ id → id < fr + 32 → N id) {t : TypeId} {r : Option Operand} (ho : o.op = .makeMap t r) (ht : TabOK P T)
    (hp : (opEff T G o ((opsOf o.op).map av) m fr).pre) : Runs P w (Res cx σ N m w fr (opEff T G o ((opsOf o.op).map av) m fr)) ((execOp ρ o).run P w) := by
  rw [ho] at hp ⊢
  simp only [opEff, ho] at hp ⊢
  split at hp
  · rename_i k e hd
    split at hp
    · rename_i kt vt hk hv
      split at hp
      · rename_i hc
        rw [if_pos hc]
        have hr : r = none := by cases r <;> simp_all
        subst hr
        have hrun : (execOp ρ o).run P w = .ok (.value (.map (some w.heap.size))) (w.alloc (.map #[] 0)) := by
          simp [execOp, ho, Instr.makeMap]
        obtain ⟨g1, g2⟩ := h.put (hfr fr (by omega) (by omega)) (.map (some w.heap.size)) (.mapb kt vt (TI.of T k).agg (TI.of T e).agg []) (w.alloc (.map #[] 0)) rfl (alloc_world w _) (fun b _ hb => by simp [blkOf] at hb; omega)
          (fun hk => ⟨w.heap.size, #[], 0, by simp only [rx]; rw [upd_same], heap_alloc_new w _, rfl⟩)
        obtain ⟨g3, g4⟩ := g1.weaken (N' := Nx N fr) (fun id hid => ⟨hid.1, fun e => hid.2 ⟨by omega, by omega⟩⟩)
        refine runs_value hrun ⟨upd σ fr (.map (some w.heap.size)), g3, ⟨g2.k.trans g4.k (by simp [rx]), fun id hid => ?_, fun id hid => hid.1⟩, ?_, trivial⟩
        · exact g2.σ id hid
        · unfold repA repC
          exact ⟨fun k => k.2 ⟨by omega, by omega⟩, by simp only [rx]; rw [upd_same]⟩
      · exact hp.elim
    · exact hp.elim
  · exact hp.elim

theorem av_mkV {x : Rx} (hσ : ∀ id, (x.σ id).oneCell' = true) {a : AV} {v : Value} (h : repA x a v) (hk : a.cells.all known = true) (hne : a.cells ≠ []) : ∃ vs, v = mkV a.ag vs ∧ repCs x a.cells vs := by
  cases a with
  | one c =>
    unfold repA at h
    exact ⟨[v], rfl, repCs_cons.2 ⟨v, [], rfl, h, repCs_nil.2 rfl⟩⟩
  | agg cs =>
    unfold repA at h
    obtain ⟨vs, rfl, h1⟩ := h
    exact ⟨vs, rfl, h1⟩
  | tup _ => exact absurd rfl hne
  | ifd _ _ => exact absurd rfl hne

theorem impl_ne {m : Mem} {t : Ty} {cs : List C1} {y : t.den} (h : impl m t cs = some y) (ht : 0 < t.n) : cs ≠ [] := by
  rintro rfl
  induction t with
  | int k => simp [impl, implI] at h
  | bool => simp [impl, implB] at h
  | str => simp [impl, implS] at h
  | unit => simp [Ty.n] at ht
  | sl t _ => simp [impl, implL] at h
  | pair a b iha ihb =>
    obtain ⟨h1, h2⟩ := implP_some h
    simp at h1 h2
    simp only [Ty.n] at ht
    rcases Nat.eq_zero_or_pos a.n with e | e
    · exact ihb (by omega) h2
    · exact iha e h1

theorem zTy_ro {w : World} {O : Nat → Prop} : ∀ (t : Ty) (vs : List Value), zTy t vs → ro w O t t.dflt vs
  | .int k, vs, h => ⟨h, by unfold InR IntKind.min IntKind.max; cases k <;> simp [IntKind.signed, IntKind.bits, Ty.dflt]⟩
  | .bool, vs, h => h
  | .str, vs, h => ⟨h, by simp [Ty.dflt, maxLen]⟩
  | .unit, vs, h => h
  | .sl t, vs, h => ⟨none, 0, 0, h, rfl, Nat.le_refl _, by simp [maxLen], .inl rfl⟩
  | .pair a b, vs, ⟨x, y, e, h1, h2⟩ => ⟨x, y, e, zTy_ro a x h1, zTy_ro b y h2⟩

theorem avOf_mkV {x : Rx} {ag : Bool} {t : Ty} {y : t.den} {vs : List Value} (h : ro x.w x.O t y vs) (h1 : ag = false → t.n = 1) : repA x (avOf ag (expl t y)) (mkV ag vs) :=
  avOf_rep (expl_rep t y vs h) (fun hg => by rw [expl_len]; exact h1 hg)

theorem keyT_of {kT : TypeId} {kt : Ty} (ht : TabOK P T) (hk : kindsOf kt = some (TI.of T kT).eqn) (hne : (TI.of T kT).eqn ≠ []) : KeyT P kT kt (TI.of T kT).eqn (TI.of T kT).agg := by
  have htt := TI.of_ok ht kT (fun e => hne (by rw [e]; rfl))
  obtain ⟨dd, hdd, hag⟩ := htt.agg
  exact ⟨(htt.eqn hne).1, hk, by simp [isAggB, hdd, hag]⟩

theorem s_lookup (h : RepM cx σ N m w) {t : TypeId} {x y : Operand} {ok : Bool} (ho : o.op = .lookup t x y ok) (ht : TabOK P T) (hx : repA (rx cx σ N m w) (av x) (ρ x)) (hy : repA (rx cx σ N m w) (av y) (ρ y))
    (hp : (opEff T G o [av x, av y] m fr).pre) : Runs P w (Res cx σ N m w fr (opEff T G o [av x, av y] m fr)) ((execOp ρ o).run P w) := by
  simp only [opEff, ho] at hp ⊢
  split at hp <;> rename_i heq
  · rename_i kT eT id k hd
    simp at heq
    rw [heq.1] at hx
    rw [heq.2] at hy
    split at hp
    · rename_i kt vt ka va l hm
      split at hp
      · rename_i k' him
        split at hp
        · rename_i hc
          rw [if_pos hc]
          obtain ⟨c1, c2, c3, c4, c5, c6, c7, c8, c9, c10⟩ := hc
          have hu := (TI.of_ok ht t (fun e => by rw [e] at hd; cases hd)).map kT eT hd
          have hte := TI.of_ok ht eT (fun e => by rw [e] at c7; cases c7)
          have htk := TI.of_ok ht kT (fun e => c4 (by rw [e]; rfl))
          obtain ⟨iz, zs, hiz, hz, hzt⟩ := hte.zt vt c7 c2
          have hvn : (TI.of T eT).agg = false → vt.n = 1 := fun hh => by rw [(hte.ty vt c2).1]; exact hte.one hh
          have hK := keyT_of (kt := kt) ht c3 c4
          rw [← c10] at hK
          unfold repA repC at hx
          obtain ⟨hn, e1⟩ := hx
          simp only [rx] at e1 hn
          have hb := h.blk id
          rw [hm] at hb
          obtain ⟨r, es, clock, e2, e3, hmr⟩ := hb
          simp only [rx] at e2 e3
          obtain ⟨kvs, e4, hkr⟩ := av_mkV (x := rx cx σ N m w) h.hone hy c5 (impl_ne him (by have := (htk.ty kt c1); omega))
          rw [c8] at e4
          have hro := impl_ro h kt k.cells k' kvs him hkr (fun id hid => by rw [c6] at hid; cases hid)
          have hck := checkKey_sound (P := P) (w := w) (x := rx cx σ N m w) (em := es.isEmpty) 100 kT _ hK.eq 10000 (by omega) _ kvs _ (kinds_eq kt _ c3 k' k') (expl_rep kt k' kvs hro)
          rw [hK.ag] at hck
          -- what is found
          have hrun : ∀ (res : Option (Nat × Value)), (Instr.findKey kT (mkV ka kvs) es.toList).run P w = .ok res w →
              (execOp ρ o).run P w = .ok (.value (if ok then .tuple #[(res.map (·.2)).getD (mkV (TI.of T eT).agg zs), .bool res.isSome] else (res.map (·.2)).getD (mkV (TI.of T eT).agg zs))) w := by
            intro res hf
            cases res with
            | none => simp [execOp, ho, Instr.lookup, run_underlying hu, e1, e2, e3, e4, hck, hf, run_zeroValue hiz hz, getObj, Sem.run]
            | some p => simp [execOp, ho, Instr.lookup, run_underlying hu, e1, e2, e3, e4, hck, hf, getObj, Sem.run]
          have fin : ∀ (res : Option (Nat × Value)), (Instr.findKey kT (mkV ka kvs) es.toList).run P w = .ok res w → (∃ vs, (res.map (·.2)).getD (mkV (TI.of T eT).agg zs) = mkV (TI.of T eT).agg vs ∧ ro w (Owned cx σ m) vt ((mget l k').getD vt.dflt) vs) → (mget l k').isSome = res.isSome →
              Runs P w (Res cx σ N m w fr ⟨True, (if ok then .tup [avOf (TI.of T eT).agg (expl vt ((mget l k').getD vt.dflt)), .one (.bool (mget l k').isSome)] else avOf (TI.of T eT).agg (expl vt ((mget l k').getD vt.dflt))), [], Wf vt ((mget l k').getD vt.dflt)⟩) ((execOp ρ o).run P w) := by
            intro res hf hv hs
            obtain ⟨vs, hv1, hv2⟩ := hv
            refine runs_value (hrun res hf) (Res.pure h rfl ?_ (ro_wf vt _ vs hv2))
            have ha := avOf_mkV (x := rx cx σ N m w) (ag := (TI.of T eT).agg) hv2 hvn
            cases ok with
            | false => simp only [Bool.false_eq_true, if_false]; rw [hv1]; exact ha
            | true =>
              simp only [if_true]
              unfold repA
              refine ⟨_, rfl, ?_⟩
              unfold repAs
              refine ⟨_, _, rfl, by rw [hv1]; exact ha, ?_⟩
              unfold repAs
              refine ⟨_, _, rfl, by rw [hs]; exact repA_bool _, ?_⟩
              unfold repAs; rfl
          rcases map_cases k' l es.toList hmr with ⟨g1, g2, g3⟩ | ⟨pre, e, post, k2, ks2, v, vs, g1, g2, g3, g4, g5, g6, g7, g8, g9⟩
          · have hf := findKey_sound (P := P) (w := w) (x := rx cx σ N m w) hK hro es.toList [] g2 (.inl rfl)
            rw [List.append_nil] at hf
            refine fin none hf ⟨zs, rfl, by rw [g1]; exact zTy_ro vt zs hzt⟩ (by rw [g1]; rfl)
          · have hf := findKey_sound (P := P) (w := w) (x := rx cx σ N m w) hK hro pre (e :: post) g2 (.inr ⟨e, post, rfl, ⟨k2, ks2, g3, g4, g5⟩⟩)
            rw [← g1] at hf
            refine fin _ hf ⟨vs, by simp [g7, c9], by rw [g6]; exact g8⟩ (by rw [g6]; rfl)
        · exact hp.elim
      · exact hp.elim
    · exact hp.elim
  · exact hp.elim

end
end Go.Ev

/- Soundness of the operations: stores into maps, slices built, function values, calls; all operations together. -/
set_option linter.unusedSimpArgs false
set_option linter.unusedVariables false
namespace Go.Ev

section
variable {cx : Cx} {σ : Nat → Value} {N : Nat → Prop} {m : Mem} {w : World} {P : Program} {T : Tab} {G : Env} {o : Oper} {fr : Nat} {ρ : Operand → Value} {av : Operand → AV}

theorem modify_mid {α : Type} (f : α → α) (e : α) (post : List α) : ∀ pre : List α, (pre ++ e :: post).modify pre.length f = pre ++ f e :: post
  | [] => rfl
  | x :: pre => by simp [modify_mid f e post pre]

theorem s_mapUpdate (h : RepM cx σ N m w) {t : TypeId} {x y z : Operand} (ho : o.op = .mapUpdate t x y z) (ht : TabOK P T) (hx : repA (rx cx σ N m w) (av x) (ρ x)) (hy : repA (rx cx σ N m w) (av y) (ρ y)) (hz : repA (rx cx σ N m w) (av z) (ρ z))
    (hp : (opEff T G o [av x, av y, av z] m fr).pre) : Runs P w (Res cx σ N m w fr (opEff T G o [av x, av y, av z] m fr)) ((execOp ρ o).run P w) := by
  simp only [opEff, ho] at hp ⊢
  split at hp <;> rename_i heq
  · rename_i kT eT id k v hd
    simp at heq
    rw [heq.1] at hx
    rw [heq.2.1] at hy
    rw [heq.2.2] at hz
    split at hp
    · rename_i kt vt ka va l hm
      split at hp
      · rename_i k' x' him hiv
        split at hp
        · rename_i hc
          rw [if_pos hc]
          obtain ⟨c1, c2, c3, c4, c5, c6, c7, c8, c9, c10⟩ := hc
          have hu := (TI.of_ok ht t (fun e => by rw [e] at hd; cases hd)).map kT eT hd
          have htk := TI.of_ok ht kT (fun e => c4 (by rw [e]; rfl))
          have hte := TI.of_ok ht eT (fun e => by rw [e] at c2; cases c2)
          have hK := keyT_of (kt := kt) ht c3 c4
          rw [← c10] at hK
          unfold repA repC at hx
          obtain ⟨hn, e1⟩ := hx
          simp only [rx] at e1 hn
          -- the rows among the value turn into plain data
          obtain ⟨q1, q2⟩ := h.settles (rowsOf v.cells)
          have hiv' := impl_settle m (rowsOf v.cells) vt v.cells
          rw [hiv] at hiv'
          have hno := settled_not_own (m := m) (ids := rowsOf v.cells) hiv (fun _ hh => hh)
          have hmid : updM m ((rowsOf v.cells).map (settle m)) id = .mapb kt vt ka va l := by
            rw [updM_settle m (rowsOf v.cells) m id (fun _ _ => .inl rfl)]
            split
            · simp [settle, hm]
            · exact hm
          obtain ⟨kvs, e4, hkr⟩ := av_mkV (x := rx cx σ N m w) h.hone hy c5 (impl_ne him (by have := (htk.ty kt c1); omega))
          rw [c8] at e4
          have hro := impl_ro h kt k.cells k' kvs him hkr (fun id hid => by rw [c7] at hid; cases hid)
          obtain ⟨vvs, e5, hvr⟩ := av_mkV (x := rx cx σ N m w) h.hone hz c6 (impl_ne hiv (by have := (hte.ty vt c2); omega))
          rw [c9] at e5
          have hck := checkKey_sound (P := P) (w := w) (x := rx cx σ N m w) (em := false) 100 kT _ hK.eq 10000 (by omega) _ kvs _ (kinds_eq kt _ c3 k' k') (expl_rep kt k' kvs hro)
          rw [hK.ag] at hck
          have hmm : updM m ((rowsOf v.cells).map (settle m) ++ [(id, Blk.mapb kt vt ka va (mset l k' x'))]) = upd (updM m ((rowsOf v.cells).map (settle m))) id (.mapb kt vt ka va (mset l k' x')) := by
            rw [updM_append]; rfl
          generalize updM m ((rowsOf v.cells).map (settle m)) = M at *
          have hrov := impl_ro q1 vt v.cells x' vvs hiv' (repCs_keep q2 _ _ hvr) hno
          have hb := q1.blk id
          rw [hmid] at hb
          obtain ⟨r, es, clock, e2, e3, hmr⟩ := hb
          simp only [rx] at e2 e3
          have hroM := ro_keep q2.k kt k' kvs hro
          have hset := MapKept.heap_set (o' := .map es clock) e3
          -- the world behind
          have fin : ∀ es', (execOp ρ o).run P w = .ok .skip { w with heap := w.heap.setIfInBounds r es' } → (∀ y : Rx, (rx cx σ N M w).Keeps y → ∃ esA cl, es' = .map esA cl ∧ mapRep y kt vt ka va (mset l k' x') esA.toList) →
              Runs P w (Res cx σ N m w fr ⟨True, .one .undef, (rowsOf v.cells).map (settle m) ++ [(id, .mapb kt vt ka va (mset l k' x'))], True⟩) ((execOp ρ o).run P w) := by
            intro es' hrun hrep
            obtain ⟨f1, f2⟩ := MapKept.heap_set (o' := es') e3
            obtain ⟨g1, g2⟩ := q1.write hn (.mapb kt vt ka va (mset l k' x')) (b := r) (by rw [e2]; rfl) (by rw [hmid]; rfl) (w' := { w with heap := w.heap.setIfInBounds r es' }) f2 (by simp) rfl rfl rfl (fun hk => by
              obtain ⟨esA, cl, rfl, hmr'⟩ := hrep _ hk
              exact ⟨r, esA, cl, e2, f1, hmr'⟩)
            obtain ⟨g3, g4⟩ := g1.weaken (N' := Nx N fr) (fun _ k => k.1)
            refine runs_skip hrun ⟨σ, ?_, ?_, ?_, trivial⟩ <;> simp only [hmm]
            · exact g3
            · exact ⟨(q2.k.trans g2.k (Nat.le_refl _)).trans g4.k (by simp [rx]), fun _ _ => rfl, fun _ k => k.1⟩
            · unfold repA repC; trivial
          rcases map_cases (x := rx cx σ N M w) k' l es.toList hmr with ⟨g1, g2, g3⟩ | ⟨pre, e, post, k2, ks2, v2, vs2, g1, g2, g3, g4, g5, g6, g7, g8, g9⟩
          · have hf := findKey_sound (P := P) (w := w) (x := rx cx σ N M w) hK hroM es.toList [] g2 (.inl rfl)
            rw [List.append_nil] at hf
            refine fin (.map (es.push { key := mkV ka kvs, val := mkV va vvs, born := clock }) (clock + 1)) ?_ (fun y hk => ⟨_, _, rfl, ?_⟩)
            · simp [execOp, ho, Instr.mapUpdate, run_underlying hu, e1, e2, e3, e4, e5, hck, hf, getObj, setObj, Sem.run]
            · rw [g3, Array.toList_push]
              exact mapRep_append _ _ _ _ (mapRep_keep hk _ _ hmr) ⟨_, [], kvs, vvs, rfl, rfl, ro_keep hk.k _ _ _ hroM, rfl, ro_keep hk.k _ _ _ hrov, rfl⟩
          · have hf := findKey_sound (P := P) (w := w) (x := rx cx σ N M w) hK hroM pre (e :: post) g2 (.inr ⟨e, post, rfl, ⟨k2, ks2, g3, g4, g5⟩⟩)
            rw [← g1] at hf
            have hk2 : k' = k2 := keyEq_eq kt _ c3 k' k2 g5
            subst hk2
            have hks : ks2 = kvs := ro_det kt _ c3 k' ks2 kvs g4 hroM
            subst hks
            have hlt : pre.length < es.size := by
              have : es.toList.length = es.size := by simp
              rw [← this, g1]; simp
            have hget : es[pre.length]? = some e := by
              have : es.toList[pre.length]? = some e := by rw [g1]; simp
              simpa using this
            have hstay : (Instr.keyThatStays (mkV ka ks2) (mkV ka ks2)).run P w = .ok (mkV ka ks2) w := by
              have : Instr.sameBits 10000 (mkV ka ks2) (mkV ka ks2) = true := by
                have hsc := ro_scalars kt _ c3 k' ks2 hroM
                cases ka with
                | true => exact sameBits_agg hsc 9999
                | false =>
                  have hn1 : kt.n = 1 := by rw [(htk.ty kt c1).1]; exact htk.one (by rw [← c10])
                  have hl := ro_len kt k' ks2 hroM
                  rw [hn1] at hl
                  match ks2, hl with
                  | [u], _ => exact sameBits_self (hsc u (by simp)) 10000
              simp [Instr.keyThatStays, this]
            refine fin (.map (es.modify pre.length fun e => { e with key := mkV ka ks2, val := mkV va vvs }) clock) ?_ (fun y hk => ⟨_, _, rfl, ?_⟩)
            · simp [execOp, ho, Instr.mapUpdate, run_underlying hu, e1, e2, e3, e4, e5, hck, hf, getObj, setObj, Sem.run, hget, g3, hstay]
            · rw [Array.toList_modify, g1, modify_mid]
              exact g9 y hk x' _ ks2 vvs rfl (ro_keep hk.k _ _ _ hroM) rfl (ro_keep hk.k _ _ _ hrov)
        · exact hp.elim
      · exact hp.elim
    · exact hp.elim
  · exact hp.elim

/-! ### slices built -/

theorem fill_seq {size : Nat} (hpos : 0 < size) : ∀ (vs : List Value) (k : Nat) (done rest : List Value), done.length = k * size → rest.length = vs.length * size → (∀ v ∈ vs, v.cells.size = size) →
    Instr.fill (fun i => some (i * size, size)) (done ++ rest).toArray ((vs.zipIdx k).map fun p => (p.2, p.1)) = some (done ++ vs.flatMap fun v => v.cells.toList).toArray
  | [], k, done, rest, hd, hr, _ => by
    have : rest = [] := List.eq_nil_of_length_eq_zero (by simpa using hr)
    subst this
    rfl
  | v :: vs, k, done, rest, hd, hr, hs => by
    have hv := hs v List.mem_cons_self
    have hvl : v.cells.toList.length = size := by simpa using hv
    have hr' : rest.length = vs.length * size + size := by rw [hr, List.length_cons, Nat.add_mul, Nat.one_mul]
    simp only [List.zipIdx_cons, List.map_cons]
    rw [fill_step (fun i => some (i * size, size)) (done ++ rest) k v _ rfl hv (by simp; omega)]
    have h1 : (done ++ rest).take (k * size) = done := by rw [← hd]; exact List.take_left
    have h2 : (done ++ rest).drop (k * size + v.cells.toList.length) = rest.drop size := by rw [hvl, ← hd, ← List.drop_drop, List.drop_left]
    rw [h1, h2, fill_seq hpos vs (k + 1) (done ++ v.cells.toList) (rest.drop size) (by simp [hd, hv, Nat.add_mul]) (by simp; omega) (fun u hu => hs u (List.mem_cons_of_mem _ hu))]
    simp

theorem buildParts_ro {M : Mem} (q1 : RepM cx σ N M w) {e : TypeId} {u : Ty} (hsz : u.n = (TI.of T e).size) (hpos : 0 < u.n) : ∀ (avs : List AV) (pv : List Value) (xs : List u.den), seqO (avs.map fun v => if v.cells.length = (TI.of T e).size ∧ v.cells.all known = true then impl M u v.cells else none) = some xs →
    repAs (rx cx σ N M w) avs pv → (∀ a ∈ avs, ∀ id ∈ rowsOf a.cells, own (M id) = false) → roAll (ro w (Owned cx σ M) u) xs (pv.flatMap fun v => v.cells.toList) ∧ (∀ v ∈ pv, v.cells.size = u.n) ∧ pv.length = xs.length
  | [], pv, xs, hs, hr, _ => by
    unfold repAs at hr
    subst hr
    simp [seqO] at hs; subst hs
    exact ⟨rfl, (fun v hv => by cases hv), rfl⟩
  | a :: avs, pv, xs, hs, hr, hno => by
    unfold repAs at hr
    obtain ⟨v, r, rfl, ha, hr'⟩ := hr
    simp only [List.map_cons] at hs
    split at hs
    · rename_i hc
      cases hi : impl M u a.cells with
      | none => rw [hi] at hs; simp [seqO] at hs
      | some y =>
        rw [hi] at hs
        simp only [seqO] at hs
        split at hs
        · rename_i ys hys
          simp at hs; subst hs
          obtain ⟨h1, h2, h3⟩ := buildParts_ro q1 hsz hpos avs r ys hys hr' (fun a ha => hno a (List.mem_cons_of_mem _ ha))
          have hac := cells_of (x := rx cx σ N M w) q1.hone ha hc.2 (impl_ne hi hpos)
          have hro := impl_ro q1 u a.cells y _ hi hac (hno a List.mem_cons_self)
          have hl := ro_len u y _ hro
          refine ⟨⟨v.cells.toList, r.flatMap fun v => v.cells.toList, by simp, hro, h1⟩, fun v' hv' => ?_, by simp [h3]⟩
          cases List.mem_cons.1 hv' with
          | inl e => subst e; simpa using hl
          | inr e => exact h2 v' e
        · cases hs
    · simp [seqO] at hs

theorem repAs_map {x : Rx} {av : Operand → AV} {ρ : Operand → Value} : ∀ l : List Operand, (∀ y ∈ l, repA x (av y) (ρ y)) → repAs x (l.map av) (l.map ρ)
  | [], _ => by unfold repAs; rfl
  | y :: l, h => by
    simp only [List.map_cons]
    unfold repAs
    exact ⟨_, _, rfl, h y List.mem_cons_self, repAs_map l (fun z hz => h z (List.mem_cons_of_mem _ hz))⟩

theorem zip_range {α β : Type} (f : β → α) : ∀ (l : List (Nat × β)) (k : Nat), l.map (·.1) = List.range' k l.length → l.map (fun p => (p.1, f p.2)) = ((l.map fun p => f p.2).zipIdx k).map fun p => (p.2, p.1)
  | [], _, _ => rfl
  | (i, b) :: l, k, h => by
    simp only [List.map_cons, List.length_cons, List.range'_succ, List.cons.injEq] at h
    obtain ⟨rfl, h2⟩ := h
    simp [zip_range f l (i + 1) h2]

theorem s_buildSlice (h : RepM cx σ N m w) (hfr : ∀ id, fr ≤ id → id < fr + 32 → N id) {t : TypeId} {len : Nat} {parts : Array (Nat × Operand)} (ho : o.op = .buildSlice t len parts) (ht : TabOK P T)
    (hx : ∀ x ∈ opsOf o.op, repA (rx cx σ N m w) (av x) (ρ x)) (hp : (opEff T G o ((opsOf o.op).map av) m fr).pre) : Runs P w (Res cx σ N m w fr (opEff T G o ((opsOf o.op).map av) m fr)) ((execOp ρ o).run P w) := by
  rw [ho] at hx hp ⊢
  simp only [opEff, ho, opsOf] at hx hp ⊢
  split at hp
  · rename_i e hd
    split at hp
    · rename_i u hty
      split at hp
      · rename_i xs hbp
        split at hp
        · rename_i hc
          unfold seqIdx at hc
          obtain ⟨c1, c2, c3⟩ := of_decide_eq_true hc
          have hu := (TI.of_ok ht t (fun e => by rw [e] at hd; cases hd)).slice e hd
          have hte := TI.of_ok ht e (fun k => by rw [k] at hty; cases hty)
          obtain ⟨i, hi, hs, hby, z, hz, hzs, _⟩ := hte.info
          obtain ⟨hun, hpos, _⟩ := hte.ty u hty
          have hreps := repAs_map (x := rx cx σ N m w) _ hx
          have hids : ((parts.toList.map (·.2)).map av).flatMap (fun v => (rowsOf v.cells).map (settle m)) = (((parts.toList.map (·.2)).map av).flatMap fun v => rowsOf v.cells).map (settle m) := by
            rw [List.map_flatMap]
          simp only [hids]
          generalize hids' : ((parts.toList.map (·.2)).map av).flatMap (fun v => rowsOf v.cells) = ids at *
          obtain ⟨q1, q2⟩ := h.settles ids
          have hbp' : seqO (((parts.toList.map (·.2)).map av).map fun v => if v.cells.length = (TI.of T e).size ∧ v.cells.all known = true then impl (updM m (ids.map (settle m))) u v.cells else none) = some xs := by
            rw [← hbp]
            unfold buildParts
            congr 2
            funext v
            rw [impl_settle]
          have hown : ∀ a ∈ (parts.toList.map (·.2)).map av, ∀ id ∈ rowsOf a.cells, own (updM m (ids.map (settle m)) id) = false := by
            intro a ha id hid
            have hmem : id ∈ ids := by rw [← hids']; exact List.mem_flatMap.2 ⟨a, ha, hid⟩
            -- what is read there is a row or plain data
            have : ∃ y, impl m u a.cells = some y := by
              have key : ∀ (l : List AV) (ys : List u.den), seqO (l.map fun v => if v.cells.length = (TI.of T e).size ∧ v.cells.all known = true then impl m u v.cells else none) = some ys → ∀ a ∈ l, ∃ y, impl m u a.cells = some y := by
                intro l
                induction l with
                | nil => intro _ _ a ha; cases ha
                | cons b l ih =>
                  intro ys hys a ha
                  simp only [List.map_cons] at hys
                  split at hys
                  · cases hb : impl m u b.cells with
                    | none => rw [hb] at hys; simp [seqO] at hys
                    | some y =>
                      rw [hb] at hys
                      simp only [seqO] at hys
                      split at hys
                      · rename_i r hr
                        cases List.mem_cons.1 ha with
                        | inl e => subst e; exact ⟨y, hb⟩
                        | inr e => exact ih r hr a e
                      · cases hys
                  · simp [seqO] at hys
              exact key _ xs hbp a ha
            obtain ⟨y, hy⟩ := this
            rw [updM_settle m ids m id (fun _ _ => .inl rfl), if_pos hmem, settle_eq]
            obtain ⟨v, ys, hm | ⟨ee, hm⟩⟩ := rows_are _ _ _ hy id hid <;> simp [hm, own]
          have hreps' := repAs_keep q2 _ _ hreps
          obtain ⟨b1, b2, b3⟩ := buildParts_ro (T := T) q1 hun (by omega) _ _ xs hbp' hreps' hown
          have hplen : parts.toList.length = len := by simpa using c3
          have hxl : xs.length = len := by rw [← b3]; simpa using hplen
          have hfill := fill_seq (size := i.size) (by omega) ((parts.toList.map (·.2)).map ρ) 0 [] ((Array.range (len * i.size)).map (z.cells[· % z.cells.size]!)).toList (by simp) (by simp [hplen]) (fun v hv => by rw [b2 v hv]; omega)
          rw [List.nil_append, List.nil_append, Array.toArray_toList] at hfill
          have hpe := zip_range ρ parts.toList 0 (by rw [c1, hplen, List.range_eq_range'])
          have hrun : (execOp ρ o).run P w = .ok (.value (.slice (some ⟨w.heap.size, 0, none⟩) len len)) (w.alloc (.cells (((parts.toList.map (·.2)).map ρ).flatMap fun v => v.cells.toList).toArray e)) := by
            have h16 : ¬ (len * i.size > 2 ^ 24) := by rw [hs]; omega
            have hmm : (parts.toList.map (·.2)).map ρ = parts.toList.map fun p => ρ p.2 := by simp
            rw [hmm] at hfill ⊢
            rw [← hpe] at hfill
            by_cases h0 : len * i.size = 0
            · have hz0 : ∀ f : Nat → Value, (Array.range (len * i.size)).map f = #[] := by intro f; rw [h0]; simp
              rw [hz0] at hfill
              have hz1 : ∀ f : Nat → Value, (Array.range 0).map f = #[] := by intro f; simp
              simp [execOp, ho, Instr.buildSlice, run_underlying hu, run_sizeOf hi, h0, hz1, hfill, newRow]
            · simp [execOp, ho, Instr.buildSlice, run_underlying hu, run_sizeOf hi, h0, h16, run_zeroValue hi hz, hfill, newRow]
          have hfl := roAll_len (fun x c => ro_len u x c) _ _ b1
          have hlm : len ≤ maxLen := by
            have := Nat.le_mul_of_pos_right len hpos
            simp only [maxLen]; omega
          have := fresh_row (cx := cx) (w := w) (e := e) (t := u) (xs := xs) (cap := len) (p := True) (q := True) q2 q1 (hfr fr (by omega) (by omega)) (fun id hid _ => hid)
            (alloc_world w (.cells (((parts.toList.map (·.2)).map ρ).flatMap fun v => v.cells.toList).toArray e)) (heap_alloc_new w _) b1 (by omega) hlm (by rw [List.size_toArray, hfl, hxl]) (by
              show List.take _ (List.flatMap _ _) = _
              rw [← hfl]; exact List.take_length) trivial rfl
          rw [hxl] at this
          exact runs_value hrun this
        · exact hp.elim
      · exact hp.elim
    · exact hp.elim
  · exact hp.elim

end
end Go.Ev
