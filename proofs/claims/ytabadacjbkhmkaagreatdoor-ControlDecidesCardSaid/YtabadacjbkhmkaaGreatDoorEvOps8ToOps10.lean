/- Part. -/
import Derived.Test.YtabadacjbkhmkaaGreatDoorEvOps6ToPtr
import Derived.Laws.BytesString
import Derived.ChangeKeysEq
set_option linter.all false
namespace Go.Ev
section
variable {cx : Cx} {σ : Nat → Value} {N : Nat → Prop} {m : Mem} {w : World} {P : Program} {T : Tab} {G : Env} {o : Oper} {fr : Nat} {ρ : Operand → Value} {av : Operand → AV}
/-! ### equality -/
theorem tA5 : ∀ (d : Nat) (t : TypeId) (ks : List CK), eqTB P d t = some ks → ∃ i dd, P.info? t = some i ∧ i.size = ks.length ∧ P.underlying t = some dd ∧ (aggB dd = false → i.size = 1)
 | 0, _, _, h => by simp [eqTB] at h
 | d + 1, t, ks, h => by
   rw [eqTB] at h
   cases hi : P.info? t with
   | none => rw [hi] at h; cases hu : P.underlying t <;> rw [hu] at h <;> simp at h
   | some i =>
     rw [hi] at h; split at h
     · rename_i k e1 e2; simp at h e2; subst h; exact ⟨i, _, rfl, e2, e1, fun _ => e2⟩
     · rename_i e1 e2; simp at h e2; subst h; exact ⟨i, _, rfl, e2, e1, fun _ => e2⟩
     · rename_i e1 e2; simp at h e2; subst h; exact ⟨i, _, rfl, e2, e1, fun _ => e2⟩
     · rename_i fs n e1 e2; split at h
       · cases h
       · split at h
         · rename_i ks' hk; split at h
           · rename_i hl; simp at h e2; subst h; exact ⟨i, _, rfl, by omega, e1, fun hh => by simp [aggB] at hh⟩
           · cases h
         · cases h
     · rename_i k e n e1 e2; split at h
       · rename_i ks' hk; split at h
         · rename_i hl; simp at h e2; subst h; exact ⟨i, _, rfl, by simp [List.length_flatten]; omega, e1, fun hh => by simp [aggB] at hh⟩
         · cases h
       · cases h
     · cases h
theorem iA1 : ∀ (k1 k2 : List CK) (cs ds : List C1) (q : Bool), eqCells (k1 ++ k2) cs ds = some q →
 ∃ q1 q2, eqCells k1 (cs.take k1.length) (ds.take k1.length) = some q1 ∧ eqCells k2 (cs.drop k1.length) (ds.drop k1.length) = some q2 ∧ q = (q1 && q2)
 | [], k2, cs, ds, q, h => ⟨true, q, by simp [eqCells], by simpa using h, by simp⟩
 | k :: k1, k2, cs, ds, q, h => by
   rw [List.cons_append] at h
   cases k with
   | i kk =>
     match cs, ds, h with
     | .int a x :: cs, .int b y :: ds, h =>
       simp only [eqCells] at h; split at h
       · rename_i hk; obtain ⟨q', hq, rfl⟩ := Option.map_eq_some_iff.1 h; obtain ⟨q1, q2, h1, h2, h3⟩ := iA1 k1 k2 cs ds q' hq; refine ⟨decide (x = y) && q1, q2, ?_, by simpa using h2, by rw [h3, Bool.and_assoc]⟩; simp [eqCells, hk, h1]
       · cases h
   | b =>
     match cs, ds, h with
     | .bool x :: cs, .bool y :: ds, h =>
       simp only [eqCells] at h; obtain ⟨q', hq, rfl⟩ := Option.map_eq_some_iff.1 h; obtain ⟨q1, q2, h1, h2, h3⟩ := iA1 k1 k2 cs ds q' hq
       exact ⟨decide (x = y) && q1, q2, by simp [eqCells, h1], by simpa using h2, by rw [h3, Bool.and_assoc]⟩
   | s =>
     match cs, ds, h with
     | .str x :: cs, .str y :: ds, h =>
       simp only [eqCells] at h; obtain ⟨q', hq, rfl⟩ := Option.map_eq_some_iff.1 h; obtain ⟨q1, q2, h1, h2, h3⟩ := iA1 k1 k2 cs ds q' hq; exact ⟨decide (x = y) && q1, q2, by simp [eqCells, h1], by simpa using h2, by rw [h3, Bool.and_assoc]⟩
theorem eA1 : ∀ (ks : List CK) (cs ds : List C1) (q : Bool), eqCells ks cs ds = some q → cs.length = ks.length ∧ ds.length = ks.length
 | [], cs, ds, q, h => by
   match cs, ds, h with
   | [], [], _ => exact ⟨rfl, rfl⟩
 | k :: ks, cs, ds, q, h => by
   cases k with
   | i kk =>
     match cs, ds, h with
     | .int a x :: cs, .int b y :: ds, h =>
       simp only [eqCells] at h; split at h
       · obtain ⟨q', hq, rfl⟩ := Option.map_eq_some_iff.1 h; have := eA1 ks cs ds q' hq; simp [this]
       · cases h
   | b =>
     match cs, ds, h with
     | .bool x :: cs, .bool y :: ds, h =>
       simp only [eqCells] at h; obtain ⟨q', hq, rfl⟩ := Option.map_eq_some_iff.1 h; have := eA1 ks cs ds q' hq
       simp [this]
   | s =>
     match cs, ds, h with
     | .str x :: cs, .str y :: ds, h =>
       simp only [eqCells] at h; obtain ⟨q', hq, rfl⟩ := Option.map_eq_some_iff.1 h; have := eA1 ks cs ds q' hq; simp [this]
theorem xA8 {k : IntKind} {cs ds : List C1} {q : Bool} (h : eqCells [.i k] cs ds = some q) : ∃ a b, cs = [.int k a] ∧ ds = [.int k b] ∧ q = decide (a = b) := by
 obtain ⟨l1, l2⟩ := eA1 _ _ _ _ h
 match cs, l1, ds, l2 with
 | [c], _, [d], _ =>
   cases c <;> cases d <;> simp [eqCells] at h
   obtain ⟨⟨rfl, rfl⟩, hq⟩ := h; exact ⟨_, _, rfl, rfl, hq.symm⟩
theorem wA8 {cs ds : List C1} {q : Bool} (h : eqCells [.b] cs ds = some q) : ∃ a b, cs = [.bool a] ∧ ds = [.bool b] ∧ q = decide (a = b) := by
 obtain ⟨l1, l2⟩ := eA1 _ _ _ _ h
 match cs, l1, ds, l2 with
 | [c], _, [d], _ =>
   cases c <;> cases d <;> simp [eqCells] at h
   exact ⟨_, _, rfl, rfl, h.symm⟩
theorem tA7 {cs ds : List C1} {q : Bool} (h : eqCells [.s] cs ds = some q) : ∃ a b, cs = [.str a] ∧ ds = [.str b] ∧ q = decide (a = b) := by
 obtain ⟨l1, l2⟩ := eA1 _ _ _ _ h
 match cs, l1, ds, l2 with
 | [c], _, [d], _ =>
   cases c <;> cases d <;> simp [eqCells] at h
   exact ⟨_, _, rfl, rfl, h.symm⟩
theorem mA6 {x : Rx} {f : TypeId → Option (List CK)} {D : Nat}
 (hf : ∀ t ks, f t = some ks → (∃ i dd, P.info? t = some i ∧ i.size = ks.length ∧ P.underlying t = some dd ∧ (aggB dd = false → i.size = 1)) ∧
   ∀ cs ds xs ys q, eqCells ks cs ds = some q → repCs x cs xs → repCs x ds ys → (Op.equalIn D t (mkV (isAggB P t) xs) (mkV (isAggB P t) ys)).run P w = .ok q w) :
 ∀ (fs : List Field) (off : Nat) (ks : List CK), eqTB.eqFs f fs off = some ks → ∀ (pre pre' xs ys : List Value) (cs ds : List C1) (q : Bool), pre.length = off → pre'.length = off → eqCells ks cs ds = some q → repCs x cs xs → repCs x ds ys →
   (Op.eqFields D (pre ++ xs).toArray (pre' ++ ys).toArray fs).run P w = .ok q w
 | [], off, ks, h, pre, pre', xs, ys, cs, ds, q, _, _, hq, _, _ => by
   simp [eqTB.eqFs] at h; subst h
   match cs, ds, hq with
   | [], [], hq => simp [eqCells] at hq; subst hq; rfl
 | fd :: fs, off, ks, h, pre, pre', xs, ys, cs, ds, q, hl, hl', hq, hr, hr' => by
   rw [eqTB.eqFs] at h; split at h
   · rename_i hc; obtain ⟨c1, c2⟩ := hc; split at h
     · rename_i kx hkx; obtain ⟨ks', hks', rfl⟩ := Option.map_eq_some_iff.1 h; obtain ⟨⟨i, dd, hi, hs, hu, h1⟩, heq⟩ := hf _ _ hkx; obtain ⟨q1, q2, hq1, hq2, rfl⟩ := iA1 _ _ _ _ _ hq; have hxl := jA0 _ _ hr; have hyl := jA0 _ _ hr'; obtain ⟨e1, e2⟩ := eA1 _ _ _ _ hq; simp only [List.length_append] at e1 e2; have hag : isAggB P fd.type = aggB dd := by simp [isAggB, hu]
       have hp1 : (part fd.type (pre ++ xs).toArray fd.offset).run P w = .ok (mkV (isAggB P fd.type) (xs.take kx.length)) w := by
        rw [zA3 hi hu h1 (pre ++ xs) fd.offset (by simp; omega) (fun hh => by have := h1 hh; simp; omega), hag, hs, c2, ← hl, List.drop_left]; rfl
       have hp2 : (part fd.type (pre' ++ ys).toArray fd.offset).run P w = .ok (mkV (isAggB P fd.type) (ys.take kx.length)) w := by
        rw [zA3 hi hu h1 (pre' ++ ys) fd.offset (by simp; omega) (fun hh => by have := h1 hh; simp; omega), hag, hs, c2, ← hl', List.drop_left]; rfl
       have he := heq _ _ _ _ _ hq1 (lA0 kx.length _ _ hr) (lA0 kx.length _ _ hr'); have ih := mA6 hf fs (off + kx.length) ks' hks' (pre ++ xs.take kx.length) (pre' ++ ys.take kx.length) (xs.drop kx.length) (ys.drop kx.length) _ _ q2 (by simp; omega) (by simp; omega) hq2 (mA0 _ _ _ hr) (mA0 _ _ _ hr'); rw [List.append_assoc, List.take_append_drop, List.append_assoc, List.take_append_drop] at ih; simp only [Op.eqFields, c1, ne_eq, not_false_eq_true, if_true, Sem.run_bind, hp1, hp2, he, Result.andThen_ok]
       cases q1 with
       | true => simpa using ih
       | false => simp
     · cases h
   · cases h
theorem kA8 {x : Rx} {D : Nat} {e : TypeId} {ks : List CK} (hsz : ∃ i dd, P.info? e = some i ∧ i.size = ks.length ∧ P.underlying e = some dd ∧ (aggB dd = false → i.size = 1))
 (heq : ∀ cs ds xs ys q, eqCells ks cs ds = some q → repCs x cs xs → repCs x ds ys → (Op.equalIn D e (mkV (isAggB P e) xs) (mkV (isAggB P e) ys)).run P w = .ok q w) :
 ∀ (n j : Nat) (pre pre' xs ys : List Value) (cs ds : List C1) (q : Bool), pre.length = j * ks.length → pre'.length = j * ks.length → eqCells (List.replicate n ks).flatten cs ds = some q → repCs x cs xs → repCs x ds ys →
   (Op.eqItems D e ks.length (pre ++ xs).toArray (pre' ++ ys).toArray (List.range' j n)).run P w = .ok q w
 | 0, j, pre, pre', xs, ys, cs, ds, q, _, _, hq, _, _ => by
   simp only [List.replicate_zero, List.flatten_nil] at hq
   match cs, ds, hq with
   | [], [], hq => simp [eqCells] at hq; subst hq; rfl
 | n + 1, j, pre, pre', xs, ys, cs, ds, q, hl, hl', hq, hr, hr' => by
   rw [List.replicate_succ, List.flatten_cons] at hq; obtain ⟨i, dd, hi, hs, hu, h1⟩ := hsz; obtain ⟨q1, q2, hq1, hq2, rfl⟩ := iA1 _ _ _ _ _ hq; have hxl := jA0 _ _ hr; have hyl := jA0 _ _ hr'; obtain ⟨e1, e2⟩ := eA1 _ _ _ _ hq; simp only [List.length_append] at e1 e2; have hag : isAggB P e = aggB dd := by simp [isAggB, hu]
   have hp1 : (part e (pre ++ xs).toArray (j * ks.length)).run P w = .ok (mkV (isAggB P e) (xs.take ks.length)) w := by
    rw [zA3 hi hu h1 (pre ++ xs) (j * ks.length) (by simp; omega) (fun hh => by have := h1 hh; simp; omega), hag, hs, ← hl, List.drop_left]; rfl
   have hp2 : (part e (pre' ++ ys).toArray (j * ks.length)).run P w = .ok (mkV (isAggB P e) (ys.take ks.length)) w := by
    rw [zA3 hi hu h1 (pre' ++ ys) (j * ks.length) (by simp; omega) (fun hh => by have := h1 hh; simp; omega), hag, hs, ← hl', List.drop_left]; rfl
   have he := heq _ _ _ _ _ hq1 (lA0 ks.length _ _ hr) (lA0 ks.length _ _ hr'); have hm : (j + 1) * ks.length = j * ks.length + ks.length := by rw [Nat.add_mul, Nat.one_mul]
   have ih := kA8 ⟨i, dd, hi, hs, hu, h1⟩ heq n (j + 1) (pre ++ xs.take ks.length) (pre' ++ ys.take ks.length) (xs.drop ks.length) (ys.drop ks.length) _ _ q2 (by simp; omega) (by simp; omega) hq2 (mA0 _ _ _ hr) (mA0 _ _ _ hr'); rw [List.append_assoc, List.take_append_drop, List.append_assoc, List.take_append_drop] at ih; simp only [List.range'_succ, Op.eqItems, Sem.run_bind, hp1, hp2, he, Result.andThen_ok]
   cases q1 with
   | true => simpa using ih
   | false => simp
theorem iA7 {x : Rx} : ∀ (d : Nat) (t : TypeId) (ks : List CK), eqTB P d t = some ks → ∀ D, d ≤ D → ∀ cs ds xs ys q, eqCells ks cs ds = some q → repCs x cs xs → repCs x ds ys →
 (Op.equalIn D t (mkV (isAggB P t) xs) (mkV (isAggB P t) ys)).run P w = .ok q w
 | 0, t, ks, h, _, _, _, _, _, _, _, _, _, _ => by simp [eqTB] at h
 | d + 1, t, ks, h, D, hD, cs, ds, xs, ys, q, hq, hr, hr' => by
   obtain ⟨D', rfl⟩ : ∃ D', D = D' + 1 := ⟨D - 1, by omega⟩; have h0 := h; rw [eqTB] at h; split at h
   · rename_i k e1 e2; simp at h; subst h; obtain ⟨a, b, rfl, rfl, rfl⟩ := xA8 hq; obtain ⟨v, r, rfl, h1, h2⟩ := repCs_cons.1 hr; obtain ⟨v', r', rfl, h1', h2'⟩ := repCs_cons.1 hr'; unfold repC at h1 h1'; have : isAggB P t = false := by simp [isAggB, e1, aggB]
     rw [this, h1.1, h1'.1]; show (Op.equalIn (D' + 1) t (.int k a) (.int k b)).run P w = _; rw [run_equalIn_int w D' t k k a b e1]; by_cases hab : a = b <;> simp [hab]
   · rename_i e1 e2; simp at h; subst h; obtain ⟨a, b, rfl, rfl, rfl⟩ := wA8 hq; obtain ⟨v, r, rfl, h1, h2⟩ := repCs_cons.1 hr; obtain ⟨v', r', rfl, h1', h2'⟩ := repCs_cons.1 hr'; unfold repC at h1 h1'; have : isAggB P t = false := by simp [isAggB, e1, aggB]
     rw [this, h1, h1']; show (Op.equalIn (D' + 1) t (.bool a) (.bool b)).run P w = _; rw [run_equalIn_bool w D' t a b e1]; cases a <;> cases b <;> rfl
   · rename_i e1 e2; simp at h; subst h; obtain ⟨a, b, rfl, rfl, rfl⟩ := tA7 hq; obtain ⟨v, r, rfl, h1, h2⟩ := repCs_cons.1 hr; obtain ⟨v', r', rfl, h1', h2'⟩ := repCs_cons.1 hr'; unfold repC at h1 h1'; have : isAggB P t = false := by simp [isAggB, e1, aggB]
     rw [this, h1.1, h1'.1]; show (Op.equalIn (D' + 1) t (.string a) (.string b)).run P w = _; rw [run_equalIn_string w D' t a b e1, xA6]
   · rename_i fs n e1 e2; split at h
     · cases h
     · rename_i hst; split at h
       · rename_i ks' hk; split at h
         · simp at h; subst h; have : isAggB P t = true := by simp [isAggB, e1, aggB]
           rw [this]; show (Op.equalIn (D' + 1) t (.agg xs.toArray) (.agg ys.toArray)).run P w = _; have hfo : P.fieldsOf t = fs := by simp [Program.fieldsOf, e1]
           rw [run_equalIn_struct w D' t _ _ (by rw [hfo]; exact e1) (by simpa using hst), hfo]; exact mA6 (x := x) (f := eqTB P d) (D := D') (fun t ks hk => ⟨tA5 d t ks hk, fun cs ds xs ys q hq hr hr' => iA7 d t ks hk D' (by omega) cs ds xs ys q hq hr hr'⟩) fs.toList 0 ks' hk [] [] xs ys cs ds q rfl rfl hq hr hr'
         · cases h
       · cases h
   · rename_i k e n e1 e2; split at h
     · rename_i ks' hk; split at h
       · simp at h; subst h; have : isAggB P t = true := by simp [isAggB, e1, aggB]
         rw [this]; show (Op.equalIn (D' + 1) t (.agg xs.toArray) (.agg ys.toArray)).run P w = _; have hz := tA5 d e ks' hk; obtain ⟨i, dd, hi, hs, hu, h1⟩ := hz; have hc : P.cellsOf e = ks'.length := by simp [Program.cellsOf, hi, hs]
         rw [run_equalIn_array w D' _ _ e1 hi, hc, List.range_eq_range']; exact kA8 (x := x) (D := D') ⟨i, dd, hi, hs, hu, h1⟩ (fun cs ds xs ys q hq hr hr' => iA7 d e ks' hk D' (by omega) cs ds xs ys q hq hr hr') k 0 [] [] xs ys cs ds q (by simp) (by simp) hq hr hr'
       · cases h
     · cases h
   · cases h
theorem aC3 (h : RepM cx σ N m w) {op : BinOp} {t u : TypeId} {x y : Operand} (ho : o.op = .binOp op t x y u) (ht : TabOK P T) {cs ds : List C1} (hx : repA (rx cx σ N m w) (.agg cs) (ρ x)) (hy : repA (rx cx σ N m w) (.agg ds) (ρ y))
 (hne : (TI.of T t).eqn ≠ []) (hag : (TI.of T t).agg = true) {q : Bool} (hq : eqCells (TI.of T t).eqn cs ds = some q) (hop : op = .eql ∨ op = .neq) :
 Runs P w (Res cx σ N m w fr (okr (.one (.bool (if op = .eql then q else !q))))) ((execOp ρ o).run P w) := by
 have htt := TI.of_ok ht t (fun e => hne (by rw [e]; rfl)); obtain ⟨he, hg⟩ := htt.eqn hne; obtain ⟨dd, hdd, hagg⟩ := htt.agg; have hia : isAggB P t = true := by simp [isAggB, hdd, hagg, hag]
 unfold repA at hx hy; obtain ⟨xs, e1, hr1⟩ := hx; obtain ⟨ys, e2, hr2⟩ := hy; have hs := iA7 (P := P) (w := w) (x := rx cx σ N m w) 100 t _ he 10000 (by omega) cs ds xs ys q hq hr1 hr2; rw [hia] at hs; have hs' : (Op.equalIn 10000 t (.agg xs.toArray) (.agg ys.toArray)).run P w = .ok q w := hs; have hgd := run_eqGuard_agg (P := P) w op t x y xs.toArray ys.toArray hg
 rcases hop with rfl | rfl
 · refine bA0 (v := .bool q) (w' := w) ?_ (rA0 h (kA1 _)); simp only [execOp, ho, e1, e2, Sem.run_bind, hgd, Result.andThen_ok, run_eql_struct, hs', Sem.run_pure]
 · refine bA0 (v := .bool (!q)) (w' := w) ?_ (rA0 h (kA1 _)); simp only [execOp, ho, e1, e2, Sem.run_bind, hgd, Result.andThen_ok, run_neq_struct, hs', Sem.run_pure]
theorem oC9 (h : RepM cx σ N m w) {op : BinOp} {t u : TypeId} {x y : Operand} (ho : o.op = .binOp op t x y u) (ht : TabOK P T) (hx : repA (rx cx σ N m w) (av x) (ρ x)) (hy : repA (rx cx σ N m w) (av y) (ρ y))
 (hp : (opEff T G o [av x, av y] m fr).pre) : Runs P w (Res cx σ N m w fr (opEff T G o [av x, av y] m fr)) ((execOp ρ o).run P w) := by
 simp only [opEff, ho] at hp ⊢; split at hp <;> rename_i heq
 · rename_i a b; simp at heq; rw [heq.1] at hx; rw [heq.2] at hy; split at hp
   · rename_i hd; exact fD1 h ho hx hy (.inl ((TI.of_ok ht t (fun e => by rw [e] at hd; cases hd)).bool hd)) hp
   · exact hp.elim
 · rename_i k a k' b; simp at heq; rw [heq.1] at hx; rw [heq.2] at hy; by_cases h6 : wfOf G o.dst = 6
   · rw [if_pos h6] at hp ⊢; obtain ⟨e1, r1⟩ := lA1 hx; obtain ⟨e2, r2⟩ := lA1 hy; have hg : (eqGuard op t x y (ρ x) (ρ y)).run P w = .ok () w := by rw [e1, e2]; unfold eqGuard; cases op <;> simp
     unfold wrapE at hp ⊢
     cases op <;> simp only at hp ⊢ <;> first
      | exact hp.elim
      | (split at hp
         · rename_i hk; subst hk; simp only [if_true]; refine bA0 (v := .int k _) (w' := w) ?_ (hA5 h fr k _ _ (IntKind.wrap_inR k _)); simp only [execOp, ho, Sem.run_bind, hg, Result.andThen_ok]; rw [e1, e2]; simp [binOp, Op.intArith]
         · exact hp.elim)
   rw [if_neg h6] at hp ⊢; split at hp
   · obtain ⟨e1, r1⟩ := lA1 hx; obtain ⟨e2, r2⟩ := lA1 hy; obtain ⟨p1, p2, p3⟩ := hp; have hg : (eqGuard .shr t x y (ρ x) (ρ y)).run P w = .ok () w := by rw [e1, e2]; unfold eqGuard; simp
     have hpow : (0 : Int) < 2 ^ b.toNat := Int.pow_pos (by decide); have hdiv : a.fdiv (2 ^ min b.toNat k.bits) = a / 2 ^ b.toNat ∨ True := .inr trivial; have hR : InR k (a / 2 ^ b.toNat) := by
      have h1 : 0 ≤ a / 2 ^ b.toNat := Int.ediv_nonneg p1 (by omega); have h2 : a / 2 ^ b.toNat ≤ a := Int.ediv_le_self _ p1; have h3 : k.min ≤ 0 := by cases k <;> simp [IntKind.min, IntKind.signed, IntKind.bits]
      exact ⟨by omega, by have := r1.2; omega⟩
     refine bA0 (v := .int k (a / 2 ^ b.toNat)) (w' := w) ?_ (hA5 h fr k _ _ hR); have hrun : (binOp .shr t (ρ x) (ρ y)).run P w = .ok (.int k (a / 2 ^ b.toNat)) w := by
      rw [e1, e2]; simp only [binOp, Op.shift]; rw [if_neg (by omega)]; by_cases hb : b.toNat ≤ k.bits
      · rw [Nat.min_eq_left hb, Int.fdiv_eq_ediv_of_nonneg _ (by omega)]; rfl
      · have hk : k.bits < b.toNat := by omega
        rw [Nat.min_eq_right (by omega), Int.fdiv_eq_ediv_of_nonneg _ (by have : (0 : Int) < 2 ^ k.bits := Int.pow_pos (by decide); omega)]; have hmx : a < 2 ^ k.bits := by
         have := r1.2; cases k <;> simp [IntKind.max, IntKind.signed, IntKind.bits] at this ⊢ <;> omega
        have hmx2 : a < 2 ^ b.toNat := by
         have : (2 : Int) ^ k.bits ≤ 2 ^ b.toNat := by exact_mod_cast Nat.pow_le_pow_right (n := 2) (by decide) (show k.bits ≤ b.toNat by omega)
         omega
        rw [Int.ediv_eq_zero_of_lt p1 hmx, Int.ediv_eq_zero_of_lt p1 hmx2]; rfl
     simp [execOp, ho, hg, hrun]
   · exact fD1 h ho hx hy (.inr (fun a b hh => by simp at hh)) hp
 · simp at heq; rw [heq.1] at hx; rw [heq.2] at hy; exact fD1 h ho hx hy (.inr (fun a b hh => by simp at hh)) hp
 · rename_i id sz i off; simp at heq; rw [heq.1] at hx; rw [heq.2] at hy; unfold repA repC at hx hy; obtain ⟨_, b, n, c, _, e1⟩ := hx; unfold ptrNil at hp ⊢; split at hp
   · rename_i te hd; have hu := (TI.of_ok ht t (fun e => by rw [e] at hd; cases hd)).ptr te hd; have hg : (eqGuard op t x y (ρ x) (ρ y)).run P w = .ok () w := by rw [e1, hy]; unfold eqGuard; cases op <;> simp
     rw [e1, hy] at hg; split at hp
     · exact bA0 (v := .bool false) (w' := w) (by simp [execOp, ho, hg, e1, hy, tA6 hu]) (rA0 h (kA1 _))
     · exact bA0 (v := .bool true) (w' := w) (by simp [execOp, ho, hg, e1, hy, vA6 hu]) (rA0 h (kA1 _))
     · exact hp.elim
   · exact hp.elim
 · simp at heq; rw [heq.1] at hx; rw [heq.2] at hy; unfold repA repC at hx hy; unfold ptrNil at hp ⊢; split at hp
   · rename_i te hd; have hu := (TI.of_ok ht t (fun e => by rw [e] at hd; cases hd)).ptr te hd; have hg : (eqGuard op t x y (ρ x) (ρ y)).run P w = .ok () w := by rw [hx, hy]; unfold eqGuard; cases op <;> simp
     rw [hx, hy] at hg; split at hp
     · exact bA0 (v := .bool true) (w' := w) (by simp [execOp, ho, hg, hx, hy, dA8 hu]) (rA0 h (kA1 _))
     · exact bA0 (v := .bool false) (w' := w) (by simp [execOp, ho, hg, hx, hy, mA8 hu]) (rA0 h (kA1 _))
     · exact hp.elim
   · exact hp.elim
 · rename_i cs ds; simp at heq; rw [heq.1] at hx; rw [heq.2] at hy; split at hp
   · exact hp.elim
   · rename_i hne; rw [if_neg hne]; simp only [not_or] at hne; split at hp
     · rename_i q hq; have := aC3 (fr := fr) h ho ht hx hy hne.1 (by simpa using hne.2) hq (.inl rfl); simpa using this
     · rename_i q hq; have := aC3 (fr := fr) h ho ht hx hy hne.1 (by simpa using hne.2) hq (.inr rfl); simpa using this
     · exact hp.elim
 · exact hp.elim
theorem hB7 {w : World} {O : Nat → Prop} : ∀ (ys : List Int) (flat : List Value), roAll (ro w O (.int .u8)) ys flat → flat = ys.map (Value.int .u8)
 | [], flat, h => h
 | y :: ys, flat, h => by
   obtain ⟨c, d, rfl, h1, h2⟩ := h; rw [hB7 ys d h2, h1.1]; rfl
theorem zB8 (ys : List Int) : (strOf ys).size = ys.length := by
 have key : ∀ (ys : List Int) (r : ByteArray), (ys.foldl (fun r n => r.push (UInt8.ofNat n.toNat)) r).size = r.size + ys.length := by
  intro ys
  induction ys with
  | nil => intro r; rfl
  | cons y ys ih => intro r; rw [List.foldl_cons, ih, ByteArray.size_push, List.length_cons]; omega
 have := key ys ByteArray.empty; simpa [strOf] using this
theorem xD4 (h : RepM cx σ N m w) {s t : TypeId} {x : Operand} (ho : o.op = .convert s t x) (ht : TabOK P T) {c : C1} (hc : repC (rx cx σ N m w) c (ρ x))
 (hp : (strE T m (TI.of T s) (TI.of T t) c).pre) : Runs P w (Res cx σ N m w fr (strE T m (TI.of T s) (TI.of T t) c)) ((execOp ρ o).run P w) := by
 unfold strE at hp ⊢; split at hp
 · rename_i e hd1 hd2; split at hp
   · rename_i he1 he2; split at hp
     · rename_i ys hv; obtain ⟨a, n, cap, flat, e1, e2, e3, e4, e5, e6⟩ := rA4 h hv hc; have hfl := hB7 ys flat e5; have hs := (TI.of_ok ht s (fun e => by rw [e] at hd1; cases hd1)).slice e hd1; have he := (TI.of_ok ht e (fun e => by rw [e] at he1; cases he1)).int .u8 he1 he2; have hd := (TI.of_ok ht t (fun e => by rw [e] at hd2; cases hd2)).str hd2; have hsz : (strOf ys).size ≤ maxLen := by rw [zB8]; omega
       subst hfl; refine bA0 (v := .string (strOf ys)) (w' := w) ?_ (Res.pure h rfl ?_ trivial)
       · have hl : (convert s t (ρ x)).run P w = .ok (.string (strOf ys)) w := by
          rw [e1, run_convert_bytes_string w s t e _ _ _ hs he hd]
          rcases e6 with ⟨c0, f0⟩ | ⟨b, o', ha, hcell⟩
          · have hy : ys = [] := List.map_eq_nil_iff.1 f0; subst hy; have hn : n = 0 := by simpa using e2
            subst hn
            cases a with
            | none => simp [Conv.bytesToString, strOf]
            | some a => exact run_bytesToString w a 0 cap [] (by simp [loadCells, loadCellsFrom])
          · subst ha; refine run_bytesToString w _ _ cap ys ?_; have := run_loadCells_list (P := P) w ⟨b, o', none⟩ (ys.map (Value.int .u8)) (fun j v hj => by rw [oA0]; exact hcell j v hj)
            rwa [List.length_map, ← e2] at this
         simp [execOp, ho, hl]
       · unfold repA repC; exact ⟨rfl, hsz⟩
     · exact hp.elim
   · exact hp.elim
 · exact hp.elim
theorem hC2 (h : RepM cx σ N m w) {s t : TypeId} {x : Operand} (ho : o.op = .convert s t x) (ht : TabOK P T) (hx : repA (rx cx σ N m w) (av x) (ρ x))
 (hp : (opEff T G o [av x] m fr).pre) : Runs P w (Res cx σ N m w fr (opEff T G o [av x] m fr)) ((execOp ρ o).run P w) := by
 simp only [opEff, ho] at hp ⊢; split at hp <;> rename_i heq
 · rename_i k n; simp at heq; rw [heq] at hx; obtain ⟨e1, r1⟩ := lA1 hx; split at hp
   · rename_i k1 k2 hd1 ht1 hd2 ht2; split at hp
     · rename_i hk; rw [if_pos hk]; have hs := (TI.of_ok ht s (fun e => by rw [e] at ht1; cases ht1)).int k1 hd1 ht1; have hd := (TI.of_ok ht t (fun e => by rw [e] at ht2; cases ht2)).int k2 hd2 ht2; refine bA0 (v := .int k2 n) (w' := w) ?_ (hA5 h fr k2 _ _ hp); simp [execOp, ho, e1, convert, run_underlying hs, run_underlying hd, Conv.intToInt, IntKind.wrap_in hp]
     · exact hp.elim
   · exact hp.elim
 · rename_i c _; simp at heq; rw [heq] at hx; unfold repA at hx; exact xD4 h ho ht hx hp
 · exact hp.elim
end
end Go.Ev

namespace Go.Ev
section
variable {cx : Cx} {σ : Nat → Value} {N : Nat → Prop} {m : Mem} {w : World} {P : Program} {T : Tab} {G : Env} {o : Oper} {fr : Nat} {ρ : Operand → Value} {av : Operand → AV}
/-! ### keys -/
theorem iA2 : ∀ (k1 k2 : List CK) (cs ds cs' ds' : List C1) (q q' : Bool), eqCells k1 cs ds = some q → eqCells k2 cs' ds' = some q' → eqCells (k1 ++ k2) (cs ++ cs') (ds ++ ds') = some (q && q')
 | [], k2, cs, ds, cs', ds', q, q', h, h' => by
   match cs, ds, h with
   | [], [], h => simp [eqCells] at h; subst h; simpa using h'
 | .i kk :: k1, k2, cs, ds, cs', ds', q, q', h, h' => by
   match cs, ds, h with
   | .int a x :: cs, .int b y :: ds, h =>
     simp only [eqCells] at h; split at h
     · rename_i hk; obtain ⟨q0, hq, rfl⟩ := Option.map_eq_some_iff.1 h; have := iA2 k1 k2 cs ds cs' ds' q0 q' hq h'; simp [eqCells, hk, this, Bool.and_assoc]
     · cases h
 | .b :: k1, k2, cs, ds, cs', ds', q, q', h, h' => by
   match cs, ds, h with
   | .bool x :: cs, .bool y :: ds, h =>
     simp only [eqCells] at h; obtain ⟨q0, hq, rfl⟩ := Option.map_eq_some_iff.1 h; have := iA2 k1 k2 cs ds cs' ds' q0 q' hq h'
     simp [eqCells, this, Bool.and_assoc]
 | .s :: k1, k2, cs, ds, cs', ds', q, q', h, h' => by
   match cs, ds, h with
   | .str x :: cs, .str y :: ds, h =>
     simp only [eqCells] at h; obtain ⟨q0, hq, rfl⟩ := Option.map_eq_some_iff.1 h; have := iA2 k1 k2 cs ds cs' ds' q0 q' hq h'; simp [eqCells, this, Bool.and_assoc]
theorem eA3 : ∀ (t : Ty) (ks : List CK), kindsOf t = some ks → ∀ a b : t.den, eqCells ks (expl t a) (expl t b) = some (keyEq t a b)
 | .int k, ks, h, a, b => by simp [kindsOf] at h; subst h; simp [expl, eqCells, keyEq]
 | .bool, ks, h, a, b => by simp [kindsOf] at h; subst h; simp [expl, eqCells, keyEq]
 | .str, ks, h, a, b => by simp [kindsOf] at h; subst h; simp [expl, eqCells, keyEq]
 | .unit, ks, h, a, b => by simp [kindsOf] at h; subst h; simp [expl, eqCells, keyEq]
 | .sl t, ks, h, a, b => by simp [kindsOf] at h
 | .pair x y, ks, h, a, b => by
   rw [kindsOf] at h; split at h
   · rename_i k1 k2 h1 h2; simp at h; subst h; exact iA2 _ _ _ _ _ _ _ _ (eA3 x k1 h1 a.1 b.1) (eA3 y k2 h2 a.2 b.2)
   · cases h
theorem cB1 : ∀ (t : Ty) (ks : List CK), kindsOf t = some ks → ∀ a b : t.den, keyEq t a b = true → a = b
 | .int k, ks, h, a, b, e => by simpa [keyEq] using e
 | .bool, ks, h, a, b, e => by simpa [keyEq] using e
 | .str, ks, h, a, b, e => by simpa [keyEq] using e
 | .unit, ks, h, a, b, e => rfl
 | .sl t, ks, h, a, b, e => by simp [kindsOf] at h
 | .pair x y, ks, h, a, b, e => by
   rw [kindsOf] at h; split at h
   · rename_i k1 k2 h1 h2; simp only [keyEq, Bool.and_eq_true] at e; exact Prod.ext (cB1 x k1 h1 _ _ e.1) (cB1 y k2 h2 _ _ e.2)
   · cases h
theorem sC1 {w : World} {O : Nat → Prop} : ∀ (t : Ty) (ks : List CK), kindsOf t = some ks → ∀ (a : t.den) (xs ys : List Value), ro w O t a xs → ro w O t a ys → xs = ys
 | .int k, ks, h, a, xs, ys, h1, h2 => by rw [h1.1, h2.1]
 | .bool, ks, h, a, xs, ys, h1, h2 => by rw [show _ = _ from h1, show _ = _ from h2]
 | .str, ks, h, a, xs, ys, h1, h2 => by rw [h1.1, h2.1]
 | .unit, ks, h, a, xs, ys, h1, h2 => by rw [show _ = _ from h1, show _ = _ from h2]
 | .sl t, ks, h, a, xs, ys, h1, h2 => by simp [kindsOf] at h
 | .pair x y, ks, h, a, xs, ys, ⟨c, d, e, h1, h2⟩, ⟨c', d', e', h1', h2'⟩ => by
   rw [kindsOf] at h; split at h
   · rename_i k1 k2 g1 g2; rw [e, e', sC1 x k1 g1 a.1 c c' h1 h1', sC1 y k2 g2 a.2 d d' h2 h2']
   · cases h
theorem cA6 {w : World} {O : Nat → Prop} : ∀ (t : Ty) (ks : List CK), kindsOf t = some ks → ∀ (a : t.den) (xs : List Value), ro w O t a xs → ∀ v ∈ xs, (∃ k n, v = .int k n) ∨ (∃ b, v = .bool b) ∨ ∃ s, v = .string s
 | .int k, ks, h, a, xs, h1, v, hv => by rw [h1.1] at hv; simp at hv; exact .inl ⟨_, _, hv⟩
 | .bool, ks, h, a, xs, h1, v, hv => by rw [show _ = _ from h1] at hv; simp at hv; exact .inr (.inl ⟨_, hv⟩)
 | .str, ks, h, a, xs, h1, v, hv => by rw [h1.1] at hv; simp at hv; exact .inr (.inr ⟨_, hv⟩)
 | .unit, ks, h, a, xs, h1, v, hv => by rw [show _ = _ from h1] at hv; simp at hv
 | .sl t, ks, h, a, xs, h1, v, hv => by simp [kindsOf] at h
 | .pair x y, ks, h, a, xs, ⟨c, d, e, h1, h2⟩, v, hv => by
   rw [kindsOf] at h; split at h
   · rename_i k1 k2 g1 g2; rw [e, List.mem_append] at hv; exact hv.elim (cA6 x k1 g1 a.1 c h1 v) (cA6 y k2 g2 a.2 d h2 v)
   · cases h
theorem rA5 {v : Value} (h : (∃ k n, v = .int k n) ∨ (∃ b, v = .bool b) ∨ ∃ s, v = .string s) (n : Nat) : Instr.sameBits n v v = true := by
 rcases h with ⟨k, q, rfl⟩ | ⟨b, rfl⟩ | ⟨s, rfl⟩ <;> cases n <;> simp [Instr.sameBits, beq_toListBytes]
theorem sB2 {vs : List Value} (h : ∀ v ∈ vs, (∃ k n, v = .int k n) ∨ (∃ b, v = .bool b) ∨ ∃ s, v = .string s) (n : Nat) : Instr.sameBits (n + 1) (.agg vs.toArray) (.agg vs.toArray) = true := by
 simp only [Instr.sameBits, beq_self_eq_true, Bool.true_and, List.toList_toArray, List.all_eq_true]; intro p hp; obtain ⟨i, hi, e⟩ := List.mem_iff_getElem.1 hp; have : p.1 = p.2 ∧ p.1 ∈ vs := by
  rw [← e, List.getElem_zip]; exact ⟨rfl, List.getElem_mem _⟩
 obtain ⟨a, b⟩ := p; simp at this; rw [← this.1]; exact rA5 (h a this.2) n
/-! ### checkKey -/
theorem qA4 {f : TypeId → Option (List CK)} {em : Bool} {n : Nat} {x : Rx}
 (hf : ∀ t ks, f t = some ks → (∃ i dd, P.info? t = some i ∧ i.size = ks.length ∧ P.underlying t = some dd ∧ (aggB dd = false → i.size = 1)) ∧
   ∀ cs xs q, eqCells ks cs cs = some q → repCs x cs xs → (Instr.checkKey em n t (mkV (isAggB P t) xs)).run P w = .ok () w) :
 ∀ (fs : List Field) (off : Nat) (ks : List CK), eqTB.eqFs f fs off = some ks → ∀ (pre xs : List Value) (cs : List C1) (q : Bool), pre.length = off → eqCells ks cs cs = some q → repCs x cs xs →
   (forIn fs PUnit.unit fun fd _ => (if fd.name ≠ "_" then (part fd.type (pre ++ xs).toArray fd.offset >>= fun a => Instr.checkKey em n fd.type a >>= fun _ => pure (ForInStep.yield PUnit.unit)) else pure (ForInStep.yield PUnit.unit) : Sem (ForInStep PUnit)) : Sem PUnit).run P w = .ok () w
 | [], off, ks, h, pre, xs, cs, q, _, _, _ => by simp
 | fd :: fs, off, ks, h, pre, xs, cs, q, hl, hq, hr => by
   rw [eqTB.eqFs] at h; split at h
   · rename_i hc; obtain ⟨c1, c2⟩ := hc; split at h
     · rename_i kx hkx; obtain ⟨ks', hks', rfl⟩ := Option.map_eq_some_iff.1 h; obtain ⟨⟨i, dd, hi, hs, hu, h1⟩, hck⟩ := hf _ _ hkx; obtain ⟨q1, q2, hq1, hq2, rfl⟩ := iA1 _ _ _ _ _ hq; have hxl := jA0 _ _ hr; obtain ⟨e1, _⟩ := eA1 _ _ _ _ hq; simp only [List.length_append] at e1; have hag : isAggB P fd.type = aggB dd := by simp [isAggB, hu]
       have hp1 : (part fd.type (pre ++ xs).toArray fd.offset).run P w = .ok (mkV (isAggB P fd.type) (xs.take kx.length)) w := by
        rw [zA3 hi hu h1 (pre ++ xs) fd.offset (by simp; omega) (fun hh => by have := h1 hh; simp; omega), hag, hs, c2, ← hl, List.drop_left]; rfl
       have hck' := hck _ _ _ hq1 (lA0 kx.length _ _ hr); have ih := qA4 hf fs (off + kx.length) ks' hks' (pre ++ xs.take kx.length) (xs.drop kx.length) _ q2 (by simp; omega) hq2 (mA0 _ _ _ hr); rw [List.append_assoc, List.take_append_drop] at ih; simp only [List.forIn_cons, c1, ne_eq, not_false_eq_true, if_true, Sem.run_bind, hp1, hck', Result.andThen_ok, Sem.run_pure]; exact ih
     · cases h
   · cases h
theorem aA5 {x : Rx} {em : Bool} {D : Nat} {e : TypeId} {ks : List CK} (hsz : ∃ i dd, P.info? e = some i ∧ i.size = ks.length ∧ P.underlying e = some dd ∧ (aggB dd = false → i.size = 1))
 (hck : ∀ cs xs q, eqCells ks cs cs = some q → repCs x cs xs → (Instr.checkKey em D e (mkV (isAggB P e) xs)).run P w = .ok () w) :
 ∀ (n j : Nat) (pre xs : List Value) (cs : List C1) (q : Bool), pre.length = j * ks.length → eqCells (List.replicate n ks).flatten cs cs = some q → repCs x cs xs →
   (forIn (List.range' j n) PUnit.unit fun i _ => (sizeOf e >>= fun s => part e (pre ++ xs).toArray (i * s) >>= fun a => Instr.checkKey em D e a >>= fun _ => pure (ForInStep.yield PUnit.unit) : Sem (ForInStep PUnit)) : Sem PUnit).run P w = .ok () w
 | 0, j, pre, xs, cs, q, _, _, _ => by simp
 | n + 1, j, pre, xs, cs, q, hl, hq, hr => by
   rw [List.replicate_succ, List.flatten_cons] at hq; obtain ⟨i, dd, hi, hs, hu, h1⟩ := hsz; obtain ⟨q1, q2, hq1, hq2, rfl⟩ := iA1 _ _ _ _ _ hq; have hxl := jA0 _ _ hr; obtain ⟨e1, _⟩ := eA1 _ _ _ _ hq; simp only [List.length_append] at e1; have hag : isAggB P e = aggB dd := by simp [isAggB, hu]
   have hp1 : (part e (pre ++ xs).toArray (j * ks.length)).run P w = .ok (mkV (isAggB P e) (xs.take ks.length)) w := by
    rw [zA3 hi hu h1 (pre ++ xs) (j * ks.length) (by simp; omega) (fun hh => by have := h1 hh; simp; omega), hag, hs, ← hl, List.drop_left]; rfl
   have hck' := hck _ _ _ hq1 (lA0 ks.length _ _ hr); have hm : (j + 1) * ks.length = j * ks.length + ks.length := by rw [Nat.add_mul, Nat.one_mul]
   have ih := aA5 ⟨i, dd, hi, hs, hu, h1⟩ hck n (j + 1) (pre ++ xs.take ks.length) (xs.drop ks.length) _ q2 (by simp; omega) hq2 (mA0 _ _ _ hr); rw [List.append_assoc, List.take_append_drop] at ih; simp only [List.range'_succ, List.forIn_cons, Sem.run_bind, tA0 hi, hs, Result.andThen_ok, hp1, hck', Sem.run_pure]; exact ih
theorem jA2 {x : Rx} {em : Bool} : ∀ (d : Nat) (t : TypeId) (ks : List CK), eqTB P d t = some ks → ∀ D, d ≤ D → ∀ cs xs q, eqCells ks cs cs = some q → repCs x cs xs →
 (Instr.checkKey em D t (mkV (isAggB P t) xs)).run P w = .ok () w
 | 0, t, ks, h, _, _, _, _, _, _, _ => by simp [eqTB] at h
 | d + 1, t, ks, h, D, hD, cs, xs, q, hq, hr => by
   obtain ⟨D', rfl⟩ : ∃ D', D = D' + 1 := ⟨D - 1, by omega⟩; rw [eqTB] at h; split at h
   · rename_i k e1 e2; simp at h; subst h; unfold Instr.checkKey; have : isAggB P t = false := by simp [isAggB, e1, aggB]
     obtain ⟨a, b, rfl, _, _⟩ := xA8 hq; obtain ⟨v, r, rfl, h1, h2⟩ := repCs_cons.1 hr; unfold repC at h1; simp [run_underlying e1, this, mkV, h1.1]
   · rename_i e1 e2; simp at h; subst h; unfold Instr.checkKey; have : isAggB P t = false := by simp [isAggB, e1, aggB]
     obtain ⟨a, b, rfl, _, _⟩ := wA8 hq; obtain ⟨v, r, rfl, h1, h2⟩ := repCs_cons.1 hr; unfold repC at h1; simp [run_underlying e1, this, mkV, h1]
   · rename_i e1 e2; simp at h; subst h; unfold Instr.checkKey; have : isAggB P t = false := by simp [isAggB, e1, aggB]
     obtain ⟨a, b, rfl, _, _⟩ := tA7 hq; obtain ⟨v, r, rfl, h1, h2⟩ := repCs_cons.1 hr; unfold repC at h1; simp [run_underlying e1, this, mkV, h1.1]
   · rename_i fs n e1 e2; split at h
     · cases h
     · split at h
       · rename_i ks' hk; split at h
         · simp at h; subst h; have : isAggB P t = true := by simp [isAggB, e1, aggB]
           rw [this]; show (Instr.checkKey em (D' + 1) t (.agg xs.toArray)).run P w = _; unfold Instr.checkKey; simp only [Sem.run_bind, run_underlying e1, Result.andThen_ok]; rw [← Array.forIn_toList]; have := qA4 (P := P) (w := w) (x := x) (em := em) (n := D') (f := eqTB P d) (fun t ks hk => ⟨tA5 d t ks hk, fun cs xs q hq hr => jA2 d t ks hk D' (by omega) cs xs q hq hr⟩) fs.toList 0 ks' hk [] xs cs q rfl hq hr; simp only [List.nil_append] at this; rw [this]; rfl
         · cases h
       · cases h
   · rename_i k e n e1 e2; split at h
     · rename_i ks' hk; split at h
       · simp at h; subst h; have : isAggB P t = true := by simp [isAggB, e1, aggB]
         rw [this]; show (Instr.checkKey em (D' + 1) t (.agg xs.toArray)).run P w = _; unfold Instr.checkKey; simp only [Sem.run_bind, run_underlying e1, Result.andThen_ok]; simp only [Std.Legacy.Range.forIn_eq_forIn_range', Std.Legacy.Range.size, Nat.sub_zero, Nat.add_one_sub_one, Nat.div_one]; have := aA5 (P := P) (w := w) (x := x) (em := em) (D := D') (tA5 d e ks' hk) (fun cs xs q hq hr => jA2 d e ks' hk D' (by omega) cs xs q hq hr) k 0 [] xs cs q (by simp) hq hr; simp only [List.nil_append] at this
         first
          | exact this
          | (rw [this]; rfl)
          | (simp only [Sem.run_bind] at this ⊢; rw [this]; rfl)
       · cases h
     · cases h
   · cases h
end
end Go.Ev

namespace Go.Ev
section
variable {cx : Cx} {σ : Nat → Value} {N : Nat → Prop} {m : Mem} {w : World} {P : Program} {T : Tab} {G : Env} {o : Oper} {fr : Nat} {ρ : Operand → Value} {av : Operand → AV}
structure KeyT (P : Program) (kT : TypeId) (kt : Ty) (ks : List CK) (ka : Bool) : Prop where
 eq : eqTB P 100 kT = some ks
 kd : kindsOf kt = some ks
 ag : isAggB P kT = ka
def EntIs (x : Rx) (kt : Ty) (ka : Bool) (key : kt.den) (q : Bool) (e : MapEntry) : Prop := ∃ k' ks', e.key = mkV ka ks' ∧ ro x.w x.O kt k' ks' ∧ keyEq kt key k' = q
theorem lB4 {x : Rx} {kT : TypeId} {kt : Ty} {ks : List CK} {ka : Bool} (hk : KeyT P kT kt ks ka) {key : kt.den} {kvs : List Value} (hkv : ro x.w x.O kt key kvs) {q : Bool} {e : MapEntry} (he : EntIs x kt ka key q e) :
 (Op.equal kT (mkV ka kvs) e.key).run P w = .ok q w := by
 obtain ⟨k', ks', e1, e2, e3⟩ := he; have := iA7 (P := P) (w := w) (x := x) 100 kT ks hk.eq 10000 (by omega) _ _ kvs ks' (keyEq kt key k') (eA3 kt ks hk.kd key k') (vA0 kt key kvs hkv) (vA0 kt k' ks' e2); rw [hk.ag] at this; rw [e1, ← e3]; exact this
theorem bA5 {x : Rx} {kT : TypeId} {kt : Ty} {ks : List CK} {ka : Bool} (hk : KeyT P kT kt ks ka) {key : kt.den} {kvs : List Value} (hkv : ro x.w x.O kt key kvs) :
 ∀ (pre : List MapEntry) (rest : List MapEntry) (i : Nat), (∀ e ∈ pre, EntIs x kt ka key false e) → (rest = [] ∨ ∃ e r, rest = e :: r ∧ EntIs x kt ka key true e) →
   (Instr.findAsking kT (mkV ka kvs) (pre ++ rest) i).run P w = .ok (rest.head?.map fun e => (i + pre.length, e.val)) w
 | [], rest, i, _, h => by
   rcases h with rfl | ⟨e, r, rfl, he⟩
   · simp [Instr.findAsking]
   · simp [Instr.findAsking, lB4 hk hkv he]
 | e :: pre, rest, i, hp, h => by
   have he := hp e List.mem_cons_self; have ih := bA5 hk hkv pre rest (i + 1) (fun e he => hp e (List.mem_cons_of_mem _ he)) h; simp only [List.cons_append, Instr.findAsking, Sem.run_bind, lB4 hk hkv he, Result.andThen_ok, Bool.false_eq_true, if_false, ih]; congr 2; funext e; simp; omega
theorem gA4 {kind : TypeDesc} {k : Value} {Q : Bool → MapEntry → Prop} (hs : ∀ q e, Q q e → Instr.sameNow kind k e.key = some q) :
 ∀ (pre : List MapEntry) (rest : List MapEntry) (i : Nat), (∀ e ∈ pre, Q false e) → (rest = [] ∨ ∃ e r, rest = e :: r ∧ Q true e) →
   Instr.findNow kind k (pre ++ rest) i = some (rest.head?.map fun e => (i + pre.length, e.val))
 | [], rest, i, _, h => by
   rcases h with rfl | ⟨e, r, rfl, he⟩
   · rfl
   · simp [Instr.findNow, hs _ _ he]
 | e :: pre, rest, i, hp, h => by
   have ih := gA4 hs pre rest (i + 1) (fun e he => hp e (List.mem_cons_of_mem _ he)) h; simp only [List.cons_append, Instr.findNow, hs _ _ (hp e List.mem_cons_self), ih]; congr 2; funext e; simp; omega
theorem tA2 {x : Rx} {kT : TypeId} {kt : Ty} {ks : List CK} {ka : Bool} (hk : KeyT P kT kt ks ka) {key : kt.den} {kvs : List Value} (hkv : ro x.w x.O kt key kvs)
 (pre rest : List MapEntry) (hp : ∀ e ∈ pre, EntIs x kt ka key false e) (hr : rest = [] ∨ ∃ e r, rest = e :: r ∧ EntIs x kt ka key true e) :
 (Instr.findKey kT (mkV ka kvs) (pre ++ rest)).run P w = .ok (rest.head?.map fun e => (pre.length, e.val)) w := by
 have ask := bA5 (P := P) (w := w) hk hkv pre rest 0 hp hr; simp only [Nat.zero_add] at ask; have heq := hk.eq; rw [eqTB] at heq; split at heq
 · rename_i k e1 e2; simp at heq; have now := gA4 (kind := .int k) (k := mkV ka kvs) (Q := fun q e => EntIs x kt ka key q e) (fun q e he => by
    obtain ⟨k', ks', h1, h2, h3⟩ := he; have hc := eA3 kt ks hk.kd key k'; rw [← heq] at hc; obtain ⟨a, b, c1, c2, c3⟩ := xA8 hc; have hkv' := vA0 (x := x) kt key kvs hkv; have hks' := vA0 (x := x) kt k' ks' h2; rw [c1] at hkv'; rw [c2] at hks'; obtain ⟨v, r, rfl, g1, g2⟩ := repCs_cons.1 hkv'; obtain ⟨v', r', rfl, g1', g2'⟩ := repCs_cons.1 hks'; unfold repC at g1 g1'; have hka : ka = false := by rw [← hk.ag]; simp [isAggB, e1, aggB]
    subst hka; rw [h1, ← h3, c3]; simp only [mkV, Bool.false_eq_true, if_false, List.getD_cons_zero, g1.1, g1'.1, Instr.sameNow, if_true]; by_cases hab : a = b <;> simp [hab]) pre rest 0 hp hr
   simp [Instr.findKey, run_underlying e1, now]
 · rename_i e1 e2; simp at heq; have now := gA4 (kind := .bool) (k := mkV ka kvs) (Q := fun q e => EntIs x kt ka key q e) (fun q e he => by
    obtain ⟨k', ks', h1, h2, h3⟩ := he; have hc := eA3 kt ks hk.kd key k'; rw [← heq] at hc; obtain ⟨a, b, c1, c2, c3⟩ := wA8 hc; have hkv' := vA0 (x := x) kt key kvs hkv; have hks' := vA0 (x := x) kt k' ks' h2; rw [c1] at hkv'; rw [c2] at hks'; obtain ⟨v, r, rfl, g1, g2⟩ := repCs_cons.1 hkv'; obtain ⟨v', r', rfl, g1', g2'⟩ := repCs_cons.1 hks'; unfold repC at g1 g1'; have hka : ka = false := by rw [← hk.ag]; simp [isAggB, e1, aggB]
    subst hka; rw [h1, ← h3, c3]; simp only [mkV, Bool.false_eq_true, if_false, List.getD_cons_zero, g1, g1', Instr.sameNow, if_true]; cases a <;> cases b <;> rfl) pre rest 0 hp hr
   simp [Instr.findKey, run_underlying e1, now]
 · rename_i e1 e2; simp at heq; have now := gA4 (kind := .string) (k := mkV ka kvs) (Q := fun q e => EntIs x kt ka key q e) (fun q e he => by
    obtain ⟨k', ks', h1, h2, h3⟩ := he; have hc := eA3 kt ks hk.kd key k'; rw [← heq] at hc; obtain ⟨a, b, c1, c2, c3⟩ := tA7 hc; have hkv' := vA0 (x := x) kt key kvs hkv; have hks' := vA0 (x := x) kt k' ks' h2; rw [c1] at hkv'; rw [c2] at hks'; obtain ⟨v, r, rfl, g1, g2⟩ := repCs_cons.1 hkv'; obtain ⟨v', r', rfl, g1', g2'⟩ := repCs_cons.1 hks'; unfold repC at g1 g1'; have hka : ka = false := by rw [← hk.ag]; simp [isAggB, e1, aggB]
    subst hka; rw [h1, ← h3, c3]; simp only [mkV, Bool.false_eq_true, if_false, List.getD_cons_zero, g1.1, g1'.1, Instr.sameNow, if_true]; rw [beq_toListBytes, xA6]) pre rest 0 hp hr
   simp [Instr.findKey, run_underlying e1, now]
 · rename_i fs n e1 e2; have hka : ka = true := by rw [← hk.ag]; simp [isAggB, e1, aggB]
   subst hka; have hnow : Instr.findNow (.struct fs) (mkV true kvs) (pre ++ rest) 0 = none ∨ (pre ++ rest = [] ∧ Instr.findNow (.struct fs) (mkV true kvs) (pre ++ rest) 0 = some none) := by
    cases hpr : pre ++ rest with
    | nil => exact .inr ⟨rfl, rfl⟩
    | cons e r => exact .inl (by simp [Instr.findNow, Instr.sameNow, mkV])
   rcases hnow with hnow | ⟨he, hnow⟩
   · simp [Instr.findKey, run_underlying e1, hnow, ask]
   · obtain ⟨rfl, rfl⟩ := List.append_eq_nil_iff.1 he; simp [Instr.findKey, run_underlying e1, Instr.findNow]
 · rename_i k e n e1 e2; have hka : ka = true := by rw [← hk.ag]; simp [isAggB, e1, aggB]
   subst hka; have hnow : Instr.findNow (.array k e) (mkV true kvs) (pre ++ rest) 0 = none ∨ (pre ++ rest = [] ∧ Instr.findNow (.array k e) (mkV true kvs) (pre ++ rest) 0 = some none) := by
    cases hpr : pre ++ rest with
    | nil => exact .inr ⟨rfl, rfl⟩
    | cons e r => exact .inl (by simp [Instr.findNow, Instr.sameNow, mkV])
   rcases hnow with hnow | ⟨he, hnow⟩
   · simp [Instr.findKey, run_underlying e1, hnow, ask]
   · obtain ⟨rfl, rfl⟩ := List.append_eq_nil_iff.1 he; simp [Instr.findKey, run_underlying e1, Instr.findNow]
 · cases heq
theorem nA7 {x : Rx} {kt vt : Ty} {ka va : Bool} (key : kt.den) : ∀ (l : List (kt.den × vt.den)) (es : List MapEntry), mapRep x kt vt ka va l es →
 (mget l key = none ∧ (∀ e ∈ es, EntIs x kt ka key false e) ∧ (∀ v, mset l key v = l ++ [(key, v)])) ∨
 ∃ pre e post k' ks' v vs, es = pre ++ e :: post ∧ (∀ e ∈ pre, EntIs x kt ka key false e) ∧ e.key = mkV ka ks' ∧ ro x.w x.O kt k' ks' ∧ keyEq kt key k' = true ∧ mget l key = some v ∧ e.val = mkV va vs ∧ ro x.w x.O vt v vs ∧
   ∀ (y : Rx), x.Keeps y → ∀ (v2 : vt.den) (e2 : MapEntry) (kvs vs2 : List Value), e2.key = mkV ka kvs → ro y.w y.O kt key kvs → e2.val = mkV va vs2 → ro y.w y.O vt v2 vs2 → mapRep y kt vt ka va (mset l key v2) (pre ++ e2 :: post)
 | [], es, h => by
   rw [show es = [] from h]
   exact .inl ⟨rfl, (fun e he => by cases he), fun v => rfl⟩
 | p :: l, es, h => by
   obtain ⟨e, r, ks, vs, he, e1, h1, e2, h2, h3⟩ := h; subst he; obtain ⟨a, b⟩ := p; by_cases hq : keyEq kt key a = true
   · refine .inr ⟨[], e, r, a, ks, b, vs, rfl, (fun e he => by cases he), e1, h1, hq, by simp [mget, hq], e2, h2, fun y hk v2 e2' kvs vs2 g1 g2 g3 g4 => ?_⟩; simp only [mset, hq, if_true, List.nil_append]; exact ⟨e2', r, kvs, vs2, rfl, g1, g2, g3, g4, cA3 hk l r h3⟩
   · simp only [Bool.not_eq_true] at hq
     rcases nA7 key l r h3 with ⟨g1, g2, g3⟩ | ⟨pre, e', post, k', ks', v, vs', rfl, g2, g3, g4, g5, g6, g7, g8, g9⟩
     · refine .inl ⟨by simp [mget, hq, g1], fun e' he' => ?_, fun v => by simp [mset, hq, g3]⟩
       cases List.mem_cons.1 he' with
       | inl k => subst k; exact ⟨a, ks, e1, h1, hq⟩
       | inr k => exact g2 e' k
     · refine .inr ⟨e :: pre, e', post, k', ks', v, vs', rfl, fun e'' he => ?_, g3, g4, g5, by simp [mget, hq, g6], g7, g8, fun y hk v2 e2' kvs vs2 f1 f2 f3 f4 => ?_⟩
       · cases List.mem_cons.1 he with
         | inl k => subst k; exact ⟨a, ks, e1, h1, hq⟩
         | inr k => exact g2 e'' k
       · simp only [mset, hq, Bool.false_eq_true, if_false, List.cons_append]; exact ⟨e, pre ++ e2' :: post, ks, vs, rfl, e1, hA0 hk.k _ _ _ h1, e2, hA0 hk.k _ _ _ h2, g9 y hk v2 e2' kvs vs2 f1 f2 f3 f4⟩
theorem lA5 {x : Rx} {kt vt : Ty} {ka va : Bool} : ∀ (l l' : List (kt.den × vt.den)) (es es' : List MapEntry), mapRep x kt vt ka va l es → mapRep x kt vt ka va l' es' → mapRep x kt vt ka va (l ++ l') (es ++ es')
 | [], _, _, _, h, k => by rw [show _ = _ from h]; exact k
 | p :: l, l', es, es', h, k => by
   obtain ⟨e, r, ks, vs, he, e1, h1, e2, h2, h3⟩ := h; subst he; exact ⟨e, r ++ es', ks, vs, rfl, e1, h1, e2, h2, lA5 l l' r es' h3 k⟩
theorem dC2 (h : RepM cx σ N m w) (hfr : ∀ id, fr ≤ id → id < fr + 32 → N id) {t : TypeId} {r : Option Operand} (ho : o.op = .makeMap t r) (ht : TabOK P T)
 (hp : (opEff T G o ((opsOf o.op).map av) m fr).pre) : Runs P w (Res cx σ N m w fr (opEff T G o ((opsOf o.op).map av) m fr)) ((execOp ρ o).run P w) := by
 rw [ho] at hp ⊢; simp only [opEff, ho] at hp ⊢; split at hp
 · rename_i k e hd; by_cases hw3 : wfOf G o.dst = 3
   · simp only [hw3, if_true] at hp; exact hp.elim
   simp only [if_neg hw3] at hp ⊢; split at hp
   · rename_i kt vt hk hv; split at hp
     · rename_i hc; rw [if_pos hc]; have hr : r = none := by cases r <;> simp_all
       subst hr; have hrun : (execOp ρ o).run P w = .ok (.value (.map (some w.heap.size))) (w.alloc (.map #[] 0)) := by
        simp [execOp, ho, Instr.makeMap]
       obtain ⟨g1, g2⟩ := h.put (hfr fr (by omega) (by omega)) (.map (some w.heap.size)) (.mapb kt vt (TI.of T k).agg (TI.of T e).agg []) (w.alloc (.map #[] 0)) rfl (oA1 w _) (fun b _ hb => by simp [blkOf] at hb; omega)
        (fun hk => ⟨w.heap.size, #[], 0, by simp only [rx]; rw [upd_same], heap_alloc_new w _, rfl, Stp.nil _ _⟩)
       obtain ⟨g3, g4⟩ := g1.weaken (N' := Nx N fr) (fun id hid => ⟨hid.1, fun e => hid.2 ⟨by omega, by omega⟩⟩); refine bA0 hrun ⟨upd σ fr (.map (some w.heap.size)), g3, ⟨g2.k.trans g4.k (by simp [rx]), fun id hid => ?_, fun id hid => hid.1⟩, ?_, trivial⟩
       · exact g2.σ id hid
       · unfold repA repC; exact ⟨fun k => k.2 ⟨by omega, by omega⟩, by simp only [rx]; rw [upd_same]⟩
     · exact hp.elim
   · exact hp.elim
 · exact hp.elim
theorem aC8 {x : Rx} (hσ : ∀ id, (x.σ id).oneCell' = true) {a : AV} {v : Value} (h : repA x a v) (hk : a.cells.all known = true) (hne : a.cells ≠ []) : ∃ vs, v = mkV a.ag vs ∧ repCs x a.cells vs := by
 cases a with
 | one c =>
   unfold repA at h
   exact ⟨[v], rfl, repCs_cons.2 ⟨v, [], rfl, h, repCs_nil.2 rfl⟩⟩
 | agg cs =>
   unfold repA at h; obtain ⟨vs, rfl, h1⟩ := h
   exact ⟨vs, rfl, h1⟩
 | tup _ => exact absurd rfl hne
 | ifd _ _ => exact absurd rfl hne
theorem mD0 {x : Rx} {a : AV} {v : Value} (h : repA x a v) (hA : avA a = true) : ∃ vs, v = mkV a.ag vs ∧ repCs x a.cells vs := by
 cases a with
 | one c =>
   unfold repA at h
   exact ⟨[v], rfl, repCs_cons.2 ⟨v, [], rfl, h, repCs_nil.2 rfl⟩⟩
 | agg cs =>
   unfold repA at h; obtain ⟨vs, rfl, h1⟩ := h
   exact ⟨vs, rfl, h1⟩
 | tup _ => cases hA
 | ifd _ _ => cases hA
theorem hD5 {ti : TI} {u : Ty} (h : ti.vt = some u) : ti ≠ TI.none := fun e => by rw [e] at h; simp [TI.vt, vtD, isU, isUD, TI.none] at h
theorem iD5 {t : TypeId} {u : Ty} (ht : TabOK P T) (h : (TI.of T t).vt = some u) (hz : (TI.of T t).vz = true) : (∃ i vs, P.info? t = some i ∧ i.zero = some (mkV (TI.of T t).agg vs) ∧ zTy u vs) ∧ ((TI.of T t).agg = false → u.n = 1) := by
 have htt := TI.of_ok ht t (hD5 h); unfold TI.vt at h; unfold TI.vz at hz
 cases hU : isU (TI.of T t) with
 | true =>
   rw [hU] at h; cases h; obtain ⟨i, hi, hs, hzz⟩ := cA7 ht hU; obtain ⟨d, hd, ha⟩ := htt.agg; obtain ⟨flds, hu, _⟩ := htt.struct [] (cB7 hU); rw [hu] at hd; cases hd; have hag : (TI.of T t).agg = true := by rw [← ha]; rfl
   exact ⟨⟨i, [], hi, by rw [hag]; exact hzz, rfl⟩, fun e => by rw [hag] at e; cases e⟩
 | false =>
   rw [hU] at h hz; have hz : (TI.of T t).zt = true := hz; have h : (TI.of T t).ty = some u := h; exact ⟨htt.zt u hz h, fun hh => by rw [(htt.ty u h).1]; exact htt.one hh⟩
theorem bB5 {m : Mem} {t : Ty} {cs : List C1} {y : t.den} (h : impl m t cs = some y) (ht : 0 < t.n) : cs ≠ [] := by
 rintro rfl
 induction t with
 | int k => simp [impl, implI] at h
 | bool => simp [impl, implB] at h
 | str => simp [impl, implS] at h
 | unit => simp [Ty.n] at ht
 | sl t _ => simp [impl, implL] at h
 | pair a b iha ihb =>
   obtain ⟨h1, h2⟩ := bA1 h; simp at h1 h2; simp only [Ty.n] at ht
   rcases Nat.eq_zero_or_pos a.n with e | e
   · exact ihb (by omega) h2
   · exact iha e h1
theorem dC6 {x : Rx} {ag : Bool} {t : Ty} {y : t.den} {vs : List Value} (h : ro x.w x.O t y vs) (h1 : ag = false → t.n = 1) : repA x (avOf ag (expl t y)) (mkV ag vs) :=
 vA2 (vA0 t y vs h) (fun hg => by rw [rA1]; exact h1 hg)
theorem tC2 {kT : TypeId} {kt : Ty} (ht : TabOK P T) (hk : kindsOf kt = some (TI.of T kT).eqn) (hne : (TI.of T kT).eqn ≠ []) : KeyT P kT kt (TI.of T kT).eqn (TI.of T kT).agg := by
 have htt := TI.of_ok ht kT (fun e => hne (by rw [e]; rfl)); obtain ⟨dd, hdd, hag⟩ := htt.agg; exact ⟨(htt.eqn hne).1, hk, by simp [isAggB, hdd, hag]⟩
theorem iC6 (h : RepM cx σ N m w) (hfr : ∀ id, fr ≤ id → id < fr + 32 → N id) {t : TypeId} {x y : Operand} {ok : Bool} (ho : o.op = .lookup t x y ok) (ht : TabOK P T) (hx : repA (rx cx σ N m w) (av x) (ρ x)) (hy : repA (rx cx σ N m w) (av y) (ρ y))
 (hp : (opEff T G o [av x, av y] m fr).pre) : Runs P w (Res cx σ N m w fr (opEff T G o [av x, av y] m fr)) ((execOp ρ o).run P w) := by
 simp only [opEff, ho] at hp ⊢; split at hp <;> rename_i heq
 · rename_i kT eT id k hd; simp at heq; rw [heq.1] at hx; rw [heq.2] at hy; by_cases hw3 : wfOf G o.dst = 3
   · simp only [hw3, if_true] at hp; exact hp.elim
   simp only [if_neg hw3] at hp ⊢; split at hp
   · rename_i kt vt ka va l hm; split at hp
     · rename_i k' him; split at hp
       · rename_i hc; rw [if_pos hc]; obtain ⟨c1, c2, c3, c4, c5, c6, c7, c8, c9, c10⟩ := hc; have hu := (TI.of_ok ht t (fun e => by rw [e] at hd; cases hd)).map kT eT hd; have htk := TI.of_ok ht kT (fun e => c4 (by rw [e]; rfl)); obtain ⟨⟨iz, zs, hiz, hz, hzt⟩, hvn⟩ := iD5 ht c2 c7; have hK := tC2 (kt := kt) ht c3 c4; rw [← c10] at hK; unfold repA repC at hx; obtain ⟨hn, e1⟩ := hx; simp only [rx] at e1 hn; have hb := h.blk id; rw [hm] at hb; obtain ⟨r, es, clock, e2, e3, hmr, hsp⟩ := hb; simp only [rx] at e2 e3; obtain ⟨kvs, e4, hkr⟩ := aC8 (x := rx cx σ N m w) h.hone hy c5 (bB5 him (by have := (htk.ty kt c1); omega)); rw [c8] at e4; have hro := rA2 h kt k.cells k' kvs him hkr (fun id hid => by rw [c6] at hid; cases hid); have hck := jA2 (P := P) (w := w) (x := rx cx σ N m w) (em := es.isEmpty) 100 kT _ hK.eq 10000 (by omega) _ kvs _ (eA3 kt _ c3 k' k') (vA0 kt k' kvs hro); rw [hK.ag] at hck; have hrun : ∀ (res : Option (Nat × Value)), (Instr.findKey kT (mkV ka kvs) es.toList).run P w = .ok res w →
          (execOp ρ o).run P w = .ok (.value (if ok then .tuple #[(res.map (·.2)).getD (mkV (TI.of T eT).agg zs), .bool res.isSome] else (res.map (·.2)).getD (mkV (TI.of T eT).agg zs))) w := by
          intro res hf
          cases res with
          | none => simp [execOp, ho, Instr.lookup, run_underlying hu, e1, e2, e3, e4, hck, hf, wA0 hiz hz, getObj, Sem.run]
          | some p => simp [execOp, ho, Instr.lookup, run_underlying hu, e1, e2, e3, e4, hck, hf, getObj, Sem.run]
         have fin : ∀ (res : Option (Nat × Value)), (Instr.findKey kT (mkV ka kvs) es.toList).run P w = .ok res w → (∃ vs, (res.map (·.2)).getD (mkV (TI.of T eT).agg zs) = mkV (TI.of T eT).agg vs ∧ ro w (Owned cx σ m) vt ((mget l k').getD vt.dflt) vs) → (mget l k').isSome = res.isSome →
          Runs P w (Res cx σ N m w fr ⟨True, (if ok then .tup [avOf (TI.of T eT).agg (expl vt ((mget l k').getD vt.dflt)), .one (.bool (mget l k').isSome)] else avOf (TI.of T eT).agg (expl vt ((mget l k').getD vt.dflt))), [], Wf vt ((mget l k').getD vt.dflt)⟩) ((execOp ρ o).run P w) := by
          intro res hf hv hs; obtain ⟨vs, hv1, hv2⟩ := hv; refine bA0 (hrun res hf) (Res.pure h rfl ?_ (wA5 vt _ vs hv2)); have ha := dC6 (x := rx cx σ N m w) (ag := (TI.of T eT).agg) hv2 hvn
          cases ok with
          | false => simp only [Bool.false_eq_true, if_false]; rw [hv1]; exact ha
          | true =>
            simp only [if_true]; unfold repA; refine ⟨_, rfl, ?_⟩; unfold repAs; refine ⟨_, _, rfl, by rw [hv1]; exact ha, ?_⟩; unfold repAs; refine ⟨_, _, rfl, by rw [hs]; exact kA1 _, ?_⟩; unfold repAs; rfl
         rcases nA7 k' l es.toList hmr with ⟨g1, g2, g3⟩ | ⟨pre, e, post, k2, ks2, v, vs, g1, g2, g3, g4, g5, g6, g7, g8, g9⟩
         · have hf := tA2 (P := P) (w := w) (x := rx cx σ N m w) hK hro es.toList [] g2 (.inl rfl); rw [List.append_nil] at hf; refine fin none hf ⟨zs, rfl, by rw [g1]; exact zB2 vt zs hzt⟩ (by rw [g1]; rfl)
         · have hf := tA2 (P := P) (w := w) (x := rx cx σ N m w) hK hro pre (e :: post) g2 (.inr ⟨e, post, rfl, ⟨k2, ks2, g3, g4, g5⟩⟩); rw [← g1] at hf; refine fin _ hf ⟨vs, by simp [g7, c9], by rw [g6]; exact g8⟩ (by rw [g6]; rfl)
       · exact hp.elim
     · exact hp.elim
   · exact hp.elim
 · exact hp.elim
end
end Go.Ev
