/- Cells and values: reading, writing, turning rows into plain data. -/
import Derived.Test.YtjghgckdndggoaaEvRep
namespace Go.Ev

/-! ### lists of cells -/

theorem repCs_nil {x : Rx} {vs : List Value} : repCs x [] vs ↔ vs = [] := by unfold repCs; rfl
theorem repCs_cons {x : Rx} {c : C1} {cs : List C1} {vs : List Value} : repCs x (c :: cs) vs ↔ ∃ v r, vs = v :: r ∧ repC x c v ∧ repCs x cs r := by
  rw [repCs]

theorem repCs_len {x : Rx} : ∀ (cs : List C1) (vs : List Value), repCs x cs vs → vs.length = cs.length
  | [], _, h => by rw [repCs_nil.1 h]; rfl
  | _ :: cs, _, h => by
    obtain ⟨v, r, rfl, _, h2⟩ := repCs_cons.1 h
    simp [repCs_len cs r h2]

theorem repCs_append {x : Rx} : ∀ (cs ds : List C1) (vs us : List Value), repCs x cs vs → repCs x ds us → repCs x (cs ++ ds) (vs ++ us)
  | [], _, _, _, h, k => by rw [repCs_nil.1 h]; exact k
  | _ :: cs, ds, _, us, h, k => by
    obtain ⟨v, r, rfl, h1, h2⟩ := repCs_cons.1 h
    exact repCs_cons.2 ⟨v, r ++ us, rfl, h1, repCs_append cs ds r us h2 k⟩

theorem repCs_take {x : Rx} : ∀ (n : Nat) (cs : List C1) (vs : List Value), repCs x cs vs → repCs x (cs.take n) (vs.take n)
  | 0, _, _, _ => by simp [repCs_nil]
  | _ + 1, [], _, h => by rw [repCs_nil.1 h]; simp [repCs_nil]
  | n + 1, _ :: cs, _, h => by
    obtain ⟨v, r, rfl, h1, h2⟩ := repCs_cons.1 h
    exact repCs_cons.2 ⟨v, r.take n, rfl, h1, repCs_take n cs r h2⟩

theorem repCs_drop {x : Rx} : ∀ (n : Nat) (cs : List C1) (vs : List Value), repCs x cs vs → repCs x (cs.drop n) (vs.drop n)
  | 0, _, _, h => by simpa using h
  | _ + 1, [], _, h => by rw [repCs_nil.1 h]; simp [repCs_nil]
  | n + 1, _ :: cs, _, h => by
    obtain ⟨v, r, rfl, h1, h2⟩ := repCs_cons.1 h
    simpa using repCs_drop n cs r h2

theorem repCs_mem {x : Rx} : ∀ (cs : List C1) (vs : List Value), repCs x cs vs → ∀ c ∈ cs, ∃ v, repC x c v
  | c :: cs, _, h, d, hd => by
    obtain ⟨v, r, rfl, h1, h2⟩ := repCs_cons.1 h
    cases List.mem_cons.1 hd with
    | inl e => exact ⟨v, e ▸ h1⟩
    | inr e => exact repCs_mem cs r h2 d e

theorem repCs_over {x : Rx} {cs ds : List C1} {vs us : List Value} {off : Nat} (h : repCs x cs vs) (k : repCs x ds us) :
    repCs x (overC cs off ds) (vs.take off ++ us ++ vs.drop (off + us.length)) := by
  unfold overC
  rw [repCs_len _ _ k]
  exact repCs_append _ _ _ _ (repCs_append _ _ _ _ (repCs_take off cs vs h) k) (repCs_drop _ cs vs h)

theorem repC_one {x : Rx} {c : C1} {v : Value} (hk : known c = true) (h : repC x c v) (hσ : ∀ id, ¬ x.N id → (x.σ id).oneCell' = true) : v.oneCell' = true := by
  cases c <;> simp only [repC] at h <;> first
    | (simp [known] at hk; done)
    | (rw [h]; rfl)
    | (rw [h.1]; rfl)
    | (obtain ⟨⟨a, len, cap, e, _⟩, _⟩ := h; simp at e; rw [e]; rfl)
    | (rw [h.2]; exact hσ _ h.1)
    | (obtain ⟨_, b, _, e⟩ := h; rw [e]; rfl)
    | (obtain ⟨b, o, vs, e, _⟩ := h; rw [e]; rfl)
    | (obtain ⟨_, b, n, c, _, e⟩ := h; rw [e]; rfl)
    | (obtain ⟨vs, e, _⟩ := h; rw [e]; rfl)

/-! ### typed values and their cells -/

theorem expl_len : ∀ (t : Ty) (y : t.den), (expl t y).length = t.n
  | .int _, _ => rfl
  | .bool, _ => rfl
  | .str, _ => rfl
  | .unit, _ => rfl
  | .sl _, _ => rfl
  | .pair a b, p => by simp [expl, Ty.n, expl_len a p.1, expl_len b p.2]

theorem expl_rep {x : Rx} : ∀ (t : Ty) (y : t.den) (vs : List Value), ro x.w x.O t y vs → repCs x (expl t y) vs
  | .int k, n, vs, h => by rw [h.1]; exact repCs_cons.2 ⟨_, _, rfl, by unfold repC; exact ⟨rfl, h.2⟩, repCs_nil.2 rfl⟩
  | .bool, b, vs, h => by rw [show _ = _ from h]; exact repCs_cons.2 ⟨_, _, rfl, by unfold repC; rfl, repCs_nil.2 rfl⟩
  | .str, s, vs, h => by rw [h.1]; exact repCs_cons.2 ⟨_, _, rfl, by unfold repC; exact ⟨rfl, h.2⟩, repCs_nil.2 rfl⟩
  | .unit, _, vs, h => by rw [show _ = _ from h]; exact repCs_nil.2 rfl
  | .sl t, xs, vs, h => by
    have h' := h
    obtain ⟨a, len, cap, e, _⟩ := h'
    subst e
    exact repCs_cons.2 ⟨_, _, rfl, by unfold repC; exact ⟨h, by simp⟩, repCs_nil.2 rfl⟩
  | .pair a b, p, vs, ⟨c, d, e, h1, h2⟩ => by rw [e]; exact repCs_append _ _ _ _ (expl_rep a p.1 c h1) (expl_rep b p.2 d h2)

theorem castTy_eq {t u : Ty} {xs : List t.den} {ys : List u.den} (h : castTy t u xs = some ys) : ∃ e : t = u, ys = e ▸ xs := by
  unfold castTy at h
  split at h
  · rename_i e; exact ⟨e, (Option.some.inj h).symm⟩
  · cases h

theorem castTy_self (t : Ty) (xs : List t.den) : castTy t t xs = some xs := by simp [castTy]

/-- A list-like cell, read: the slice, its cells. -/
theorem view_read {cx : Cx} {σ : Nat → Value} {N : Nat → Prop} {m : Mem} {w : World} (h : RepM cx σ N m w) {t : Ty} {c : C1} {ys : List t.den} {v : Value}
    (hv : view m t c = some ys) (hc : repC (rx cx σ N m w) c v) :
    ∃ a n cap flat, v = .slice a n cap ∧ n = ys.length ∧ n ≤ cap ∧ cap ≤ maxLen ∧ roAll (ro w (Owned cx σ m) t) ys flat ∧
      ((cap = 0 ∧ flat = []) ∨ ∃ b o, a = some ⟨b, o, none⟩ ∧ ∀ j u, flat[j]? = some u → w.cell? ⟨b, o + j, none⟩ = some u) := by
  have sl : ∀ (xs : List t.den), ro w (Owned cx σ m) (.sl t) xs [v] → ∃ a n cap flat, v = .slice a n cap ∧ n = xs.length ∧ n ≤ cap ∧ cap ≤ maxLen ∧ roAll (ro w (Owned cx σ m) t) xs flat ∧
      ((cap = 0 ∧ flat = []) ∨ ∃ b o, a = some ⟨b, o, none⟩ ∧ ∀ j u, flat[j]? = some u → w.cell? ⟨b, o + j, none⟩ = some u) := by
    rintro xs ⟨a, len, cap, e, h2, h3, h4, h5⟩
    simp at e
    rcases h5 with h7 | ⟨b, o, flat, h6, h7, h8⟩
    · have hx : xs = [] := List.eq_nil_of_length_eq_zero (by omega)
      subst hx
      exact ⟨a, len, cap, [], e, h2, h3, h4, rfl, .inl ⟨h7, rfl⟩⟩
    · exact ⟨a, len, cap, flat, e, h2, h3, h4, h7, .inr ⟨b, o, h6, fun j u hu => (h8 j u hu).2⟩⟩
  cases c with
  | nilsl =>
    simp [view] at hv; subst hv
    unfold repC at hc
    exact ⟨none, 0, 0, [], hc, rfl, Nat.le_refl _, by simp [maxLen], rfl, .inl ⟨rfl, rfl⟩⟩
  | sl u xs cp =>
    simp only [view] at hv
    obtain ⟨e, rfl⟩ := castTy_eq hv
    subst e
    unfold repC at hc
    exact sl _ hc.1
  | row id =>
    simp only [view] at hv
    unfold repC at hc
    obtain ⟨hn, rfl⟩ := hc
    have hb := h.blk id
    cases hm : m id with
    | row e u xs =>
      rw [hm] at hv hb
      simp only [] at hv
      obtain ⟨e', rfl⟩ := castTy_eq hv
      subst e'
      obtain ⟨n, flat, rfl, k, k1⟩ := hb
      simp only [rx] at k k1
      rcases k.2 with ⟨e1, e2⟩ | ⟨g, cap, cur, e1, _, hg, h1, h2, h3, h4⟩
      · have hx : xs = [] := List.eq_nil_of_length_eq_zero e2
        subst hx
        rw [show flat = [] from k1] at k
        exact ⟨none, 0, 0, [], e1, rfl, Nat.le_refl _, by simp [maxLen], rfl, .inl ⟨rfl, rfl⟩⟩
      · refine ⟨_, xs.length, cap, flat, e1, rfl, h1, h2, k1, .inr ⟨g, 0, rfl, fun j u hu => ?_⟩⟩
        have := k.cells (g := g) (by rw [e1]; rfl) j u hu
        rwa [add_none] at this
    | settled u xs =>
      rw [hm] at hv hb
      simp only [] at hv
      obtain ⟨e', rfl⟩ := castTy_eq hv
      subst e'
      exact sl _ hb
    | dead => rw [hm] at hv; cases hv
    | cells _ _ => rw [hm] at hv; cases hv
    | mapb _ _ _ _ _ => rw [hm] at hv; cases hv
  | _ => simp [view] at hv

/-- The same, where nothing that is seen is owned. -/
theorem view_ro {cx : Cx} {σ : Nat → Value} {N : Nat → Prop} {m : Mem} {w : World} (h : RepM cx σ N m w) {t : Ty} {c : C1} {ys : List t.den} {v : Value}
    (hv : view m t c = some ys) (hc : repC (rx cx σ N m w) c v) (hno : ∀ id ∈ rowsOf [c], own (m id) = false) : ro w (Owned cx σ m) (.sl t) ys [v] := by
  cases c with
  | nilsl =>
    simp [view] at hv; subst hv
    unfold repC at hc
    exact ⟨none, 0, 0, by rw [hc], rfl, Nat.le_refl _, by simp [maxLen], .inl rfl⟩
  | sl u xs cp =>
    simp only [view] at hv
    obtain ⟨e, rfl⟩ := castTy_eq hv
    subst e
    unfold repC at hc
    exact hc.1
  | row id =>
    simp only [view] at hv
    unfold repC at hc
    obtain ⟨hn, rfl⟩ := hc
    have hb := h.blk id
    have ho := hno id (by simp [rowsOf])
    cases hm : m id with
    | settled u xs =>
      rw [hm] at hv hb
      simp only [] at hv
      obtain ⟨e', rfl⟩ := castTy_eq hv
      subst e'
      exact hb
    | row e u xs => rw [hm] at ho; simp [own] at ho
    | dead => rw [hm] at hv; cases hv
    | cells _ _ => rw [hm] at hv; cases hv
    | mapb _ _ _ _ _ => rw [hm] at hv; cases hv
  | _ => simp [view] at hv

theorem rowsOf_append : ∀ (cs ds : List C1), rowsOf (cs ++ ds) = rowsOf cs ++ rowsOf ds
  | [], _ => rfl
  | c :: cs, ds => by cases c <;> simp [rowsOf, rowsOf_append cs ds]

theorem rowsOf_take_mem {id : Nat} {n : Nat} {cs : List C1} (h : id ∈ rowsOf (cs.take n)) : id ∈ rowsOf cs := by
  rw [← List.take_append_drop n cs, rowsOf_append]; exact List.mem_append_left _ h
theorem rowsOf_drop_mem {id : Nat} {n : Nat} {cs : List C1} (h : id ∈ rowsOf (cs.drop n)) : id ∈ rowsOf cs := by
  rw [← List.take_append_drop n cs, rowsOf_append]; exact List.mem_append_right _ h

theorem implI_some {k : IntKind} {cs : List C1} {n : Int} (h : implI k cs = some n) : cs = [.int k n] := by
  unfold implI at h
  split at h
  · split at h
    · rename_i e; subst e; simp at h; subst h; rfl
    · cases h
  · cases h
theorem implB_some {cs : List C1} {b : Bool} (h : implB cs = some b) : cs = [.bool b] := by
  unfold implB at h
  split at h
  · simp at h; subst h; rfl
  · cases h
theorem implS_some {cs : List C1} {s : ByteArray} (h : implS cs = some s) : cs = [.str s] := by
  unfold implS at h
  split at h
  · simp at h; subst h; rfl
  · cases h
theorem implU_some {cs : List C1} {u : Unit} (h : implU cs = some u) : cs = [] := by
  unfold implU at h
  split at h
  · rfl
  · cases h
theorem implL_some {m : Mem} {t : Ty} {cs : List C1} {ys : List t.den} (h : implL m t cs = some ys) : ∃ c, cs = [c] ∧ view m t c = some ys := by
  unfold implL at h
  split at h
  · exact ⟨_, rfl, h⟩
  · cases h
theorem implP_some {α β : Type} {a : Option α} {b : Option β} {p : α × β} (h : implP a b = some p) : a = some p.1 ∧ b = some p.2 := by
  unfold implP at h
  split at h
  · simp at h; subst h; exact ⟨rfl, rfl⟩
  · cases h

theorem impl_ro {cx : Cx} {σ : Nat → Value} {N : Nat → Prop} {m : Mem} {w : World} (h : RepM cx σ N m w) : ∀ (t : Ty) (cs : List C1) (y : t.den) (vs : List Value),
    impl m t cs = some y → repCs (rx cx σ N m w) cs vs → (∀ id ∈ rowsOf cs, own (m id) = false) → ro w (Owned cx σ m) t y vs
  | .int k, cs, y, vs, hi, hr, _ => by
    rw [implI_some hi] at hr
    obtain ⟨v, r, rfl, h1, h2⟩ := repCs_cons.1 hr
    rw [repCs_nil.1 h2]
    unfold repC at h1
    exact ⟨by rw [h1.1], h1.2⟩
  | .bool, cs, y, vs, hi, hr, _ => by
    rw [implB_some hi] at hr
    obtain ⟨v, r, rfl, h1, h2⟩ := repCs_cons.1 hr
    rw [repCs_nil.1 h2]
    unfold repC at h1
    exact congrArg (fun q => [q]) h1
  | .str, cs, y, vs, hi, hr, _ => by
    rw [implS_some hi] at hr
    obtain ⟨v, r, rfl, h1, h2⟩ := repCs_cons.1 hr
    rw [repCs_nil.1 h2]
    unfold repC at h1
    exact ⟨by rw [h1.1], h1.2⟩
  | .unit, cs, y, vs, hi, hr, _ => by
    rw [implU_some hi] at hr
    exact repCs_nil.1 hr
  | .sl t, cs, y, vs, hi, hr, hno => by
    obtain ⟨c, e, hv⟩ := implL_some hi
    subst e
    obtain ⟨v, r, rfl, h1, h2⟩ := repCs_cons.1 hr
    rw [repCs_nil.1 h2]
    exact view_ro h hv h1 hno
  | .pair a b, cs, y, vs, hi, hr, hno => by
    obtain ⟨hp, hq⟩ := implP_some hi
    have h1 := impl_ro h a _ _ _ hp (repCs_take a.n cs vs hr) (fun id hid => hno id (rowsOf_take_mem hid))
    have h2 := impl_ro h b _ _ _ hq (repCs_drop a.n cs vs hr) (fun id hid => hno id (rowsOf_drop_mem hid))
    exact ⟨_, _, (List.take_append_drop a.n vs).symm, h1, h2⟩

/-! ### updates of the memory's list -/

theorem getL_setL {α : Type} (d : α) (l : List (Nat × α)) (i : Nat) (v : α) (j : Nat) : getL d (setL l i v) j = if i = j then v else getL d l j := by
  induction l with
  | nil => simp [setL, getL]
  | cons p l ih =>
    obtain ⟨k, x⟩ := p
    by_cases hk : k = i
    · subst hk
      simp only [setL, if_true, getL]
      split <;> simp_all
    · simp only [setL, if_neg hk, getL, ih]
      by_cases hkj : k = j
      · subst hkj; simp [Ne.symm hk]
      · simp [hkj]

theorem mem_setMany : ∀ (u l : Heap), mem (setMany l u) = updM (mem l) u
  | [], _ => rfl
  | (k, b) :: u, l => by
    simp only [setMany, updM]
    rw [mem_setMany u]
    congr 1
    funext j
    exact getL_setL _ l k b j

theorem updM_append (m : Mem) : ∀ (a b : Heap), updM m (a ++ b) = updM (updM m a) b
  | [], _ => rfl
  | (k, x) :: a, b => by simp only [List.cons_append, updM]; exact updM_append _ a b

theorem updM_off (m : Mem) : ∀ (u : Heap) (id : Nat), (∀ p ∈ u, p.1 ≠ id) → updM m u id = m id
  | [], _, _ => rfl
  | (k, b) :: u, id, h => by
    simp only [updM]
    rw [updM_off _ u id (fun p hp => h p (List.mem_cons_of_mem _ hp)), if_neg (h (k, b) List.mem_cons_self)]

theorem updM_settle (m0 : Mem) : ∀ (ids : List Nat) (m : Mem) (id : Nat), (∀ i ∈ ids, m i = m0 i ∨ m i = (settle m0 i).2) →
    updM m (ids.map (settle m0)) id = if id ∈ ids then (settle m0 id).2 else m id
  | [], _, _, _ => by simp [updM]
  | i :: ids, m, id, h => by
    simp only [List.map_cons]
    rw [show settle m0 i = (i, (settle m0 i).2) from rfl]
    simp only [updM]
    rw [updM_settle m0 ids _ id (fun j hj => ?_)]
    · by_cases hi : i = id
      · subst hi; simp
      · simp [hi, Ne.symm hi]
    · by_cases hij : i = j
      · subst hij; simp
      · simp only [hij, if_false]; exact h j (List.mem_cons_of_mem _ hj)

theorem settle_not_own (m : Mem) (id : Nat) (h : own (settle m id).2 = true) : own (m id) = true := by
  unfold settle at h
  cases hm : m id <;> simp_all [own]

theorem rows_are {m : Mem} : ∀ (t : Ty) (cs : List C1) (y : t.den), impl m t cs = some y → ∀ id ∈ rowsOf cs, ∃ u xs, m id = .settled u xs ∨ ∃ e, m id = .row e u xs
  | .int k, cs, y, hi, id, hid => by rw [implI_some hi] at hid; simp [rowsOf] at hid
  | .bool, cs, y, hi, id, hid => by rw [implB_some hi] at hid; simp [rowsOf] at hid
  | .str, cs, y, hi, id, hid => by rw [implS_some hi] at hid; simp [rowsOf] at hid
  | .unit, cs, y, hi, id, hid => by rw [implU_some hi] at hid; simp [rowsOf] at hid
  | .sl t, cs, y, hi, id, hid => by
    obtain ⟨c, e, hv⟩ := implL_some hi
    subst e
    cases c <;> simp [rowsOf] at hid
    subst hid
    simp only [view] at hv
    cases hm : m id with
    | row e u xs => exact ⟨u, xs, .inr ⟨e, rfl⟩⟩
    | settled u xs => exact ⟨u, xs, .inl rfl⟩
    | _ => rw [hm] at hv; cases hv
  | .pair a b, cs, y, hi, id, hid => by
    obtain ⟨hp, hq⟩ := implP_some hi
    rw [← List.take_append_drop a.n cs, rowsOf_append, List.mem_append] at hid
    exact hid.elim (rows_are a _ _ hp id) (rows_are b _ _ hq id)

theorem settle_eq (m : Mem) (id : Nat) : (settle m id).2 = match m id with | .row _ t xs => .settled t xs | b => b := rfl

/-- Rows turn into plain data. -/
theorem RepM.settles {cx : Cx} {σ : Nat → Value} {N : Nat → Prop} {m : Mem} {w : World} (h : RepM cx σ N m w) (ids : List Nat) :
    RepM cx σ N (updM m (ids.map (settle m))) w ∧ Rx.Keeps (rx cx σ N m w) (rx cx σ N (updM m (ids.map (settle m))) w) := by
  have hu : ∀ id, updM m (ids.map (settle m)) id = if id ∈ ids then (settle m id).2 else m id := fun id => updM_settle m ids m id (fun i _ => .inl rfl)
  refine h.step (fun id => id ∈ ids) (fun _ h => h) (fun id hn => ?_) (fun id hn => ⟨by rw [hu, if_neg hn], rfl⟩) (fun _ _ => rfl) (fun _ _ _ => rfl) (Nat.le_refl _) rfl rfl rfl
    (fun id b hi ho hb => ?_) (fun id id' b hi hi' ho ho' hb hb' => ?_) (fun id _ => h.hone id) (fun hk id hi => ?_)
  · rw [hu]; split
    · simp [settle, h.fresh id hn]
    · exact h.fresh id hn
  · rw [hu, if_pos hi] at ho
    exact .inr ⟨id, hi, settle_not_own m id ho, hb⟩
  · rw [hu, if_pos hi] at ho
    rw [hu, if_pos hi'] at ho'
    exact h.inj id id' b (settle_not_own m id ho) (settle_not_own m id' ho') hb hb'
  · rw [hu, if_pos hi]
    have hb := h.blk id
    generalize hM : updM m (ids.map (settle m)) = M at *
    rw [settle_eq]
    cases hm : m id with
    | row e t xs =>
      rw [hm] at hb
      obtain ⟨n, flat, rfl, k, k1⟩ := hb
      simp only [rx] at k k1
      show ro w (Owned cx σ _) (.sl t) xs [σ id]
      rcases k.2 with ⟨e1, e2⟩ | ⟨g, cap, cur, e1, _, hg, h1, h2, h3, h4⟩
      · exact ⟨none, 0, 0, by rw [e1], e2.symm, Nat.le_refl _, by simp [maxLen], .inl rfl⟩
      · refine ⟨_, xs.length, cap, by rw [e1], rfl, h1, h2, .inr ⟨g, 0, flat, rfl, roAll_mono (ro_keep hk.k t) _ _ k1, fun j u hu' => ⟨?_, ?_⟩⟩⟩
        · rintro (hf | ⟨i, ho, hbi⟩)
          · exact h.notF id g (by rw [hm]; rfl) (by rw [e1]; rfl) hf
          · have hoi : own (m i) = true := by
              rw [hu] at ho; split at ho
              · exact settle_not_own m i ho
              · exact ho
            have := h.inj id i g (by rw [hm]; rfl) hoi (by rw [e1]; rfl) hbi
            subst this
            rw [hu, if_pos hi] at ho
            simp [settle, hm, own] at ho
        · have := k.cells (g := g) (by rw [e1]; rfl) j u hu'
          rwa [add_none] at this
    | dead => trivial
    | settled t xs =>
      rw [hm] at hb
      show ro w _ (.sl t) xs [σ id]
      exact ro_keep hk.k (.sl t) xs _ hb
    | cells e cs =>
      rw [hm] at hb
      obtain ⟨b, vs, e1, e2, k, k1⟩ := hb
      exact ⟨b, vs, e1, e2, repCs_keep hk cs vs k, k1⟩
    | mapb kt vt ka va l =>
      rw [hm] at hb
      obtain ⟨r, es, cl, e1, e2, k⟩ := hb
      exact ⟨r, es, cl, e1, e2, mapRep_keep hk l _ k⟩

theorem view_settle (m : Mem) (ids : List Nat) (t : Ty) (c : C1) : view (updM m (ids.map (settle m))) t c = view m t c := by
  cases c <;> try rfl
  rename_i id
  simp only [view]
  rw [updM_settle m ids m id (fun i _ => .inl rfl)]
  by_cases hi : id ∈ ids
  · rw [if_pos hi, settle_eq]
    cases hm : m id <;> simp
  · rw [if_neg hi]

theorem impl_settle (m : Mem) (ids : List Nat) : ∀ (t : Ty) (cs : List C1), impl (updM m (ids.map (settle m))) t cs = impl m t cs
  | .int _, _ => rfl
  | .bool, _ => rfl
  | .str, _ => rfl
  | .unit, _ => rfl
  | .sl t, cs => by
    show implL _ t cs = implL _ t cs
    unfold implL
    split
    · exact view_settle m ids t _
    · rfl
  | .pair a b, cs => by
    show implP _ _ = implP _ _
    rw [impl_settle m ids a, impl_settle m ids b]

theorem settled_not_own {m : Mem} {ids : List Nat} {t : Ty} {cs : List C1} {y : t.den} (hi : impl m t cs = some y) (hs : ∀ id ∈ rowsOf cs, id ∈ ids) :
    ∀ id ∈ rowsOf cs, own (updM m (ids.map (settle m)) id) = false := by
  intro id hid
  rw [updM_settle m ids m id (fun i _ => .inl rfl), if_pos (hs id hid), settle_eq]
  obtain ⟨u, xs, hm | ⟨e, hm⟩⟩ := rows_are _ _ _ hi id hid <;> simp [hm, own]

end Go.Ev
