/- One state serves as another: at a loop's head, at a call. -/
import Derived.Test.YtdmgmdppejopcaaGreatEvRegToDraw
set_option linter.unusedSimpArgs false
set_option linter.unusedVariables false
namespace Go.Ev

structure Mt.Le (t t' : Mt) : Prop where
  ok : t'.ok → t.ok
  mp : t'.ok → ∀ pn i id, mpGet pn t.mp i = some id → mpGet pn t'.mp i = some id
  vw : t'.ok → ∀ i ∈ t.vw, i ∈ t'.vw

theorem Mt.Le.refl (t : Mt) : t.Le t := ⟨id, fun _ _ _ _ h => h, fun _ _ h => h⟩
theorem Mt.Le.trans {a b c : Mt} (h : a.Le b) (k : b.Le c) : a.Le c :=
  ⟨fun hc => h.ok (k.ok hc), fun hc pn i id hi => k.mp hc pn i id (h.mp (k.ok hc) pn i id hi), fun hc i hi => k.vw hc i (h.vw (k.ok hc) i hi)⟩
theorem Mt.le_no (t : Mt) : t.Le Mt.no := ⟨False.elim, fun h => h.elim, fun h => h.elim⟩
theorem Mt.le_and (t : Mt) {p : Prop} : t.Le ⟨p ∧ t.ok, t.mp, t.vw⟩ := ⟨fun h => h.2, fun _ _ _ _ h => h, fun _ _ h => h⟩

theorem findL_append {α : Type} : ∀ (l r : List (Nat × α)) (i : Nat), findL (l ++ r) i = (findL l i).or (findL r i)
  | [], r, i => by simp [findL]
  | (k, v) :: l, r, i => by
    simp only [List.cons_append, findL]
    split
    · rfl
    · exact findL_append l r i

theorem findL_mem {α : Type} : ∀ {l : List (Nat × α)} {i : Nat} {v : α}, findL l i = some v → (i, v) ∈ l
  | (k, x) :: l, i, v, h => by
    simp only [findL] at h
    split at h
    · rename_i e; cases h; rw [e]; exact List.mem_cons_self
    · exact List.mem_cons_of_mem _ (findL_mem h)

theorem findL_none {α : Type} : ∀ {l : List (Nat × α)} {i : Nat}, findL l i = none → ∀ p ∈ l, p.1 ≠ i
  | (k, x) :: l, i, h, p, hp => by
    simp only [findL] at h
    split at h
    · cases h
    · rename_i e
      cases List.mem_cons.1 hp with
      | inl q => rw [q]; exact e
      | inr q => exact findL_none h p q

theorem bind_le (pn fr' id id' : Nat) (t : Mt) : t.Le (bindId pn fr' id id' t) := by
  unfold bindId
  split
  · split
    · exact .refl t
    · exact t.le_no
  · rename_i hn
    split
    · refine ⟨fun h => h, fun _ q i j h => ?_, fun _ _ h => h⟩
      unfold mpGet at *
      split at h
      · rename_i hlt; rw [if_pos hlt]; exact h
      · rename_i hlt; rw [if_neg hlt, findL_append, h]; rfl
    · exact t.le_no

theorem bind_spec {pn fr' id id' : Nat} {t : Mt} (h : (bindId pn fr' id id' t).ok) : mpGet pn (bindId pn fr' id id' t).mp id' = some id := by
  unfold bindId at *
  split at h
  · rename_i j hj
    split at h
    · rename_i e; simp only [hj, e, if_true]
    · exact h.elim
  · rename_i hn
    split at h
    · rename_i hc
      rw [if_pos hc]
      unfold mpGet at hn ⊢
      split at hn
      · cases hn
      · rename_i hlt
        rw [if_neg hlt]
        simp only [findL_append, hn, Option.none_or, findL, if_true]
    · exact h.elim

/-- One to one. -/
def Mt.J (pn fr' : Nat) (t : Mt) : Prop := t.ok → (t.mp.map (·.2)).Nodup ∧ ∀ p ∈ t.mp, p.1 < fr' ∧ pn ≤ p.2

theorem bind_J {pn fr' id id' : Nat} {t : Mt} (h : t.J pn fr') : (bindId pn fr' id id' t).J pn fr' := by
  unfold bindId
  split
  · split
    · exact h
    · exact fun hh => hh.elim
  · split
    · rename_i hc
      intro hok
      obtain ⟨h1, h2⟩ := h hok
      refine ⟨?_, fun p hp => ?_⟩
      · rw [List.map_append, List.nodup_append]
        refine ⟨h1, by simp, fun a ha b hb e => ?_⟩
        simp only [List.map_cons, List.map_nil, List.mem_singleton] at hb
        subst hb; subst e
        have := hc.2.2
        rw [List.contains_iff_mem.2 ha] at this; cases this
      · rcases List.mem_append.1 hp with hp | hp
        · exact h2 p hp
        · rw [List.mem_singleton.1 hp]; exact ⟨hc.2.1, hc.1⟩
    · exact fun hh => hh.elim

theorem and_J {pn fr' : Nat} {t : Mt} {p : Prop} {vw : List Nat} (h : t.J pn fr') : (Mt.mk (p ∧ t.ok) t.mp vw).J pn fr' := fun hk => h hk.2
theorem no_J {pn fr' : Nat} : Mt.no.J pn fr' := fun h => h.elim

section
variable {m : Mem} {pn fr' : Nat}

mutual
theorem matchC_le : ∀ (c d : C1) (t : Mt), t.Le (matchC pn m fr' c d t) := by
  intro c d t
  unfold matchC
  split <;> first
    | exact .refl t
    | exact t.le_no
    | exact bind_le ..
    | exact t.le_and
    | (split <;> first | exact t.le_and | exact bind_le .. | exact (t.le_and).trans (bind_le ..) | exact matchCs_le .. | exact t.le_no)
    | exact ⟨fun h => h.2.2, fun _ _ _ _ h => h, fun _ _ h => h⟩
    | exact ⟨fun h => h.2.2, fun _ _ _ _ h => h, fun _ _ h => List.mem_cons_of_mem _ h⟩
theorem matchCs_le : ∀ (cs ds : List C1) (t : Mt), t.Le (matchCs pn m fr' cs ds t) := by
  intro cs ds t
  unfold matchCs
  split
  · exact .refl t
  · exact (matchC_le ..).trans (matchCs_le ..)
  · exact t.le_no
end

mutual
theorem matchC_J : ∀ (c d : C1) (t : Mt), t.J pn fr' → (matchC pn m fr' c d t).J pn fr' := by
  intro c d t h
  unfold matchC
  split <;> first
    | exact h
    | exact no_J
    | exact bind_J h
    | exact and_J h
    | (split <;> first | exact and_J h | exact bind_J h | exact bind_J (and_J h) | exact matchCs_J _ _ _ h | exact no_J)
    | exact fun hk => h hk.2.2
theorem matchCs_J : ∀ (cs ds : List C1) (t : Mt), t.J pn fr' → (matchCs pn m fr' cs ds t).J pn fr' := by
  intro cs ds t h
  unfold matchCs
  split
  · exact h
  · exact matchCs_J _ _ _ (matchC_J _ _ _ h)
  · exact no_J
end

theorem matchA_le (a b : AV) (t : Mt) : t.Le (matchA pn m fr' a b t) := by
  unfold matchA
  split
  · exact matchC_le ..
  · exact matchCs_le ..
  · exact .refl t
  · exact t.le_no
theorem matchA_J (a b : AV) (t : Mt) (h : t.J pn fr') : (matchA pn m fr' a b t).J pn fr' := by
  unfold matchA
  split
  · exact matchC_J _ _ _ h
  · exact matchCs_J _ _ _ h
  · exact h
  · exact no_J

theorem matchS_le (s : Slots) : ∀ (r : Slots) (t : Mt), t.Le (matchS pn m fr' s r t)
  | [], t => .refl t
  | (i, v) :: r, t => (matchA_le _ _ t).trans (matchS_le s r _)
theorem matchS_J (s : Slots) : ∀ (r : Slots) (t : Mt), t.J pn fr' → (matchS pn m fr' s r t).J pn fr'
  | [], t, h => h
  | (i, v) :: r, t, h => matchS_J s r _ (matchA_J _ _ t h)

theorem matchB_le (a b : Blk) (t : Mt) : t.Le (matchB pn m fr' a b t) := by
  unfold matchB
  split
  · exact .refl t
  · split
    · exact matchCs_le ..
    · exact t.le_no
  · split
    · exact t.le_and
    · exact t.le_no
  · split
    · exact t.le_and
    · exact t.le_no
  · exact t.le_no
theorem matchB_J (a b : Blk) (t : Mt) (h : t.J pn fr') : (matchB pn m fr' a b t).J pn fr' := by
  unfold matchB
  split
  · exact h
  · split
    · exact matchCs_J _ _ _ h
    · exact no_J
  · split
    · exact and_J h
    · exact no_J
  · split
    · exact and_J h
    · exact no_J
  · exact no_J

theorem matchM_le : ∀ (r : Heap) (t : Mt), t.Le (matchM pn m fr' r t)
  | [], t => .refl t
  | (i, b) :: r, t => by
    simp only [matchM]
    split
    · exact (matchB_le _ _ t).trans (matchM_le r _)
    · exact t.le_no
theorem matchM_J : ∀ (r : Heap) (t : Mt), t.J pn fr' → (matchM pn m fr' r t).J pn fr'
  | [], t, h => h
  | (i, b) :: r, t, h => by
    simp only [matchM]
    split
    · exact matchM_J r _ (matchB_J _ _ t h)
    · exact no_J

/-! ### what is said of the values -/

structure Tgt (pn : Nat) (x x' : Rx) (m : Mem) (tf : Mt) : Prop where
  w : x'.w = x.w
  O : ∀ b, x'.O b → x.O b
  σ : ∀ i id, mpGet pn tf.mp i = some id → x'.σ i = x.σ id ∧ ¬ x'.N i
  vw : ∀ id ∈ tf.vw, ∀ t xs, view m t (.row id) = some xs → ro x.w x.O (.sl t) xs [x.σ id]
  ok : tf.ok

variable {x x' : Rx} {tf : Mt}

theorem Tgt.keep (h : Tgt pn x x' m tf) : Keep x.w x'.w x.O x'.O := ⟨fun b _ ho => ⟨fun k => ho (h.O b k), by rw [h.w]⟩⟩

theorem castTy_some {t u : Ty} {xs : List t.den} {ys : List u.den} (h : castTy t u xs = some ys) : ∃ e : t = u, e ▸ xs = ys := by
  unfold castTy at h
  split at h
  · rename_i e; exact ⟨e, Option.some.inj h⟩
  · cases h

mutual
theorem matchC_rep (H : Tgt pn x x' m tf) : ∀ (c d : C1) (t : Mt) (v : Value), (matchC pn m fr' c d t).Le tf → repC x c v → repC x' d v := by
  intro c d t v hle hr
  have hok := hle.ok H.ok
  unfold matchC at hle hok
  split at hle <;> try simp only at hok
  · unfold repC; trivial
  · rename_i k a k' b
    split at hle
    · rename_i e
      rw [if_pos e] at hok
      unfold repC at hr ⊢
      rw [← e, ← hok.1]; exact hr
    · rename_i e; rw [if_neg e] at hok; exact hok.elim
  · unfold repC at hr ⊢; rw [← hok.1]; exact hr
  · unfold repC at hr ⊢; rw [← hok.1]; exact hr
  · unfold repC at hr ⊢; exact hr
  · unfold repC at hr ⊢; exact hr
  · unfold repC at hr ⊢; exact hr
  · rename_i u ys cp
    unfold repC at hr ⊢
    rw [hr, hok.1]
    exact ⟨⟨none, 0, 0, rfl, rfl, Nat.le_refl _, by simp [maxLen], .inl rfl⟩, fun _ => ⟨none, 0, rfl⟩⟩
  · rename_i u xs cp v' ys cp'
    obtain ⟨e, he⟩ := castTy_some hok.1
    subst e
    subst he
    unfold repC at hr ⊢
    exact ⟨ro_keep H.keep _ _ _ hr.1, fun hc => hr.2 (hok.2.1 hc)⟩
  · rename_i id v' ys cp'
    unfold repC at hr ⊢
    have := H.vw id (hle.vw H.ok id List.mem_cons_self) v' ys hok.1
    rw [hr.2]
    exact ⟨ro_keep H.keep _ _ _ this, fun hc => by rw [hok.2.1] at hc; cases hc⟩
  · rename_i id id'
    unfold repC at hr ⊢
    obtain ⟨e, hn⟩ := H.σ id' id (hle.mp H.ok pn id' id (bind_spec hok))
    exact ⟨hn, by rw [e]; exact hr.2⟩
  · rename_i id sz lo len v' ys cp'
    have hvw := H.vw id (hle.vw H.ok id List.mem_cons_self)
    have hro : ro x.w x.O (.sl v') ys [v] := by
      have hv := hok.1
      simp only [view] at hv
      split at hv
      · rename_i e' u xs hm
        split at hv
        · rename_i hc
          obtain ⟨e1, he1⟩ := castTy_some hv
          subst e1
          subst he1
          obtain ⟨rfl, hll⟩ := hc
          exact win_ro (hvw u xs (by simp [view, hm, castTy])) hr hll
        · cases hv
      · rename_i u xs hm
        split at hv
        · rename_i hc
          obtain ⟨e1, he1⟩ := castTy_some hv
          subst e1
          subst he1
          obtain ⟨rfl, hll⟩ := hc
          exact win_ro (hvw u xs (by simp [view, hm, castTy])) hr hll
        · cases hv
      · cases hv
    unfold repC
    exact ⟨ro_keep H.keep _ _ _ hro, fun hc => by rw [hok.2.1] at hc; cases hc⟩
  · rename_i id sz lo len id' sz' lo' len'
    split at hle
    · rename_i e
      rw [if_pos e] at hok
      obtain ⟨e', hn⟩ := H.σ id' id (hle.mp H.ok pn id' id (bind_spec hok))
      have hq := ((bind_le pn fr' id id' ⟨(lo = lo' ∧ len = len') ∧ t.ok, t.mp, t.vw⟩).ok hok).1
      obtain ⟨rfl, rfl⟩ := hq
      subst e
      unfold repC at hr ⊢
      exact ⟨hn, by rw [e']; exact hr.2⟩
    · rename_i e; rw [if_neg e] at hok; exact hok.elim
  · rename_i id off id' off'
    split at hle
    · rename_i e
      rw [if_pos e] at hok
      unfold repC at hr ⊢
      obtain ⟨e', hn⟩ := H.σ id' id (hle.mp H.ok pn id' id (bind_spec hok))
      exact ⟨hn, by rw [e', ← e]; exact hr.2⟩
    · rename_i e; rw [if_neg e] at hok; exact hok.elim
  · rename_i id id'
    unfold repC at hr ⊢
    obtain ⟨e, hn⟩ := H.σ id' id (hle.mp H.ok pn id' id (bind_spec hok))
    exact ⟨hn, by rw [e]; exact hr.2⟩
  · rename_i f cs g ds
    split at hle
    · rename_i e
      unfold repC at hr ⊢
      obtain ⟨vs, e2, h2⟩ := hr
      exact ⟨vs, by rw [← e]; exact e2, matchCs_rep H cs ds _ vs hle h2⟩
    · rename_i e; rw [if_neg e] at hok; exact hok.elim
  · exact hok.elim
theorem matchCs_rep (H : Tgt pn x x' m tf) : ∀ (cs ds : List C1) (t : Mt) (vs : List Value), (matchCs pn m fr' cs ds t).Le tf → repCs x cs vs → repCs x' ds vs := by
  intro cs ds t vs hle hr
  unfold matchCs at hle
  split at hle
  · rw [repCs_nil.1 hr]; exact repCs_nil.2 rfl
  · rename_i c cs d ds
    obtain ⟨v, r, rfl, h1, h2⟩ := repCs_cons.1 hr
    exact repCs_cons.2 ⟨v, r, rfl, matchC_rep H c d t v ((matchCs_le cs ds _).trans hle) h1, matchCs_rep H cs ds _ r hle h2⟩
  · exact (hle.ok H.ok).elim
end

theorem matchA_rep (H : Tgt pn x x' m tf) (a b : AV) (t : Mt) (v : Value) (hle : (matchA pn m fr' a b t).Le tf) (hr : repA x a v) : repA x' b v := by
  unfold matchA at hle
  split at hle
  · unfold repA at hr ⊢; exact matchC_rep H _ _ _ _ hle hr
  · unfold repA at hr ⊢
    obtain ⟨vs, e, h⟩ := hr
    exact ⟨vs, e, matchCs_rep H _ _ _ _ hle h⟩
  · unfold repA repC; trivial
  · exact (hle.ok H.ok).elim

theorem matchS_rep (H : Tgt pn x x' m tf) (s : Slots) (tmp : Nat → Value) (hs : ∀ i, repA x (sget s i) (tmp i)) : ∀ (r : Slots) (t : Mt), (matchS pn m fr' s r t).Le tf → ∀ i v, (i, v) ∈ r → repA x' v (tmp i)
  | (j, u) :: r, t, hle, i, v, hm => by
    cases List.mem_cons.1 hm with
    | inl e =>
      cases e
      exact matchA_rep H _ _ t _ ((matchS_le s r _).trans hle) (hs j)
    | inr e => exact matchS_rep H s tmp hs r _ hle i v e

theorem matchB_own {a b : Blk} {t : Mt} (h : (matchB pn m fr' a b t).ok) : own b = true → own a = true := by
  unfold matchB at h
  split at h
  · intro h; cases h
  · split at h
    · intro _; rfl
    · exact h.elim
  · intro _; rfl
  · intro _; rfl
  · exact h.elim

theorem mapRep_keepw {x y : Rx} (h : Keep x.w y.w x.O y.O) {kt vt : Ty} {ka va : Bool} : ∀ (l : List (kt.den × vt.den)) (es : List MapEntry), mapRep x kt vt ka va l es → mapRep y kt vt ka va l es
  | [], _, k => k
  | _ :: l, _, ⟨e, r, ks, vs, he, e1, k1, e2, k2, k3⟩ => ⟨e, r, ks, vs, he, e1, ro_keep h _ _ _ k1, e2, ro_keep h _ _ _ k2, mapRep_keepw h l r k3⟩

theorem matchB_rep' (H : Tgt pn x x' m tf) {i id : Nat} (eσ : x'.σ i = x.σ id) (b : Blk) (t : Mt) (hle : (matchB pn m fr' (m id) b t).Le tf) (hr : repB x id (m id)) : repB x' i b := by
  have hok := hle.ok H.ok
  generalize m id = a at *
  unfold matchB at hle hok
  split at hle <;> try simp only at hok
  · trivial
  · rename_i e cs e' ds
    split at hle
    · rename_i he
      obtain ⟨bl, vs, h1, h2, h3, h4⟩ := hr
      exact ⟨bl, vs, by rw [eσ]; exact h1, by rw [H.w, ← he]; exact h2, matchCs_rep H _ _ _ _ hle h3, h4⟩
    · rename_i he; rw [if_neg he] at hok; exact hok.elim
  · rename_i e u xs e' v ys
    split at hle
    · rename_i he
      rw [if_pos he] at hok
      obtain ⟨e2, he2⟩ := castTy_some hok.1
      subst e2; subst he2; subst he
      obtain ⟨n, flat, h1, h2, h3⟩ := hr
      exact ⟨n, flat, h1, by rw [H.w, eσ]; exact h2, roAll_mono (ro_keep H.keep _) _ _ h3⟩
    · rename_i he; rw [if_neg he] at hok; exact hok.elim
  · rename_i k v ka va l k' v' ka' va' l'
    split at hle
    · rename_i he
      rw [dif_pos he] at hok
      obtain ⟨h1, h2, h3, h4⟩ := he
      subst h1; subst h2; subst h3; subst h4
      obtain ⟨r, es, cl, g1, g2, g3⟩ := hr
      have hl : l = l' := hok.1
      subst hl
      refine ⟨r, es, cl, by rw [eσ]; exact g1, by rw [H.w]; exact g2, ?_⟩
      exact mapRep_keepw H.keep l _ g3
    · rename_i he; rw [dif_neg he] at hok; exact hok.elim
  · exact hok.elim


end

/-! ### the state -/

section
variable {cx cx' : Cx} {σ : Nat → Value} {N : Nat → Prop} {m : Mem} {w : World} {s : Nat → AV} {n : Nat} {a : Act}

def sigOf (pn : Nat) (σ : Nat → Value) (mp : List (Nat × Nat)) : Nat → Value := fun i => match mpGet pn mp i with
  | some id => σ id
  | none => σ 0

theorem mp_inj {pn fr' : Nat} {t : Mt} (hj : t.J pn fr') (hok : t.ok) {i j id : Nat} (hi : mpGet pn t.mp i = some id) (hjj : mpGet pn t.mp j = some id) : i = j := by
  obtain ⟨hnd, hge⟩ := hj hok
  unfold mpGet at hi hjj
  split at hi <;> split at hjj
  · cases hi; cases hjj; rfl
  · rename_i h1 h2
    cases hi
    have := (hge _ (findL_mem hjj)).2
    simp only at this
    omega
  · rename_i h1 h2
    cases hjj
    have := (hge _ (findL_mem hi)).2
    simp only at this
    omega
  have h1 := findL_mem hi
  have h2 := findL_mem hjj
  clear hge
  generalize t.mp = l at *
  clear hi hjj
  induction l with
  | nil => cases h1
  | cons p l ih =>
    rw [List.map_cons, List.nodup_cons] at hnd
    rcases List.mem_cons.1 h1 with e1 | e1 <;> rcases List.mem_cons.1 h2 with e2 | e2
    · rw [← e1] at e2; cases e2; rfl
    · rw [← e1] at hnd; exact absurd (List.mem_map.2 ⟨_, e2, rfl⟩) hnd.1
    · rw [← e2] at hnd; exact absurd (List.mem_map.2 ⟨_, e1, rfl⟩) hnd.1
    · exact ih hnd.2 e1 e2

/-- Every entry of the other heap stands for one of ours. -/
theorem matchM_at {pn fr' : Nat} : ∀ (r : Heap) (t : Mt), (matchM pn m fr' r t).ok → ∀ i b, (i, b) ∈ r → ∃ t' id, mpGet pn t'.mp i = some id ∧ (matchB pn m fr' (m id) b t').Le (matchM pn m fr' r t) ∧ t'.Le (matchM pn m fr' r t)
  | (j, c) :: r, t, hok, i, b, hm => by
    simp only [matchM] at hok ⊢
    split at hok
    · rename_i id hid
      cases List.mem_cons.1 hm with
      | inl e => cases e; exact ⟨t, id, hid, matchM_le r _, (matchB_le _ _ _).trans (matchM_le r _)⟩
      | inr e => exact matchM_at r _ hok i b e
    · exact hok.elim

theorem getL_mem {α : Type} {d : α} : ∀ (l : List (Nat × α)) (i : Nat), getL d l i = d ∨ (i, getL d l i) ∈ l
  | [], _ => .inl rfl
  | (k, v) :: l, i => by
    simp only [getL]
    split
    · rename_i e; rw [e]; exact .inr List.mem_cons_self
    · exact (getL_mem l i).imp id (List.mem_cons_of_mem _)

theorem view_settled {t : Ty} {xs : List t.den} {id : Nat} (hv : view m t (.row id) = some xs) : ∃ u ys, (settle m id).2 = .settled u ys ∧ castTy u t ys = some xs := by
  simp only [view] at hv
  unfold settle
  split at hv
  · rename_i e u ys hm; exact ⟨u, ys, by simp [hm], hv⟩
  · rename_i u ys hm; exact ⟨u, ys, by simp [hm], hv⟩
  · cases hv

/-- WHAT SERVES: the memory, and what the values say. f: which of our ids stands for an id of the other state. -/
theorem RepM.serve (h : RepM cx σ N m w) {pn fr' : Nat} {m' : Mem} {tf : Mt} (f : Nat → Option Nat) (hok : tf.ok)
    (hat : ∀ i, m' i ≠ .dead → ∃ t' id, f i = some id ∧ (matchB pn m fr' (m id) (m' i) t').Le tf)
    (hfm : ∀ i id, mpGet pn tf.mp i = some id → f i = some id) (hlt : ∀ i id, f i = some id → i < fr') (hinj : ∀ i j id, f i = some id → f j = some id → i = j)
    (hvw : ∀ id ∈ tf.vw, ∀ i, f i ≠ some id)
    (hF : ∀ b, cx'.F b → cx.F b ∨ ∃ id, own (m id) = true ∧ blkOf (σ id) = some b ∧ id ∉ tf.vw ∧ ∀ i, f i ≠ some id)
    (hlow : ∀ id b, own (m id) = true → blkOf (σ id) = some b → (∃ i, f i = some id) → cx'.w0.heap.size ≤ b ∨ cx'.Mu b) (hevo : Evo cx' w)
    {σ' : Nat → Value} (hσ : ∀ i id, f i = some id → σ' i = σ id) (hone : ∀ i, (σ' i).oneCell' = true) (hfix : ∀ i, i < cx'.np → ¬ From fr' i ∧ σ' i = cx'.arg i) :
    RepM cx' σ' (From fr') m' w ∧ Tgt pn (rx cx σ N (updM m (tf.vw.map (settle m))) w) (rx cx' σ' (From fr') m' w) m tf := by
  have hu : ∀ id, updM m (tf.vw.map (settle m)) id = if id ∈ tf.vw then (settle m id).2 else m id := fun id => updM_settle m tf.vw m id (fun i _ => .inl rfl)
  obtain ⟨h2, _⟩ := h.settles tf.vw
  have own' : ∀ i, own (m' i) = true → ∃ id, f i = some id ∧ own (m id) = true ∧ σ' i = σ id := by
    intro i hi
    obtain ⟨t', id, h1, h3⟩ := hat i (fun e => by rw [e] at hi; cases hi)
    exact ⟨id, h1, matchB_own (h3.ok hok) hi, hσ i id h1⟩
  have nvw : ∀ i id, f i = some id → id ∉ tf.vw := fun i id hi hm => hvw id hm i hi
  have T : Tgt pn (rx cx σ N (updM m (tf.vw.map (settle m))) w) (rx cx' σ' (From fr') m' w) m tf := by
    refine ⟨rfl, fun b hb => ?_, fun i id hi => ⟨hσ i id (hfm i id hi), fun hf => ?_⟩, fun id hid u xs hv => ?_, hok⟩
    · rcases hb with hb | ⟨i, ho, hb⟩
      · rcases hF b hb with h1 | ⟨id, h1, h2, h3, _⟩
        · exact .inl h1
        · exact .inr ⟨id, by rw [hu, if_neg h3]; exact h1, h2⟩
      · obtain ⟨id, h1, h2, h3⟩ := own' i ho
        exact .inr ⟨id, by rw [hu, if_neg (nvw i id h1)]; exact h2, by rw [← h3]; exact hb⟩
    · have := hlt i id (hfm i id hi)
      unfold rx From at hf
      simp only at hf
      omega
    · obtain ⟨u', ys, e1, e2⟩ := view_settled hv
      obtain ⟨e3, e4⟩ := castTy_some e2
      subst e3; subst e4
      have := h2.blk id
      rw [hu, if_pos hid, e1] at this
      exact this
  -- a block that is bound is told by the match; its binding need not be the match's own
  have blk : ∀ i id (t' : Mt), f i = some id → (matchB pn m fr' (m id) (m' i) t').Le tf → repB (rx cx' σ' (From fr') m' w) i (m' i) := by
    intro i id t' h1 h3
    have hb := h2.blk id
    rw [hu, if_neg (nvw i id h1)] at hb
    exact matchB_rep' T (hσ i id h1) _ t' h3 hb
  refine ⟨⟨fun i => ?_, fun i hi => ?_, fun i j b ho ho' hb hb' => ?_, fun i b ho hb => ?_, fun i b ho hb => ?_, hevo, fun b hb => ?_, hone, hfix⟩, T⟩
  · by_cases hd : m' i = .dead
    · rw [hd]; trivial
    · obtain ⟨t', id, h1, h3⟩ := hat i hd
      exact blk i id t' h1 h3
  · by_cases hd : m' i = .dead
    · exact hd
    · obtain ⟨t', id, h1, _⟩ := hat i hd
      have := hlt i id h1
      unfold From at hi
      omega
  · obtain ⟨id, h1, h2, h3⟩ := own' i ho
    obtain ⟨jd, g1, g2, g3⟩ := own' j ho'
    rw [h3] at hb; rw [g3] at hb'
    have := h.inj id jd b h2 g2 hb hb'
    subst this
    exact hinj i j id h1 g1
  · obtain ⟨id, h1, h2, h3⟩ := own' i ho
    rw [h3] at hb
    intro hf
    rcases hF b hf with k1 | ⟨jd, k1, k2, _, k4⟩
    · exact h.notF id b h2 hb k1
    · have := h.inj id jd b h2 k1 hb k2
      subst this
      exact k4 i h1
  · obtain ⟨id, h1, h2, h3⟩ := own' i ho
    rw [h3] at hb
    exact hlow id b h2 hb ⟨i, h1⟩
  · rcases hF b hb with k1 | ⟨jd, k1, k2, _, _⟩
    · exact h.hF b k1
    · exact repB_lt (h.blk jd) k1 b k2

/-- What serves by a match alone: the ids below 32 stand for themselves. -/
theorem RepM.ent (h : RepM cx σ N m w) (hnp : cx.np ≤ 32) {s : Slots} {s' : Slots} {m' : Heap} {fr' : Nat} (he : ent s m fr' s' m') (tmp : Nat → Value) (hs : ∀ i, repA (rx cx σ N m w) (sget s i) (tmp i)) :
    ∃ σ', RepM cx σ' (From fr') (mem m') w ∧ (∀ i, repA (rx cx σ' (From fr') (mem m') w) (sget s' i) (tmp i)) ∧ (∀ b, Owned cx σ' (mem m') b → Owned cx σ m b) := by
  unfold Ev.ent mOk at he
  generalize hq : matchM 32 m fr' m' (matchS 32 m fr' s s' ⟨True, [], []⟩) = tf at he
  obtain ⟨⟨hfr, hv⟩, hok⟩ := he
  have hj : (matchS 32 m fr' s s' ⟨True, [], []⟩).J 32 fr' := matchS_J s s' _ (fun _ => ⟨by simp, fun _ hp => by cases hp⟩)
  have hjf : tf.J 32 fr' := by rw [← hq]; exact matchM_J _ _ hj
  have hvw : ∀ id ∈ tf.vw, ∀ i, mpGet 32 tf.mp i ≠ some id := by
    intro id hid i hi
    have := List.all_eq_true.1 hv id hid
    simp only [Bool.and_eq_true, decide_eq_true_eq, Bool.not_eq_true'] at this
    unfold mpGet at hi
    split at hi
    · cases hi; omega
    · have h3 := this.2
      rw [List.contains_iff_mem.2 (List.mem_map.2 ⟨_, findL_mem hi, rfl⟩)] at h3
      cases h3
  have hlt : ∀ i id, mpGet 32 tf.mp i = some id → i < fr' := by
    intro i id hi
    unfold mpGet at hi
    split at hi
    · omega
    · exact ((hjf hok).2 _ (findL_mem hi)).1
  obtain ⟨h1, T⟩ := h.serve (cx' := cx) (pn := 32) (fr' := fr') (m' := mem m') (tf := tf) (fun i => mpGet 32 tf.mp i) hok (fun i hi => by
      rcases getL_mem (d := .dead) m' i with e | e
      · exact absurd e hi
      · obtain ⟨t', id, h1, h2, h3⟩ := matchM_at m' _ (hq ▸ hok) i _ e
        rw [hq] at h2 h3
        exact ⟨t', id, h3.mp hok 32 i id h1, h2⟩) (fun i id h => h) hlt (fun i j id hi hjj => mp_inj hjf hok hi hjj) hvw (fun b hb => .inl hb) (fun id b ho hb _ => h.low id b ho hb) h.evo
      (σ' := sigOf 32 σ tf.mp) (fun i id hi => by simp only [sigOf, hi]) (fun i => by unfold sigOf; split; exact h.hone _; exact h.hone 0)
      (fun i hi => ⟨fun hf => by unfold From at hf; omega, by
        have : mpGet 32 tf.mp i = some i := by unfold mpGet; rw [if_pos (by omega)]
        simp only [sigOf, this]; exact (h.fix i hi).2⟩)
  obtain ⟨_, k2⟩ := h.settles tf.vw
  refine ⟨_, h1, fun i => ?_, fun b hb => ?_⟩
  · rcases getL_mem (d := AV.one .undef) s' i with e | e
    · unfold sget; rw [e]; unfold repA repC; trivial
    · exact matchS_rep T s tmp (fun i => repA_keep k2 _ _ (hs i)) s' ⟨True, [], []⟩ (hq ▸ matchM_le _ _) i _ e
  · rcases T.O b hb with h1 | ⟨i, ho, hb⟩
    · exact .inl h1
    · refine .inr ⟨i, ?_, hb⟩
      rw [updM_settle m tf.vw m i (fun i _ => .inl rfl)] at ho
      split at ho
      · exact settle_not_own m i ho
      · exact ho

/-- At a loop's head. -/
theorem RepF.ent {s : Slots} {s' : Slots} {m' : Heap} {fr' : Nat} (h : RepF cx σ N (sget s) m n a w) (hnp : cx.np ≤ 32) (he : ent s m fr' s' m') : ∃ σ', RepF cx σ' (From fr') (sget s') (mem m') n a w := by
  obtain ⟨σ', h1, h2, _⟩ := h.mm.ent hnp he (fun i => a.tmps.getD i undef) h.ss
  exact ⟨σ', h1, h2, h.df, h.sz⟩

end
end Go.Ev

/- The walk of a body is sound. -/
set_option linter.unusedSimpArgs false
set_option linter.unusedVariables false
namespace Go.Ev

def Ex.to : Ex → Exit
  | .normal => .normal
  | .ret => .ret
  | .exit id => .exit id

section
variable {cx : Cx} {σ : Nat → Value} {N : Nat → Prop} {n : Nat} {P : Program} {T : Tab} {G : Env} {ks : Nat}

theorem sget_keepL (ks : Nat) : ∀ (s : Slots) (i : Nat), sget (keepL ks s) i = sget s i ∨ sget (keepL ks s) i = .one .undef
  | [], i => .inr rfl
  | (k, v) :: l, i => by
    simp only [keepL]
    by_cases e : k = i
    · subst e
      split
      · exact .inl (by simp [sget, getL])
      · rename_i hc
        refine .inr ?_
        clear v
        induction l with
        | nil => rfl
        | cons p l ih =>
          obtain ⟨j, u⟩ := p
          simp only [keepL]
          split
          · rename_i hj
            have : ¬ j = k := fun e => by subst e; exact hc hj
            simp only [sget, getL, if_neg this]; exact ih
          · exact ih
    · split
      · simp only [sget, getL, if_neg e]; exact sget_keepL ks l i
      · rw [show sget ((k, v) :: l) i = sget l i by simp only [sget, getL, if_neg e]]; exact sget_keepL ks l i

theorem RepF.keepL {s : Slots} {m : Mem} {a : Act} {w : World} (h : RepF cx σ N (sget s) m n a w) : RepF cx σ N (sget (Ev.keepL ks s)) m n a w := by
  refine ⟨h.mm, fun i => ?_, h.df, h.sz⟩
  rcases sget_keepL ks s i with e | e
  · rw [e]; exact h.ss i
  · rw [e]; unfold repA repC; trivial

theorem rounds_mono {c : Code} {Q : Exit → Act → World → Prop} : ∀ {k k' : Nat} {a : Act} {w : World}, k ≤ k' → Code.rounds P c Q k a w → Code.rounds P c Q k' a w
  | 0, _, _, _, _, h => h.elim
  | k + 1, 0, _, _, hl, _ => by omega
  | k + 1, k' + 1, a, w, hl, h => by
    rw [rounds_succ] at *
    exact Code.wp_mono (fun e a w q => by
      cases e <;> first
        | exact rounds_mono (by omega) q
        | exact q) h

theorem ev_sound (ht : TabOK P T) (hG : EnvOk P G) (hm : P.follows .mixedOrders = true) (hnp : cx.np ≤ 32) : ∀ (c : Code) (st : St) (K : Ex → St → Prop) (Q : Exit → Act → World → Prop) (a : Act) (w : World) (σ : Nat → Value),
    fineC n c = true → ev T G ks c st K → RepF cx σ (From st.fr) (sget st.s) (mem st.m) n a w →
    (∀ e st' a' w' σ', K e st' → RepF cx σ' (From st'.fr) (sget st'.s) (mem st'.m) n a' w' → Q e.to a' w') → c.wp P Q a w
  | .skip, st, K, Q, a, w, σ, _, hev, h, hK => wp_skip (hK .normal st a w σ hev h)
  | .ret, st, K, Q, a, w, σ, _, hev, h, hK => wp_ret (hK .ret st a w σ hev h)
  | .exit id, st, K, Q, a, w, σ, _, hev, h, hK => wp_exit (hK (.exit id) st a w σ hev h)
  | .region _ ops false, st, K, Q, a, w, σ, hf, hev, h, hK =>
    region_sound ht hG (fun o ho => List.all_eq_true.1 (by simpa [fineC] using hf) o ho) (fun s m a' w' σ' hk h' => hK .normal ⟨Ev.keepL ks s, m, st.fr + 32 * ops.size⟩ a' w' σ' hk h'.keepL) hev h
  | .region _ ops true, st, K, Q, a, w, σ, hf, hev, h, hK =>
    draw_sound (K := fun s m _ => K .normal ⟨Ev.keepL ks s, m, st.fr + 32 * ops.size⟩) ht hG hm (fun o ho => List.all_eq_true.1 (by simpa [fineC] using hf) o ho) (fun s m a' w' σ' tb hk h' => hK .normal ⟨Ev.keepL ks s, m, st.fr + 32 * ops.size⟩ a' w' σ' hk h'.keepL) hev h
  | .seq x y, st, K, Q, a, w, σ, hf, hev, h, hK => by
    simp only [fineC, Bool.and_eq_true] at hf
    refine wp_seq (ev_sound ht hG hm hnp x st _ _ a w σ hf.1 hev h (fun e st' a' w' σ' hk h' => ?_))
    cases e with
    | normal => exact ev_sound ht hG hm hnp y st' K Q a' w' σ' hf.2 hk h' hK
    | ret => exact hK .ret st' a' w' σ' hk h'
    | exit id => exact hK (.exit id) st' a' w' σ' hk h'
  | .cond c x y, st, K, Q, a, w, σ, hf, hev, h, hK => by
    simp only [fineC, Bool.and_eq_true] at hf
    have hc := opd_rep h hf.1.1
    simp only [ev] at hev
    split at hev
    · rename_i e he
      rw [he] at hc
      exact wp_cond_split (of_bool hc) (fun ht' => ev_sound ht hG hm hnp x st K Q a w σ hf.1.2 (hev.1 ht') h hK) (fun hf' => ev_sound ht hG hm hnp y st K Q a w σ hf.2 (hev.2 hf') h hK)
    · exact hev.elim
  | .block id b, st, K, Q, a, w, σ, hf, hev, h, hK => by
    simp only [fineC] at hf
    refine wp_block (ev_sound ht hG hm hnp b st _ _ a w σ hf hev h (fun e st' a' w' σ' hk h' => ?_))
    cases e with
    | normal => exact hK .normal st' a' w' σ' hk h'
    | ret => exact hK .ret st' a' w' σ' hk h'
    | exit j =>
      simp only at hk
      simp only [Ex.to, Exit.inBlock]
      split at hk
      · rename_i e; rw [if_pos e]; exact hK .normal st' a' w' σ' hk h'
      · rename_i e; rw [if_neg e]; exact hK (.exit j) st' a' w' σ' hk h'
  | .loop b, st, K, Q, a, w, σ, hf, hev, h, hK => by
    simp only [fineC] at hf
    obtain ⟨l, ⟨x, hx⟩, hround⟩ := hev
    obtain ⟨σ0, h0⟩ := h.ent hnp hx
    have key : ∀ (k : Nat) (x : l.X) (a : Act) (w : World) (σ : Nat → Value), l.mu x = k → RepF cx σ (From l.fr) (sget (l.s x)) (mem (l.m x)) n a w → Code.rounds P b Q (k + 1) a w := by
      intro k
      induction k using Nat.strongRecOn with
      | _ k ih =>
        intro x a w σ hx h
        refine ev_sound ht hG hm hnp b ⟨l.s x, l.m x, l.fr⟩ _ _ a w σ hf (hround x) h (fun e st' a' w' σ' hk h' => ?_)
        cases e with
        | normal =>
          obtain ⟨y, hy, hlt⟩ := hk
          obtain ⟨σ2, h2⟩ := h'.ent hnp hy
          have := ih (l.mu y) (by omega) y a' w' σ2 rfl h2
          simp only [Ex.to, Exit.then]
          exact rounds_mono (by omega) this
        | ret => exact hK .ret st' a' w' σ' hk h'
        | exit j => exact hK (.exit j) st' a' w' σ' hk h'
    exact wp_loop_rounds _ (key (l.mu x) x a w σ0 rfl h0)
  | .goto _, _, _, _, _, _, _, _, hev, _, _ => hev.elim
  | .label _, _, _, _, _, _, _, _, hev, _, _ => hev.elim
  | .refuse _, _, _, _, _, _, _, _, hev, _, _ => hev.elim
  | .scope _, _, _, _, _, _, _, _, hev, _, _ => hev.elim
  | .rangeFunc .., _, _, _, _, _, _, _, hev, _, _ => hev.elim

end
end Go.Ev

/- The walk, in the form in which it is reckoned: a stack of what is left; each effect is reckoned before it is used. -/
set_option linter.unusedSimpArgs false
set_option linter.unusedVariables false
namespace Go.Ev

/-- What a walk is about. -/
structure Wk where
  T : Tab
  G : Env
  ks : Nat
  K : Ex → St → Prop

inductive Itm where
  | seq (c : Code) | blk (id : Nat) | lp (l : LSpec) (x : l.X)

def kont (X : Wk) : List Itm → Ex → St → Prop
  | [], e, st => X.K e st
  | .seq c :: r, .normal, st => ev X.T X.G X.ks c st (kont X r)
  | .seq _ :: r, e, st => kont X r e st
  | .blk id :: r, .exit j, st => if j = id then kont X r .normal st else kont X r (.exit j) st
  | .blk _ :: r, e, st => kont X r e st
  | .lp l x :: _, .normal, st => ∃ y, ent st.s (mem st.m) l.fr (l.s y) (l.m y) ∧ l.mu y < l.mu x
  | .lp _ _ :: r, e, st => kont X r e st

def evk (X : Wk) (c : Code) (s : Slots) (m : Heap) (fr : Nat) (k : List Itm) : Prop := ev X.T X.G X.ks c ⟨s, m, fr⟩ (kont X k)
def fin (X : Wk) (e : Ex) (s : Slots) (m : Heap) (fr : Nat) (k : List Itm) : Prop := kont X k e ⟨s, m, fr⟩
def evO (X : Wk) (all os : List Oper) (s : Slots) (m : Heap) (fr : Nat) (k : List Itm) : Prop :=
  evOps X.T X.G all fr 0 os s m (fun s m => fin X .normal (keepL X.ks s) m (fr + 32 * os.length) k)
def stX (X : Wk) (all os : List Oper) (o : Oper) (s : Slots) (m : Heap) (fr : Nat) (k : List Itm) : Option Chc → Prop
  | some C => C.pre ∧ ∀ a, C.asm a → evO X all os (putS s o.dst (C.r a)) (setMany m (C.u a)) (fr + 32) k
  | none => let E := stepE X.T X.G all o (sget s) (mem m) fr
    E.pre ∧ (E.asm → evO X all os (putS s o.dst E.r) (setMany m E.u) (fr + 32) k)
def stE (X : Wk) (all os : List Oper) (dst : Option Nat) (s : Slots) (m : Heap) (fr : Nat) (k : List Itm) (E : Eff) : Prop :=
  E.pre ∧ (E.asm → evO X all os (putS s dst E.r) (setMany m E.u) (fr + 32) k)
def evR (X : Wk) (all os : List Oper) (s : Slots) (m : Heap) (fr : Nat) (i : Nat) (acc : List (List Nat × List Nat)) (k : List Itm) : Prop :=
  evD X.T X.G all fr 0 os s m acc (fun s m tb => drawOk all tb = true ∧ fin X .normal (keepL X.ks s) m (fr + 32 * os.length) k)
def stR (X : Wk) (all os : List Oper) (dst : Option Nat) (s : Slots) (m : Heap) (fr : Nat) (i : Nat) (acc : List (List Nat × List Nat)) (k : List Itm) (F : List Nat) (E : Eff) : Prop :=
  E.pre ∧ keysOk F fr E.u = true ∧ (E.asm → evR X all os (putS s dst E.r) (setMany m E.u) (fr + 32) (i + 1) (acc ++ [(F, E.u.map (·.1))]) k)
def cnd (X : Wk) (a b : Code) (s : Slots) (m : Heap) (fr : Nat) (k : List Itm) : AV → Prop
  | .one (.bool e) => (e = true → evk X a s m fr k) ∧ (e = false → evk X b s m fr k)
  | _ => False

section
variable {X : Wk} {s : Slots} {m : Heap} {fr : Nat} {k : List Itm}

theorem evk_skip : evk X .skip s m fr k = fin X .normal s m fr k := rfl
theorem evk_ret : evk X .ret s m fr k = fin X .ret s m fr k := rfl
theorem evk_exit {id : Nat} : evk X (.exit id) s m fr k = fin X (.exit id) s m fr k := rfl
theorem evk_seq {a b : Code} : evk X (.seq a b) s m fr k = evk X a s m fr (.seq b :: k) := by
  unfold evk
  show ev _ _ _ a _ _ = ev _ _ _ a _ _
  congr 1
  funext e st
  cases e <;> rfl
theorem evk_block {id : Nat} {b : Code} : evk X (.block id b) s m fr k = evk X b s m fr (.blk id :: k) := by
  unfold evk
  show ev _ _ _ b _ _ = ev _ _ _ b _ _
  congr 1
  funext e st
  cases e <;> rfl
theorem evk_cond {c : Operand} {a b : Code} : evk X (.cond c a b) s m fr k = cnd X a b s m fr k (opd (sget s) c) := by
  unfold evk
  simp only [ev]
  generalize opd (sget s) c = v
  cases v with
  | one c => cases c <;> rfl
  | _ => rfl
theorem evk_region {id : Nat} {ops : Array Oper} : evk X (.region id ops false) s m fr k = evO X ops.toList ops.toList s m fr k := by
  unfold evk evO fin; simp only [ev, Array.length_toList]
theorem evk_draw {id : Nat} {ops : Array Oper} : evk X (.region id ops true) s m fr k = evR X ops.toList ops.toList s m fr 0 [] k := by
  unfold evk evR fin; simp only [ev, Array.length_toList]

theorem evOps_shift {T : Tab} {G : Env} {all : List Oper} {K : Slots → Heap → Prop} : ∀ (os : List Oper) (base i : Nat) (s : Slots) (m : Heap), evOps T G all base (i + 1) os s m K = evOps T G all (base + 32) i os s m K
  | [], _, _, _, _ => rfl
  | o :: os, base, i, s, m => by
    have e : base + 32 * (i + 1) = base + 32 + 32 * i := by omega
    simp only [evOps, e, evOps_shift os]
theorem evD_shift {T : Tab} {G : Env} {all : List Oper} {K : Slots → Heap → List (List Nat × List Nat) → Prop} : ∀ (os : List Oper) (base i : Nat) (s : Slots) (m : Heap) (acc : List (List Nat × List Nat)), evD T G all base (i + 1) os s m acc K = evD T G all (base + 32) i os s m acc K
  | [], _, _, _, _, _ => rfl
  | o :: os, base, i, s, m, acc => by
    have e : base + 32 * (i + 1) = base + 32 + 32 * i := by omega
    simp only [evD, e, evD_shift os]

theorem evO_nil {all : List Oper} : evO X all [] s m fr k = fin X .normal (keepL X.ks s) m fr k := rfl
theorem evO_cons {all os : List Oper} {o : Oper} : evO X all (o :: os) s m fr k = stX X all os o s m fr k (altO X.T X.G all o (sget s) (mem m) fr) := by
  unfold evO stX evO
  simp only [evOps, evOps_shift, List.length_cons, Nat.mul_zero, Nat.add_zero]
  rw [show fr + 32 * (os.length + 1) = fr + 32 + 32 * os.length by omega]
  cases altO X.T X.G all o (sget s) (mem m) fr <;> rfl
theorem stX_none {all os : List Oper} {o : Oper} : stX X all os o s m fr k none = stE X all os o.dst s m fr k (stepE X.T X.G all o (sget s) (mem m) fr) := rfl
theorem stX_some {all os : List Oper} {o : Oper} {C : Chc} : stX X all os o s m fr k (some C) = (C.pre ∧ ∀ a, C.asm a → evO X all os (putS s o.dst (C.r a)) (setMany m (C.u a)) (fr + 32) k) := rfl
theorem stE_mk {all os : List Oper} {dst : Option Nat} {p q : Prop} {r : AV} {u : Heap} : stE X all os dst s m fr k ⟨p, r, u, q⟩ = (p ∧ (q → evO X all os (putS s dst r) (setMany m u) (fr + 32) k)) := rfl
theorem evR_nil {all : List Oper} {i : Nat} {acc : List (List Nat × List Nat)} : evR X all [] s m fr i acc k = (drawOk all acc = true ∧ fin X .normal (keepL X.ks s) m fr k) := rfl
theorem evR_end {all : List Oper} {i : Nat} {acc : List (List Nat × List Nat)} (h : drawOk all acc = true) : evR X all [] s m fr i acc k = fin X .normal (keepL X.ks s) m fr k := by rw [evR_nil, h]; simp
theorem evR_cons {all os : List Oper} {o : Oper} {i : Nat} {acc : List (List Nat × List Nat)} : evR X all (o :: os) s m fr i acc k =
    stR X all os o.dst s m fr i acc k (touch o.op ((opsOf o.op).map (opd (sget s))) (mem m)) (stepE X.T X.G all o (sget s) (restr (touch o.op ((opsOf o.op).map (opd (sget s))) (mem m)) (mem m)) fr) := by
  unfold evR stR evR
  simp only [evD, evD_shift, List.length_cons, Nat.mul_zero, Nat.add_zero]
  rw [show fr + 32 * (os.length + 1) = fr + 32 + 32 * os.length by omega]
theorem stR_mk {all os : List Oper} {dst : Option Nat} {p q : Prop} {r : AV} {u : Heap} {i : Nat} {acc : List (List Nat × List Nat)} {F : List Nat} : stR X all os dst s m fr i acc k F ⟨p, r, u, q⟩ = (p ∧ keysOk F fr u = true ∧ (q → evR X all os (putS s dst r) (setMany m u) (fr + 32) (i + 1) (acc ++ [(F, u.map (·.1))]) k)) := rfl

theorem cnd_bool {a b : Code} {e : Bool} : cnd X a b s m fr k (.one (.bool e)) = ((e = true → evk X a s m fr k) ∧ (e = false → evk X b s m fr k)) := rfl
theorem fin_seq {c : Code} : fin X .normal s m fr (.seq c :: k) = evk X c s m fr k := rfl
theorem fin_seq_ret {c : Code} : fin X .ret s m fr (.seq c :: k) = fin X .ret s m fr k := rfl
theorem fin_seq_exit {c : Code} {id : Nat} : fin X (.exit id) s m fr (.seq c :: k) = fin X (.exit id) s m fr k := rfl
theorem fin_blk {id : Nat} : fin X .normal s m fr (.blk id :: k) = fin X .normal s m fr k := rfl
theorem fin_blk_ret {id : Nat} : fin X .ret s m fr (.blk id :: k) = fin X .ret s m fr k := rfl
theorem fin_blk_exit {id j : Nat} : fin X (.exit j) s m fr (.blk id :: k) = if j = id then fin X .normal s m fr k else fin X (.exit j) s m fr k := rfl
theorem fin_lp_ret {l : LSpec} {x : l.X} : fin X .ret s m fr (.lp l x :: k) = fin X .ret s m fr k := rfl
theorem fin_lp_exit {l : LSpec} {x : l.X} {id : Nat} : fin X (.exit id) s m fr (.lp l x :: k) = fin X (.exit id) s m fr k := rfl
theorem fin_nil {e : Ex} : fin X e s m fr [] = X.K e ⟨s, m, fr⟩ := rfl

/-- A loop: its states, a measure; what a round does. -/
theorem evk_loop {b : Code} (l : LSpec) (x : l.X) (h0 : ent s (mem m) l.fr (l.s x) (l.m x)) (h : ∀ x, evk X b (l.s x) (l.m x) l.fr (.lp l x :: k)) : evk X (.loop b) s m fr k := by
  refine ⟨l, ⟨x, h0⟩, fun x => ?_⟩
  have := h x
  unfold evk at this
  have e : (fun (e : Ex) (st' : St) => match e with
      | .normal => ∃ y, ent st'.s (mem st'.m) l.fr (l.s y) (l.m y) ∧ l.mu y < l.mu x
      | .ret => kont X k .ret st'
      | .exit j => kont X k (.exit j) st') = kont X (.lp l x :: k) := by
    funext e st
    cases e <;> rfl
  rw [← e] at this
  exact this
theorem fin_lp {l : LSpec} {x : l.X} (y : l.X) (h : ent s (mem m) l.fr (l.s y) (l.m y)) (hm : l.mu y < l.mu x) : fin X .normal s m fr (.lp l x :: k) := ⟨y, h, hm⟩

end
end Go.Ev

/- Functions: what a call reads and gives, as plain data; a body's walk gives a contract. -/
set_option linter.unusedSimpArgs false
set_option linter.unusedVariables false
namespace Go.Ev

/-- What a closure holds: a variable's box; a box with a plain function. -/
inductive CapK where
  | p (e : TypeId) (t : Ty) | fb (e : TypeId) (g : FuncId)
/-- What a parameter is: data; a pointer to a struct; a map; a slice that is written in place; one that is given away; a function with what it holds. -/
inductive PK where
  | d (ag : Bool) (t : Ty) | p (e : TypeId) (t : Ty) | mp (kt vt : Ty) (ka va : Bool) | o (e : TypeId) (t : Ty) | oc (e : TypeId) (t : Ty) | cl (g : FuncId) (ks : List CapK)
/-- What a result is: data; a new slice; a pointer to a new struct; a new map. -/
inductive RK where
  | d (ag : Bool) (t : Ty) | o (e : TypeId) (t : Ty) | p (e : TypeId) (t : Ty) | mp (kt vt : Ty) (ka va : Bool)

@[reducible] def CapK.den : CapK → Type
  | .p _ t => t.den
  | .fb _ _ => Unit
@[reducible] def cdens : List CapK → Type
  | [] => Unit
  | k :: ks => k.den × cdens ks
@[reducible] def PK.den : PK → Type
  | .d _ t => t.den
  | .p _ t => t.den
  | .mp kt vt _ _ => List (kt.den × vt.den)
  | .o _ t => List t.den
  | .oc _ t => List t.den
  | .cl _ ks => cdens ks
@[reducible] def RK.den : RK → Type
  | .d _ t => t.den
  | .o _ t => List t.den
  | .p _ t => t.den
  | .mp kt vt _ _ => List (kt.den × vt.den)
@[reducible] def dens : List PK → Type
  | [] => Unit
  | k :: ks => k.den × dens ks
@[reducible] def rdens : List RK → Type
  | [] => Unit
  | k :: ks => k.den × rdens ks

def castMap (kt' vt' kt vt : Ty) (l : List (kt'.den × vt'.den)) : Option (List (kt.den × vt.den)) :=
  if h : kt' = kt ∧ vt' = vt then some (h.1 ▸ h.2 ▸ l) else none

def rdBlk (t : Ty) (e : TypeId) (m : Mem) : Blk → Option t.den
  | .cells e' cs => if e' = e then impl m t cs else none
  | _ => none
def rdMap (kt vt : Ty) (ka va : Bool) : Blk → Option (List (kt.den × vt.den))
  | .mapb kt' vt' ka' va' l => if ka' = ka ∧ va' = va then castMap kt' vt' kt vt l else none
  | _ => none

def rdRow (t : Ty) (e : TypeId) : Blk → Option (List t.den)
  | .row e' u xs => if e' = e then castTy u t xs else none
  | _ => none
def rdFb (e : TypeId) (g : FuncId) : Blk → Option Unit
  | .cells e' [.fn g' []] => if e' = e ∧ g' = g then some () else none
  | _ => none
def rdCap (m : Mem) : (k : CapK) → C1 → Option k.den
  | .p e t, .loc id 0 => rdBlk t e m (m id)
  | .fb e g, .loc id 0 => rdFb e g (m id)
  | _, _ => none
def rdCaps (m : Mem) : (ks : List CapK) → List C1 → Option (cdens ks)
  | [], [] => some ()
  | k :: ks, c :: cs => implP (rdCap m k c) (rdCaps m ks cs)
  | _, _ => none

/-- An argument, read. -/
def rd (m : Mem) : (k : PK) → AV → Option k.den
  | .d false t, .one c => impl m t [c]
  | .d true t, .agg cs => impl m t cs
  | .p e t, .one (.loc id 0) => rdBlk t e m (m id)
  | .mp kt vt ka va, .one (.map id) => rdMap kt vt ka va (m id)
  | .o e t, .one (.row id) => rdRow t e (m id)
  | .oc e t, .one (.row id) => rdRow t e (m id)
  | .cl g ks, .one (.fn g' caps) => if g' = g then rdCaps m ks caps else none
  | _, _ => none
def rds (m : Mem) : (ks : List PK) → List AV → Option (dens ks)
  | [], [] => some ()
  | k :: ks, v :: vs => implP (rd m k v) (rds m ks vs)
  | _, _ => none

/-- The ids of what is pointed to. -/
def capIds : List C1 → List Nat
  | [] => []
  | .loc id _ :: cs => id :: capIds cs
  | _ :: cs => capIds cs
def pid : PK → AV → List Nat
  | .p _ _, .one (.loc id _) => [id]
  | .mp _ _ _ _, .one (.map id) => [id]
  | .o _ _, .one (.row id) => [id]
  | .oc _ _, .one (.row id) => [id]
  | .cl _ _, .one (.fn _ caps) => capIds caps
  | _, _ => []
def pids : List PK → List AV → List Nat
  | k :: ks, v :: vs => pid k v ++ pids ks vs
  | _, _ => []
/-- The rows that are seen as data. -/
def blkRows : Blk → List Nat
  | .cells _ cs => rowsOf cs
  | _ => []
def capRows (m : Mem) : List C1 → List Nat
  | [] => []
  | .loc id _ :: cs => blkRows (m id) ++ capRows m cs
  | _ :: cs => capRows m cs
def rw1 (m : Mem) : PK → AV → List Nat
  | .d _ _, v => rowsOf v.cells
  | .p _ _, .one (.loc id _) => blkRows (m id)
  | .cl _ _, .one (.fn _ caps) => capRows m caps
  | _, _ => []
def rws (m : Mem) : List PK → List AV → List Nat
  | k :: ks, v :: vs => rw1 m k v ++ rws m ks vs
  | _, _ => []
/-- Nothing is met twice. -/
def okIds (a b : List Nat) : Prop := a.Nodup ∧ (a.all fun i => !b.contains i) = true
instance (a b : List Nat) : Decidable (okIds a b) := by unfold okIds; infer_instance

/-- The callee's ids for what is pointed to. -/
def capCids : Nat → List CapK → List Nat
  | _, [] => []
  | i, _ :: ks => i :: capCids (i + 1) ks
def pcid (i : Nat) : PK → List Nat
  | .d _ _ => []
  | .p _ _ | .mp _ _ _ _ | .o _ _ | .oc _ _ => [i]
  | .cl _ ks => capCids (8 + 4 * i) ks
def pcids : Nat → List PK → List Nat
  | _, [] => []
  | i, k :: ks => pcid i k ++ pcids (i + 1) ks
def pcOk (ps : List PK) : Bool := decide (pcids 0 ps).Nodup && (pcids 0 ps).all (fun i => decide (i < 32))

/-- The parameter, in the callee's eyes. -/
def capAvs : Nat → List CapK → List C1
  | _, [] => []
  | i, _ :: ks => .loc i 0 :: capAvs (i + 1) ks
def pav (i : Nat) : (k : PK) → k.den → AV
  | .d ag t, y => avOf ag (expl t y)
  | .p _ _, _ => .one (.loc i 0)
  | .mp _ _ _ _, _ => .one (.map i)
  | .o _ _, _ => .one (.row i)
  | .oc _ _, _ => .one (.row i)
  | .cl g ks, _ => .one (.fn g (capAvs (8 + 4 * i) ks))
def capBlk : (k : CapK) → k.den → Blk
  | .p e t, y => .cells e (expl t y)
  | .fb e g, _ => .cells e [.fn g []]
def capBlks : (ks : List CapK) → cdens ks → List Blk
  | [], _ => []
  | k :: ks, x => capBlk k x.1 :: capBlks ks x.2
/-- The blocks, as they come in and as they are left. -/
def pbl : (k : PK) → k.den → List Blk
  | .d _ _, _ => []
  | .p e t, y => [.cells e (expl t y)]
  | .mp kt vt ka va, l => [.mapb kt vt ka va l]
  | .o e t, xs => [.row e t xs]
  | .oc e t, xs => [.row e t xs]
  | .cl _ ks, x => capBlks ks x
def nbl : (k : PK) → k.den → List Blk
  | .oc _ _, _ => [.dead]
  | k, y => pbl k y
def pslots : Nat → (ks : List PK) → dens ks → Slots
  | _, [], _ => []
  | i, k :: ks, x => (i, pav i k x.1) :: pslots (i + 1) ks x.2
def pheapB (B : (k : PK) → k.den → List Blk) : Nat → (ks : List PK) → dens ks → Heap
  | _, [], _ => []
  | i, k :: ks, x => (pcid i k).zip (B k x.1) ++ pheapB B (i + 1) ks x.2
def pheap : Nat → (ks : List PK) → dens ks → Heap := pheapB pbl
def nheap : Nat → (ks : List PK) → dens ks → Heap := pheapB nbl
/-- The caller's blocks, as they are behind the call. -/
def pupd : (ks : List PK) → List AV → dens ks → Heap
  | [], _, _ => []
  | _ :: _, [], _ => []
  | k :: ks, v :: vs, x => (pid k v).zip (nbl k x.1) ++ pupd ks vs x.2

/-- A result; its block. -/
def rav (j : Nat) : (k : RK) → k.den → AV
  | .d ag t, y => avOf ag (expl t y)
  | .o _ _, _ => .one (.row j)
  | .p _ _, _ => .one (.loc j 0)
  | .mp _ _ _ _, _ => .one (.map j)
def rblk : (k : RK) → k.den → Option Blk
  | .d _ _, _ => none
  | .o e t, xs => some (.row e t xs)
  | .p e t, y => some (.cells e (expl t y))
  | .mp kt vt ka va, l => some (.mapb kt vt ka va l)
def ravs : Nat → (ks : List RK) → rdens ks → List AV
  | _, [], _ => []
  | j, k :: ks, x => rav j k x.1 :: ravs (j + 1) ks x.2
def rslots : Nat → Nat → (ks : List RK) → rdens ks → Slots
  | _, _, [], _ => []
  | i, j, k :: ks, x => (i, rav j k x.1) :: rslots (i + 1) (j + 1) ks x.2
def rheap : Nat → (ks : List RK) → rdens ks → Heap
  | _, [], _ => []
  | j, k :: ks, x => match rblk k x.1 with | some b => (j, b) :: rheap (j + 1) ks x.2 | none => rheap (j + 1) ks x.2
def rwf1 : (k : RK) → k.den → Prop
  | .d _ t, y => Wf t y
  | .o _ t, xs => Wf (.sl t) xs
  | .p _ t, y => Wf t y
  | .mp _ _ _ _, _ => True
def rwf : (ks : List RK) → rdens ks → Prop
  | [], _ => True
  | k :: ks, x => rwf1 k x.1 ∧ rwf ks x.2
def cwf : (ks : List CapK) → cdens ks → Prop
  | [], _ => True
  | .p _ t :: ks, x => Wf t x.1 ∧ cwf ks x.2
  | .fb _ _ :: ks, x => cwf ks x.2
def pwf1 : (k : PK) → k.den → Prop
  | .d _ t, y => Wf t y
  | .p _ t, y => Wf t y
  | .o _ t, y => Wf (.sl t) y
  | .oc _ t, y => Wf (.sl t) y
  | .cl _ ks, x => cwf ks x
  | _, _ => True
def pwf : (ks : List PK) → dens ks → Prop
  | [], _ => True
  | k :: ks, x => pwf1 k x.1 ∧ pwf ks x.2

/-- No memory behind it. -/
def flat : Ty → Bool
  | .sl _ => false
  | .pair a b => flat a && flat b
  | _ => true
def rflat : RK → Bool
  | .d _ t | .o _ t | .p _ t => flat t
  | .mp kt vt _ _ => flat kt && flat vt
def cflat : CapK → Bool
  | .p _ t => flat t
  | _ => true
def pflat : PK → Bool
  | .p _ t | .o _ t => flat t
  | .mp kt vt _ _ => flat kt && flat vt
  | .cl _ ks => ks.all cflat
  | _ => true

def pack : List AV → AV
  | [v] => v
  | vs => .tup vs

/-- A contract on plain data: what is asked; what may come out: the results, the parameters' new contents. -/
structure RCon where
  ps : List PK
  rs : List RK
  pre : dens ps → Prop
  rel : dens ps → rdens rs → dens ps → Prop
structure Con where
  ps : List PK
  rs : List RK
  pre : dens ps → Prop
  out : dens ps → rdens rs
  nw : dens ps → dens ps

/-- What a call writes. -/
def updC (ps : List PK) (rs : List RK) (avs : List AV) (m : Mem) (fr : Nat) (y : rdens rs) (z : dens ps) : Heap :=
  (if rs.all rflat && ps.all pflat then [] else (rws m ps avs).map (settle m)) ++ (pupd ps avs z ++ rheap fr rs y)

def Con.eff (C : Con) (avs : List AV) (m : Mem) (fr : Nat) (x : dens C.ps) : Eff :=
  ⟨C.pre x, pack (ravs fr C.rs (C.out x)), updC C.ps C.rs avs m fr (C.out x) (C.nw x), rwf C.rs (C.out x)⟩

def Con.effO (C : Con) (avs : List AV) (m : Mem) (fr : Nat) : Option (dens C.ps) → Eff
  | some x => if okIds (pids C.ps avs) (rws m C.ps avs) then C.eff avs m fr x else bad
  | none => bad

def Con.ctr (C : Con) : Ctr := fun avs m fr => C.effO avs m fr (rds m C.ps avs)

def Chc.bad : Chc := ⟨Unit, False, fun _ => .one .undef, fun _ => [], fun _ => True⟩
def RCon.chc (C : RCon) (avs : List AV) (m : Mem) (fr : Nat) (x : dens C.ps) : Chc :=
  ⟨rdens C.rs × dens C.ps, C.pre x, fun a => pack (ravs fr C.rs a.1), fun a => updC C.ps C.rs avs m fr a.1 a.2, fun a => C.rel x a.1 a.2 ∧ rwf C.rs a.1⟩
def RCon.chcO (C : RCon) (avs : List AV) (m : Mem) (fr : Nat) : Option (dens C.ps) → Chc
  | some x => if okIds (pids C.ps avs) (rws m C.ps avs) then C.chc avs m fr x else Chc.bad
  | none => Chc.bad
def RCon.rctr (C : RCon) : RCtr := fun avs m fr => C.chcO avs m fr (rds m C.ps avs)

def rvL (m : Mem) (ti : TI) : AV → Eff
  | .one (.loc id off) => loadE m ti (.loc id off)
  | _ => bad
def rvE (T : Tab) (s : Slots) (m : Mem) : ResultVar → Eff
  | .tmp t => okr (sget s t)
  | .cell a t => rvL m (TI.of T t) (sget s a)
def rvP (T : Tab) (s : Slots) (m : Mem) : List ResultVar → Prop
  | [] => True
  | r :: rs => (rvE T s m r).pre ∧ rvP T s m rs
def rvS (T : Tab) (s : Slots) (m : Mem) : Nat → List ResultVar → Slots
  | _, [] => []
  | i, r :: rs => (i, (rvE T s m r).r) :: rvS T s m (i + 1) rs

/-- What is asked at a body's end. -/
def entR (ps : List PK) (rs : List RK) (T : Tab) (rv : List ResultVar) (st : St) (y : rdens rs) (z : dens ps) : Prop :=
  ent (rvS T st.s (mem st.m) 0 rv) (mem st.m) 64 (rslots 0 32 rs y) (nheap 0 ps z ++ rheap 32 rs y)
def postR (ps : List PK) (rs : List RK) (T : Tab) (rv : List ResultVar) (Φ : rdens rs → dens ps → Prop) : Ex → St → Prop := fun e st =>
  match e with
  | .exit _ => False
  | _ => rvP T st.s (mem st.m) rv ∧ ∃ y z, Φ y z ∧ entR ps rs T rv st y z
def Con.post (C : Con) (T : Tab) (rv : List ResultVar) (x : dens C.ps) : Ex → St → Prop := fun e st =>
  match e with
  | .exit _ => False
  | _ => rvP T st.s (mem st.m) rv ∧ entR C.ps C.rs T rv st (C.out x) (C.nw x)
def RCon.post (C : RCon) (T : Tab) (rv : List ResultVar) (x : dens C.ps) : Ex → St → Prop := postR C.ps C.rs T rv (C.rel x)

end Go.Ev
