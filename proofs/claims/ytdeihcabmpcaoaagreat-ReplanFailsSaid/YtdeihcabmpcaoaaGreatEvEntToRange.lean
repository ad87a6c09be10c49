/- One state serves as another: at a loop's head, at a call. -/
import Derived.Test.YtdeihcabmpcaoaaGreatEvDraw
set_option linter.unusedSimpArgs false
set_option linter.unusedVariables false
namespace Go.Ev

structure Mt.Le (t t' : Mt) : Prop where
 ok : t'.ok → t.ok
 mp : t'.ok → ∀ pn i id, mpGet pn t.mp i = some id → mpGet pn t'.mp i = some id
 vw : t'.ok → ∀ i ∈ t.vw, i ∈ t'.vw

theorem Mt.Le.refl (t : Mt) : t.Le t := ⟨id, fun _ _ _ _ h => h, fun _ _ h => h⟩
theorem Mt.Le.trans {a b c : Mt} (h : a.Le b) (k : b.Le c) : a.Le c :=
 ⟨fun hc => h.ok (k.ok hc), fun hc pn i id hi => k.mp hc pn i id (h.mp (k.ok hc) pn i id hi), fun hc i hi => k.vw hc i (h.vw (k.ok hc) i hi)⟩
theorem Mt.le_no (t : Mt) : t.Le Mt.no := ⟨False.elim, fun h => h.elim, fun h => h.elim⟩
theorem Mt.le_and (t : Mt) {p : Prop} : t.Le ⟨p ∧ t.ok, t.mp, t.vw⟩ := ⟨fun h => h.2, fun _ _ _ _ h => h, fun _ _ h => h⟩

theorem findL_append {α : Type} : ∀ (l r : List (Nat × α)) (i : Nat), findL (l ++ r) i = (findL l i).or (findL r i)
 | [], r, i => by simp [findL]
 | (k, v) :: l, r, i => by
   simp only [List.cons_append, findL]
   split
   · rfl
   · exact findL_append l r i

theorem findL_mem {α : Type} : ∀ {l : List (Nat × α)} {i : Nat} {v : α}, findL l i = some v → (i, v) ∈ l
 | (k, x) :: l, i, v, h => by
   simp only [findL] at h
   split at h
   · rename_i e; cases h; rw [e]; exact List.mem_cons_self
   · exact List.mem_cons_of_mem _ (findL_mem h)

theorem bind_le (pn fr' id id' : Nat) (t : Mt) : t.Le (bindId pn fr' id id' t) := by
 unfold bindId
 split
 · split
   · exact .refl t
   · exact t.le_no
 · rename_i hn
   split
   · refine ⟨fun h => h, fun _ q i j h => ?_, fun _ _ h => h⟩
     unfold mpGet at *
     split at h
     · rename_i hlt; rw [if_pos hlt]; exact h
     · rename_i hlt; rw [if_neg hlt, findL_append, h]; rfl
   · exact t.le_no

theorem bind_spec {pn fr' id id' : Nat} {t : Mt} (h : (bindId pn fr' id id' t).ok) : mpGet pn (bindId pn fr' id id' t).mp id' = some id := by
 unfold bindId at *
 split at h
 · rename_i j hj
   split at h
   · rename_i e; simp only [hj, e, if_true]
   · exact h.elim
 · rename_i hn
   split at h
   · rename_i hc
     rw [if_pos hc]
     unfold mpGet at hn ⊢
     split at hn
     · cases hn
     · rename_i hlt
       rw [if_neg hlt]
       simp only [findL_append, hn, Option.none_or, findL, if_true]
   · exact h.elim

/-- One to one. -/
def Mt.J (pn fr' : Nat) (t : Mt) : Prop := t.ok → (t.mp.map (·.2)).Nodup ∧ ∀ p ∈ t.mp, p.1 < fr' ∧ pn ≤ p.2

theorem bind_J {pn fr' id id' : Nat} {t : Mt} (h : t.J pn fr') : (bindId pn fr' id id' t).J pn fr' := by
 unfold bindId
 split
 · split
   · exact h
   · exact fun hh => hh.elim
 · split
   · rename_i hc
     intro hok
     obtain ⟨h1, h2⟩ := h hok
     refine ⟨?_, fun p hp => ?_⟩
     · rw [List.map_append, List.nodup_append]
       refine ⟨h1, by simp, fun a ha b hb e => ?_⟩
       simp only [List.map_cons, List.map_nil, List.mem_singleton] at hb
       subst hb; subst e
       have := hc.2.2
       rw [List.contains_iff_mem.2 ha] at this; cases this
     · rcases List.mem_append.1 hp with hp | hp
       · exact h2 p hp
       · rw [List.mem_singleton.1 hp]; exact ⟨hc.2.1, hc.1⟩
   · exact fun hh => hh.elim

theorem and_J {pn fr' : Nat} {t : Mt} {p : Prop} {vw : List Nat} (h : t.J pn fr') : (Mt.mk (p ∧ t.ok) t.mp vw).J pn fr' := fun hk => h hk.2
theorem no_J {pn fr' : Nat} : Mt.no.J pn fr' := fun h => h.elim

section
variable {m : Mem} {pn fr' : Nat}

mutual
theorem matchC_le : ∀ (c d : C1) (t : Mt), t.Le (matchC pn m fr' c d t) := by
 intro c d t
 unfold matchC
 split <;> first
  | exact .refl t
  | exact t.le_no
  | exact bind_le ..
  | exact t.le_and
  | (split <;> first | exact .refl t | exact t.le_and | exact bind_le .. | exact (t.le_and).trans (bind_le ..) | exact matchCs_le .. | exact t.le_no)
  | exact ⟨fun h => h.2.2, fun _ _ _ _ h => h, fun _ _ h => h⟩
  | exact ⟨fun h => h.2.2, fun _ _ _ _ h => h, fun _ _ h => List.mem_cons_of_mem _ h⟩
  | exact matchCs_le ..
theorem matchCs_le : ∀ (cs ds : List C1) (t : Mt), t.Le (matchCs pn m fr' cs ds t) := by
 intro cs ds t
 unfold matchCs
 split
 · exact .refl t
 · exact (matchC_le ..).trans (matchCs_le ..)
 · exact t.le_no
end

mutual
theorem matchC_J : ∀ (c d : C1) (t : Mt), t.J pn fr' → (matchC pn m fr' c d t).J pn fr' := by
 intro c d t h
 unfold matchC
 split <;> first
  | exact h
  | exact no_J
  | exact bind_J h
  | exact and_J h
  | (split <;> first | exact h | exact and_J h | exact bind_J h | exact bind_J (and_J h) | exact matchCs_J _ _ _ h | exact no_J)
  | exact fun hk => h hk.2.2
  | exact matchCs_J _ _ _ h
theorem matchCs_J : ∀ (cs ds : List C1) (t : Mt), t.J pn fr' → (matchCs pn m fr' cs ds t).J pn fr' := by
 intro cs ds t h
 unfold matchCs
 split
 · exact h
 · exact matchCs_J _ _ _ (matchC_J _ _ _ h)
 · exact no_J
end

theorem matchA_le (a b : AV) (t : Mt) : t.Le (matchA pn m fr' a b t) := by
 unfold matchA
 split
 · exact matchC_le ..
 · exact matchCs_le ..
 · exact .refl t
 · exact t.le_no
theorem matchA_J (a b : AV) (t : Mt) (h : t.J pn fr') : (matchA pn m fr' a b t).J pn fr' := by
 unfold matchA
 split
 · exact matchC_J _ _ _ h
 · exact matchCs_J _ _ _ h
 · exact h
 · exact no_J

theorem matchS_le (s : Slots) : ∀ (r : Slots) (t : Mt), t.Le (matchS pn m fr' s r t)
 | [], t => .refl t
 | (i, v) :: r, t => (matchA_le _ _ t).trans (matchS_le s r _)
theorem matchS_J (s : Slots) : ∀ (r : Slots) (t : Mt), t.J pn fr' → (matchS pn m fr' s r t).J pn fr'
 | [], t, h => h
 | (i, v) :: r, t, h => matchS_J s r _ (matchA_J _ _ t h)

theorem matchB_le (a b : Blk) (t : Mt) : t.Le (matchB pn m fr' a b t) := by
 unfold matchB
 split
 · exact .refl t
 · split
   · exact matchCs_le ..
   · exact t.le_no
 · split
   · exact t.le_and
   · exact t.le_no
 · split
   · exact t.le_and
   · exact t.le_no
 · split
   · exact (t.le_and).trans (bind_le ..)
   · exact t.le_no
 · split
   · exact (t.le_and).trans (bind_le ..)
   · exact t.le_no
 · split
   · exact t.le_and
   · exact t.le_no
 · exact matchCs_le ..
 · exact t.le_no
theorem matchB_J (a b : Blk) (t : Mt) (h : t.J pn fr') : (matchB pn m fr' a b t).J pn fr' := by
 unfold matchB
 split
 · exact h
 · split
   · exact matchCs_J _ _ _ h
   · exact no_J
 · split
   · exact and_J h
   · exact no_J
 · split
   · exact and_J h
   · exact no_J
 · split
   · exact bind_J (and_J h)
   · exact no_J
 · split
   · exact bind_J (and_J h)
   · exact no_J
 · split
   · exact and_J h
   · exact no_J
 · exact matchCs_J _ _ _ h
 · exact no_J

theorem matchM_le : ∀ (r : Heap) (t : Mt), t.Le (matchM pn m fr' r t)
 | [], t => .refl t
 | (i, b) :: r, t => by
   simp only [matchM]
   split
   · exact (matchB_le _ _ t).trans (matchM_le r _)
   · exact t.le_no
theorem matchM_J : ∀ (r : Heap) (t : Mt), t.J pn fr' → (matchM pn m fr' r t).J pn fr'
 | [], t, h => h
 | (i, b) :: r, t, h => by
   simp only [matchM]
   split
   · exact matchM_J r _ (matchB_J _ _ t h)
   · exact no_J

/-! ### what is said of the values -/

structure Tgt (pn : Nat) (x x' : Rx) (m : Mem) (tf : Mt) : Prop where
 w : x'.w = x.w
 O : ∀ b, x'.O b → x.O b
 σ : ∀ i id, mpGet pn tf.mp i = some id → x'.σ i = x.σ id ∧ ¬ x'.N i
 vw : ∀ id ∈ tf.vw, ∀ t xs, view m t (.row id) = some xs → ro x.w x.O (.sl t) xs [x.σ id]
 ok : tf.ok

variable {x x' : Rx} {tf : Mt}

theorem Tgt.keep (h : Tgt pn x x' m tf) : Keep x.w x'.w x.O x'.O := .ex fun b _ ho => ⟨fun k => ho (h.O b k), by rw [h.w]⟩

theorem castTy_some {t u : Ty} {xs : List t.den} {ys : List u.den} (h : castTy t u xs = some ys) : ∃ e : t = u, e ▸ xs = ys := by
 unfold castTy at h
 split at h
 · rename_i e; exact ⟨e, Option.some.inj h⟩
 · cases h

mutual
theorem matchC_rep (H : Tgt pn x x' m tf) : ∀ (c d : C1) (t : Mt) (v : Value), (matchC pn m fr' c d t).Le tf → repC x c v → repC x' d v := by
 intro c d t v hle hr
 have hok := hle.ok H.ok
 unfold matchC at hle hok
 split at hle <;> try simp only at hok
 · unfold repC; trivial
 · rename_i k a k' b
   split at hle
   · rename_i e
     rw [if_pos e] at hok
     unfold repC at hr ⊢
     rw [← e, ← hok.1]; exact hr
   · rename_i e; rw [if_neg e] at hok; exact hok.elim
 · unfold repC at hr ⊢; rw [← hok.1]; exact hr
 · unfold repC at hr ⊢; rw [← hok.1]; exact hr
 · unfold repC at hr ⊢; exact hr
 · unfold repC at hr ⊢; exact hr
 · unfold repC at hr ⊢; exact hr
 · rename_i u ys cp
   unfold repC at hr ⊢
   rw [hr, hok.1]
   exact ⟨⟨none, 0, 0, rfl, rfl, Nat.le_refl _, by simp [maxLen], .inl rfl⟩, fun _ => ⟨none, 0, rfl⟩⟩
 · rename_i u xs cp v' ys cp'
   obtain ⟨e, he⟩ := castTy_some hok.1
   subst e
   subst he
   unfold repC at hr ⊢
   exact ⟨ro_keep H.keep _ _ _ hr.1, fun hc => hr.2 (hok.2.1 hc)⟩
 · rename_i id v' ys cp'
   unfold repC at hr ⊢
   have := H.vw id (hle.vw H.ok id List.mem_cons_self) v' ys hok.1
   rw [hr.2]
   exact ⟨ro_keep H.keep _ _ _ this, fun hc => by rw [hok.2.1] at hc; cases hc⟩
 · rename_i id id'
   unfold repC at hr ⊢
   obtain ⟨e, hn⟩ := H.σ id' id (hle.mp H.ok pn id' id (bind_spec hok))
   exact ⟨hn, by rw [e]; exact hr.2⟩
 · rename_i id sz lo len v' ys cp'
   have hvw := H.vw id (hle.vw H.ok id List.mem_cons_self)
   have hro : ro x.w x.O (.sl v') ys [v] := by
    have hv := hok.1
    simp only [view] at hv
    split at hv
    · rename_i e' u xs hm
      split at hv
      · rename_i hc
        obtain ⟨e1, he1⟩ := castTy_some hv
        subst e1
        subst he1
        obtain ⟨rfl, hll⟩ := hc
        exact win_ro (hvw u xs (by simp [view, hm, castTy])) hr hll
      · cases hv
    · rename_i u xs hm
      split at hv
      · rename_i hc
        obtain ⟨e1, he1⟩ := castTy_some hv
        subst e1
        subst he1
        obtain ⟨rfl, hll⟩ := hc
        exact win_ro (hvw u xs (by simp [view, hm, castTy])) hr hll
      · cases hv
    · cases hv
   unfold repC
   exact ⟨ro_keep H.keep _ _ _ hro, fun hc => by rw [hok.2.1] at hc; cases hc⟩
 · rename_i id sz lo len id' sz' lo' len'
   split at hle
   · rename_i e
     rw [if_pos e] at hok
     obtain ⟨e', hn⟩ := H.σ id' id (hle.mp H.ok pn id' id (bind_spec hok))
     have hq := ((bind_le pn fr' id id' ⟨(lo = lo' ∧ len = len') ∧ t.ok, t.mp, t.vw⟩).ok hok).1
     obtain ⟨rfl, rfl⟩ := hq
     subst e
     unfold repC at hr ⊢
     exact ⟨hn, by rw [e']; exact hr.2⟩
   · rename_i e; rw [if_neg e] at hok; exact hok.elim
 · rename_i id off id' off'
   split at hle
   · rename_i e
     rw [if_pos e] at hok
     unfold repC at hr ⊢
     obtain ⟨e', hn⟩ := H.σ id' id (hle.mp H.ok pn id' id (bind_spec hok))
     exact ⟨hn, by rw [e', ← e]; exact hr.2⟩
   · rename_i e; rw [if_neg e] at hok; exact hok.elim
 · rename_i id sz i off id' sz' i' off'
   split at hle
   · rename_i e
     rw [if_pos e] at hok
     obtain ⟨e', hn⟩ := H.σ id' id (hle.mp H.ok pn id' id (bind_spec hok))
     have hq := ((bind_le pn fr' id id' ⟨i = i' ∧ t.ok, t.mp, t.vw⟩).ok hok).1
     subst hq
     obtain ⟨rfl, rfl⟩ := e
     unfold repC at hr ⊢
     exact ⟨hn, by rw [e']; exact hr.2⟩
   · rename_i e; rw [if_neg e] at hok; exact hok.elim
 · rename_i id id'
   unfold repC at hr ⊢
   obtain ⟨e, hn⟩ := H.σ id' id (hle.mp H.ok pn id' id (bind_spec hok))
   exact ⟨hn, by rw [e]; exact hr.2⟩
 · rename_i f cs g ds
   split at hle
   · rename_i e
     unfold repC at hr ⊢
     obtain ⟨vs, e2, h2⟩ := hr
     exact ⟨vs, by rw [← e]; exact e2, matchCs_rep H cs ds _ vs hle h2⟩
   · rename_i e; rw [if_neg e] at hok; exact hok.elim
 · rename_i g g'
   split at hle
   · rename_i e
     subst e
     unfold repC at hr ⊢
     exact hr
   · rename_i e; rw [if_neg e] at hok; exact hok.elim
 · rename_i id k id' k'
   split at hle
   · rename_i e
     rw [if_pos e] at hok
     obtain ⟨e', hn⟩ := H.σ id' id (hle.mp H.ok pn id' id (bind_spec hok))
     subst e
     unfold repC at hr ⊢
     exact ⟨hn, by rw [e']; exact hr.2⟩
   · rename_i e; rw [if_neg e] at hok; exact hok.elim
 · rename_i cs ds
   unfold repC at hr ⊢
   obtain ⟨vs, e2, h2⟩ := hr
   exact ⟨vs, e2, matchCs_rep H cs ds _ vs hle h2⟩
 · rename_i cs off ds off'
   split at hle
   · rename_i e
     unfold repC at hr ⊢
     obtain ⟨b, vs, e2, h2, h3⟩ := hr
     exact ⟨b, vs, by rw [← e]; exact e2, matchCs_rep H cs ds _ vs hle h2, h3.keep H.keep⟩
   · rename_i e; rw [if_neg e] at hok; exact hok.elim
 · rename_i f cs g ds
   split at hle
   · rename_i e
     unfold repC at hr ⊢
     obtain ⟨vs, e2, h2⟩ := hr
     exact ⟨vs, by rw [← e]; exact e2, matchCs_rep H cs ds _ vs hle h2⟩
   · rename_i e; rw [if_neg e] at hok; exact hok.elim
 · exact hok.elim
theorem matchCs_rep (H : Tgt pn x x' m tf) : ∀ (cs ds : List C1) (t : Mt) (vs : List Value), (matchCs pn m fr' cs ds t).Le tf → repCs x cs vs → repCs x' ds vs := by
 intro cs ds t vs hle hr
 unfold matchCs at hle
 split at hle
 · rw [repCs_nil.1 hr]; exact repCs_nil.2 rfl
 · rename_i c cs d ds
   obtain ⟨v, r, rfl, h1, h2⟩ := repCs_cons.1 hr
   exact repCs_cons.2 ⟨v, r, rfl, matchC_rep H c d t v ((matchCs_le cs ds _).trans hle) h1, matchCs_rep H cs ds _ r hle h2⟩
 · exact (hle.ok H.ok).elim
end

theorem matchA_rep (H : Tgt pn x x' m tf) (a b : AV) (t : Mt) (v : Value) (hle : (matchA pn m fr' a b t).Le tf) (hr : repA x a v) : repA x' b v := by
 unfold matchA at hle
 split at hle
 · unfold repA at hr ⊢; exact matchC_rep H _ _ _ _ hle hr
 · unfold repA at hr ⊢
   obtain ⟨vs, e, h⟩ := hr
   exact ⟨vs, e, matchCs_rep H _ _ _ _ hle h⟩
 · unfold repA repC; trivial
 · exact (hle.ok H.ok).elim

theorem matchS_rep (H : Tgt pn x x' m tf) (s : Slots) (tmp : Nat → Value) (hs : ∀ i, repA x (sget s i) (tmp i)) : ∀ (r : Slots) (t : Mt), (matchS pn m fr' s r t).Le tf → ∀ i v, (i, v) ∈ r → repA x' v (tmp i)
 | (j, u) :: r, t, hle, i, v, hm => by
   cases List.mem_cons.1 hm with
   | inl e =>
     cases e
     exact matchA_rep H _ _ t _ ((matchS_le s r _).trans hle) (hs j)
   | inr e => exact matchS_rep H s tmp hs r _ hle i v e

theorem matchB_own {a b : Blk} {t : Mt} (h : (matchB pn m fr' a b t).ok) : own b = true → own a = true := by
 unfold matchB at h
 split at h
 · intro h; cases h
 · split at h
   · intro _; rfl
   · exact h.elim
 · intro _; rfl
 · intro _; rfl
 · intro _; rfl
 · intro _; rfl
 · intro _; rfl
 · intro h; cases h
 · exact h.elim

theorem famRep_keepw {x y : Rx} (hw : y.w = x.w) (h : Keep x.w y.w x.O y.O) {e : TypeId} {u : Ty} {xss : List (List u.den)} {vs : List Value} (k : famRep x e u xss vs) : famRep y e u xss vs where
 len := k.len
 row := fun i xs v h1 h2 => by
  obtain ⟨k1, flat, k2, k3⟩ := k.row i xs v h1 h2
  exact ⟨k1, flat, by rw [hw]; exact k2, roAll_mono (ro_keep h u) _ _ k3⟩
 inj := k.inj
theorem mapgRep_keepw {x y : Rx} (h : Keep x.w y.w x.O y.O) {kt : Ty} {ka : Bool} {hole : Option Nat} {ks : List kt.den} {es : List MapEntry} {vs : List Value} (k : mapgRep x kt ka hole ks es vs) : mapgRep y kt ka hole ks es vs where
 len := k.len
 lenv := k.lenv
 at_ := fun i a en v h1 h2 h3 => by
  obtain ⟨k1, k2, kvs, k3, k4⟩ := k.at_ i a en v h1 h2 h3
  exact ⟨k1, k2, kvs, k3, ro_keep h _ _ _ k4⟩
theorem mapRep_keepw {x y : Rx} (h : Keep x.w y.w x.O y.O) {kt vt : Ty} {ka va : Bool} : ∀ (l : List (kt.den × vt.den)) (es : List MapEntry), mapRep x kt vt ka va l es → mapRep y kt vt ka va l es
 | [], _, k => k
 | _ :: l, _, ⟨e, r, ks, vs, he, e1, k1, e2, k2, k3⟩ => ⟨e, r, ks, vs, he, e1, ro_keep h _ _ _ k1, e2, ro_keep h _ _ _ k2, mapRep_keepw h l r k3⟩

theorem matchB_rep' (H : Tgt pn x x' m tf) {i id : Nat} (eσ : x'.σ i = x.σ id) (b : Blk) (t : Mt) (hle : (matchB pn m fr' (m id) b t).Le tf) (hr : repB x id (m id)) : repB x' i b := by
 have hok := hle.ok H.ok
 generalize m id = a at *
 unfold matchB at hle hok
 split at hle <;> try simp only at hok
 · trivial
 · rename_i e cs e' ds
   split at hle
   · rename_i he
     obtain ⟨bl, vs, h1, h2, h3, h4⟩ := hr
     exact ⟨bl, vs, by rw [eσ]; exact h1, by rw [H.w, ← he]; exact h2, matchCs_rep H _ _ _ _ hle h3, h4⟩
   · rename_i he; rw [if_neg he] at hok; exact hok.elim
 · rename_i e u xs e' v ys
   split at hle
   · rename_i he
     rw [if_pos he] at hok
     obtain ⟨e2, he2⟩ := castTy_some hok.1
     subst e2; subst he2; subst he
     obtain ⟨n, flat, h1, h2, h3⟩ := hr
     exact ⟨n, flat, h1, by rw [H.w, eσ]; exact h2, roAll_mono (ro_keep H.keep _) _ _ h3⟩
   · rename_i he; rw [if_neg he] at hok; exact hok.elim
 · rename_i e u xss e' v yss
   split at hle
   · rename_i he
     rw [dif_pos he] at hok
     obtain ⟨h1, h2⟩ := he
     subst h1; subst h2
     have hl : xss = yss := hok.1
     subst hl
     obtain ⟨f, vs, g1, g2⟩ := hr
     exact ⟨f, vs, by rw [eσ]; exact g1, famRep_keepw H.w H.keep g2⟩
   · rename_i he; rw [dif_neg he] at hok; exact hok.elim
 · rename_i k ka fid ks k' ka' fid' ks'
   split at hle
   · rename_i he
     rw [dif_pos he] at hok
     obtain ⟨h1, h2⟩ := he
     subst h1; subst h2
     obtain ⟨e', hn⟩ := H.σ fid' fid (hle.mp H.ok pn fid' fid (bind_spec hok))
     have hl : ks = ks' := ((bind_le pn fr' fid fid' ⟨ks = ks' ∧ t.ok, t.mp, t.vw⟩).ok hok).1
     subst hl
     obtain ⟨r, es, f, vs, g1, g2, g3, g4, g5⟩ := hr
     exact ⟨r, es, f, vs, by rw [eσ]; exact g1, by rw [H.w]; exact g2, hn, by rw [e']; exact g4, mapgRep_keepw H.keep g5⟩
   · rename_i he; rw [dif_neg he] at hok; exact hok.elim
 · rename_i e u p fid xs e' v p' fid' ys
   split at hle
   · rename_i he
     rw [dif_pos he] at hok
     obtain ⟨h1, h2, h3⟩ := he
     subst h1; subst h2; subst h3
     obtain ⟨e', hn⟩ := H.σ fid' fid (hle.mp H.ok pn fid' fid (bind_spec hok))
     have hl : xs = ys := ((bind_le pn fr' fid fid' ⟨xs = ys ∧ t.ok, t.mp, t.vw⟩).ok hok).1
     subst hl
     obtain ⟨f, vs, flat, g1, g2, g3, g4, g5⟩ := hr
     exact ⟨f, vs, flat, hn, by rw [e']; exact g2, g3, by rw [H.w, eσ]; exact g4, roAll_mono (elG_keep H.keep) _ _ g5⟩
   · rename_i he; rw [dif_neg he] at hok; exact hok.elim
 · rename_i k v ka va l k' v' ka' va' l'
   split at hle
   · rename_i he
     rw [dif_pos he] at hok
     obtain ⟨h1, h2, h3, h4⟩ := he
     subst h1; subst h2; subst h3; subst h4
     obtain ⟨r, es, cl, g1, g2, g3, g4⟩ := hr
     have hl : l = l' := hok.1
     subst hl
     refine ⟨r, es, cl, by rw [eσ]; exact g1, by rw [H.w]; exact g2, ?_, g4⟩
     exact mapRep_keepw H.keep l _ g3
   · rename_i he; rw [dif_neg he] at hok; exact hok.elim
 · rename_i cs ds
   obtain ⟨bl, vs, h1, h2, h3⟩ := hr
   exact ⟨bl, vs, by rw [eσ]; exact h1, matchCs_rep H _ _ _ _ hle h2, h3.keep H.keep⟩
 · exact hok.elim


end

/-! ### the state -/

section
variable {cx cx' : Cx} {σ : Nat → Value} {N : Nat → Prop} {m : Mem} {w : World} {s : Nat → AV} {n : Nat} {a : Act}

def sigOf (pn : Nat) (σ : Nat → Value) (mp : List (Nat × Nat)) : Nat → Value := fun i => match mpGet pn mp i with
 | some id => σ id
 | none => σ 0

theorem mp_inj {pn fr' : Nat} {t : Mt} (hj : t.J pn fr') (hok : t.ok) {i j id : Nat} (hi : mpGet pn t.mp i = some id) (hjj : mpGet pn t.mp j = some id) : i = j := by
 obtain ⟨hnd, hge⟩ := hj hok
 unfold mpGet at hi hjj
 split at hi <;> split at hjj
 · cases hi; cases hjj; rfl
 · rename_i h1 h2
   cases hi
   have := (hge _ (findL_mem hjj)).2
   simp only at this
   omega
 · rename_i h1 h2
   cases hjj
   have := (hge _ (findL_mem hi)).2
   simp only at this
   omega
 have h1 := findL_mem hi
 have h2 := findL_mem hjj
 clear hge
 generalize t.mp = l at *
 clear hi hjj
 induction l with
 | nil => cases h1
 | cons p l ih =>
   rw [List.map_cons, List.nodup_cons] at hnd
   rcases List.mem_cons.1 h1 with e1 | e1 <;> rcases List.mem_cons.1 h2 with e2 | e2
   · rw [← e1] at e2; cases e2; rfl
   · rw [← e1] at hnd; exact absurd (List.mem_map.2 ⟨_, e2, rfl⟩) hnd.1
   · rw [← e2] at hnd; exact absurd (List.mem_map.2 ⟨_, e1, rfl⟩) hnd.1
   · exact ih hnd.2 e1 e2

/-- Every entry of the other heap stands for one of ours. -/
theorem matchM_at {pn fr' : Nat} : ∀ (r : Heap) (t : Mt), (matchM pn m fr' r t).ok → ∀ i b, (i, b) ∈ r → ∃ t' id, mpGet pn t'.mp i = some id ∧ (matchB pn m fr' (m id) b t').Le (matchM pn m fr' r t) ∧ t'.Le (matchM pn m fr' r t)
 | (j, c) :: r, t, hok, i, b, hm => by
   simp only [matchM] at hok ⊢
   split at hok
   · rename_i id hid
     cases List.mem_cons.1 hm with
     | inl e => cases e; exact ⟨t, id, hid, matchM_le r _, (matchB_le _ _ _).trans (matchM_le r _)⟩
     | inr e => exact matchM_at r _ hok i b e
   · exact hok.elim

theorem getL_mem {α : Type} {d : α} : ∀ (l : List (Nat × α)) (i : Nat), getL d l i = d ∨ (i, getL d l i) ∈ l
 | [], _ => .inl rfl
 | (k, v) :: l, i => by
   simp only [getL]
   split
   · rename_i e; rw [e]; exact .inr List.mem_cons_self
   · exact (getL_mem l i).imp id (List.mem_cons_of_mem _)

theorem view_settled {t : Ty} {xs : List t.den} {id : Nat} (hv : view m t (.row id) = some xs) : ∃ u ys, (settle m id).2 = .settled u ys ∧ castTy u t ys = some xs := by
 simp only [view] at hv
 unfold settle
 split at hv
 · rename_i e u ys hm; exact ⟨u, ys, by simp [hm], hv⟩
 · rename_i u ys hm; exact ⟨u, ys, by simp [hm], hv⟩
 · cases hv

/-- WHAT SERVES: the memory, and what the values say. f: which of our ids stands for an id of the other state. -/
theorem RepM.serve (h : RepM cx σ N m w) {pn fr' : Nat} {m' : Mem} {tf : Mt} (f : Nat → Option Nat) (hok : tf.ok)
 (hat : ∀ i, m' i ≠ .dead → ∃ t' id, f i = some id ∧ (matchB pn m fr' (m id) (m' i) t').Le tf)
 (hfm : ∀ i id, mpGet pn tf.mp i = some id → f i = some id) (hlt : ∀ i id, f i = some id → i < fr') (hinj : ∀ i j id, f i = some id → f j = some id → i = j)
 (hvw : ∀ id ∈ tf.vw, ∀ i, f i ≠ some id)
 (hF : ∀ b, cx'.F b → cx.F b ∨ ∃ id, own (m id) = true ∧ hb (σ id) b ∧ id ∉ tf.vw ∧ ∀ i, f i ≠ some id)
 (hlow : ∀ id b, own (m id) = true → hb (σ id) b → (∃ i, f i = some id) → cx'.w0.heap.size ≤ b ∨ cx'.Mu b) (hevo : Evo cx' w)
 {σ' : Nat → Value} (hσ : ∀ i id, f i = some id → σ' i = σ id) (hone : ∀ i, (σ' i).oneCell' = true) (hfix : ∀ i, i < cx'.np → ¬ From fr' i ∧ σ' i = cx'.arg i) (hmk : ∀ D, D ∈ cx'.mks → w.heap[D]? = some (.deferred (some []))) (hgl : GlOk cx') :
 RepM cx' σ' (From fr') m' w ∧ Tgt pn (rx cx σ N (updM m (tf.vw.map (settle m))) w) (rx cx' σ' (From fr') m' w) m tf := by
 have hu : ∀ id, updM m (tf.vw.map (settle m)) id = if id ∈ tf.vw then (settle m id).2 else m id := fun id => updM_settle m tf.vw m id (fun i _ => .inl rfl)
 obtain ⟨h2, _⟩ := h.settles tf.vw
 have own' : ∀ i, own (m' i) = true → ∃ id, f i = some id ∧ own (m id) = true ∧ σ' i = σ id := by
  intro i hi
  obtain ⟨t', id, h1, h3⟩ := hat i (fun e => by rw [e] at hi; cases hi)
  exact ⟨id, h1, matchB_own (h3.ok hok) hi, hσ i id h1⟩
 have nvw : ∀ i id, f i = some id → id ∉ tf.vw := fun i id hi hm => hvw id hm i hi
 have T : Tgt pn (rx cx σ N (updM m (tf.vw.map (settle m))) w) (rx cx' σ' (From fr') m' w) m tf := by
  refine ⟨rfl, fun b hb => ?_, fun i id hi => ⟨hσ i id (hfm i id hi), fun hf => ?_⟩, fun id hid u xs hv => ?_, hok⟩
  · rcases hb with hb | ⟨i, ho, hb⟩
    · rcases hF b hb with h1 | ⟨id, h1, h2, h3, _⟩
      · exact .inl h1
      · exact .inr ⟨id, by rw [hu, if_neg h3]; exact h1, h2⟩
    · obtain ⟨id, h1, h2, h3⟩ := own' i ho
      exact .inr ⟨id, by rw [hu, if_neg (nvw i id h1)]; exact h2, by rw [← h3]; exact hb⟩
  · have := hlt i id (hfm i id hi)
    unfold rx From at hf
    simp only at hf
    omega
  · obtain ⟨u', ys, e1, e2⟩ := view_settled hv
    obtain ⟨e3, e4⟩ := castTy_some e2
    subst e3; subst e4
    have := h2.blk id
    rw [hu, if_pos hid, e1] at this
    exact this
 -- a block that is bound is told by the match; its binding need not be the match's own
 have blk : ∀ i id (t' : Mt), f i = some id → (matchB pn m fr' (m id) (m' i) t').Le tf → repB (rx cx' σ' (From fr') m' w) i (m' i) := by
  intro i id t' h1 h3
  have hb := h2.blk id
  rw [hu, if_neg (nvw i id h1)] at hb
  exact matchB_rep' T (hσ i id h1) _ t' h3 hb
 refine ⟨⟨fun i => ?_, fun i hi => ?_, fun i j b ho ho' hb hb' => ?_, fun i b ho hb => ?_, fun i b ho hb => ?_, hevo, fun b hb => ?_, hone, hfix, hmk, hgl⟩, T⟩
 · by_cases hd : m' i = .dead
   · rw [hd]; trivial
   · obtain ⟨t', id, h1, h3⟩ := hat i hd
     exact blk i id t' h1 h3
 · by_cases hd : m' i = .dead
   · exact hd
   · obtain ⟨t', id, h1, _⟩ := hat i hd
     have := hlt i id h1
     unfold From at hi
     omega
 · obtain ⟨id, h1, h2, h3⟩ := own' i ho
   obtain ⟨jd, g1, g2, g3⟩ := own' j ho'
   rw [h3] at hb; rw [g3] at hb'
   have := h.inj id jd b h2 g2 hb hb'
   subst this
   exact hinj i j id h1 g1
 · obtain ⟨id, h1, h2, h3⟩ := own' i ho
   rw [h3] at hb
   intro hf
   rcases hF b hf with k1 | ⟨jd, k1, k2, _, k4⟩
   · exact h.notF id b h2 hb k1
   · have := h.inj id jd b h2 k1 hb k2
     subst this
     exact k4 i h1
 · obtain ⟨id, h1, h2, h3⟩ := own' i ho
   rw [h3] at hb
   exact hlow id b h2 hb ⟨i, h1⟩
 · rcases hF b hb with k1 | ⟨jd, k1, k2, _, _⟩
   · exact h.hF b k1
   · exact repB_lt (h.blk jd) k1 b k2

/-- What serves by a match alone: the ids below 32 stand for themselves. -/
theorem RepM.ent (h : RepM cx σ N m w) (hnp : cx.np ≤ 32) {s : Slots} {s' : Slots} {m' : Heap} {fr' : Nat} (he : ent s m fr' s' m') (tmp : Nat → Value) (hs : ∀ i, repA (rx cx σ N m w) (sget s i) (tmp i)) :
 ∃ σ', RepM cx σ' (From fr') (mem m') w ∧ (∀ i, repA (rx cx σ' (From fr') (mem m') w) (sget s' i) (tmp i)) ∧ (∀ b, Owned cx σ' (mem m') b → Owned cx σ m b) := by
 unfold Ev.ent mOk at he
 generalize hq : matchM 32 m fr' m' (matchS 32 m fr' s s' ⟨True, [], []⟩) = tf at he
 obtain ⟨⟨hfr, hv⟩, hok⟩ := he
 have hj : (matchS 32 m fr' s s' ⟨True, [], []⟩).J 32 fr' := matchS_J s s' _ (fun _ => ⟨by simp, fun _ hp => by cases hp⟩)
 have hjf : tf.J 32 fr' := by rw [← hq]; exact matchM_J _ _ hj
 have hvw : ∀ id ∈ tf.vw, ∀ i, mpGet 32 tf.mp i ≠ some id := by
  intro id hid i hi
  have := List.all_eq_true.1 hv id hid
  simp only [Bool.and_eq_true, decide_eq_true_eq, Bool.not_eq_true'] at this
  unfold mpGet at hi
  split at hi
  · cases hi; omega
  · have h3 := this.2
    rw [List.contains_iff_mem.2 (List.mem_map.2 ⟨_, findL_mem hi, rfl⟩)] at h3
    cases h3
 have hlt : ∀ i id, mpGet 32 tf.mp i = some id → i < fr' := by
  intro i id hi
  unfold mpGet at hi
  split at hi
  · omega
  · exact ((hjf hok).2 _ (findL_mem hi)).1
 obtain ⟨h1, T⟩ := h.serve (cx' := cx) (pn := 32) (fr' := fr') (m' := mem m') (tf := tf) (fun i => mpGet 32 tf.mp i) hok (fun i hi => by
  rcases getL_mem (d := .dead) m' i with e | e
  · exact absurd e hi
  · obtain ⟨t', id, h1, h2, h3⟩ := matchM_at m' _ (hq ▸ hok) i _ e
    rw [hq] at h2 h3
    exact ⟨t', id, h3.mp hok 32 i id h1, h2⟩) (fun i id h => h) hlt (fun i j id hi hjj => mp_inj hjf hok hi hjj) hvw (fun b hb => .inl hb) (fun id b ho hb _ => h.low id b ho hb) h.evo
  (σ' := sigOf 32 σ tf.mp) (fun i id hi => by simp only [sigOf, hi]) (fun i => by unfold sigOf; split; exact h.hone _; exact h.hone 0)
  (fun i hi => ⟨fun hf => by unfold From at hf; omega, by
    have : mpGet 32 tf.mp i = some i := by unfold mpGet; rw [if_pos (by omega)]
    simp only [sigOf, this]; exact (h.fix i hi).2⟩) h.mks h.gl
 obtain ⟨_, k2⟩ := h.settles tf.vw
 refine ⟨_, h1, fun i => ?_, fun b hb => ?_⟩
 · rcases getL_mem (d := AV.one .undef) s' i with e | e
   · unfold sget; rw [e]; unfold repA repC; trivial
   · exact matchS_rep T s tmp (fun i => repA_keep k2 _ _ (hs i)) s' ⟨True, [], []⟩ (hq ▸ matchM_le _ _) i _ e
 · rcases T.O b hb with h1 | ⟨i, ho, hb⟩
   · exact .inl h1
   · refine .inr ⟨i, ?_, hb⟩
     rw [updM_settle m tf.vw m i (fun i _ => .inl rfl)] at ho
     split at ho
     · exact settle_not_own m i ho
     · exact ho

/-- At a loop's head. -/
theorem RepF.ent {s : Slots} {s' : Slots} {m' : Heap} {fr' : Nat} (h : RepF cx σ N (sget s) m n a w) (hnp : cx.np ≤ 32) (he : ent s m fr' s' m') : ∃ σ', RepF cx σ' (From fr') (sget s') (mem m') n a w := by
 obtain ⟨σ', h1, h2, _⟩ := h.mm.ent hnp he (fun i => a.tmps.getD i undef) h.ss
 exact ⟨σ', h1, h2, h.df, h.sz, h.fx⟩

end
end Go.Ev

/- A range over a function whose iterator has its contract: the law. -/
set_option linter.unusedSimpArgs false
set_option linter.unusedVariables false
namespace Go.Ev
open Go.RowKit

theorem GrowN.alloc (B : Nat) (W : World) (o : Obj) : GrowN B W (W.alloc o) := ⟨none, World.grownBy_alloc W o none, Nat.le_refl _, fun r e => by cases e⟩
theorem GrowN.put {B : Nat} {W : World} {l : Nat} {o : Obj} (o' : Obj) (hB : B ≤ l) (h : W.heap[l]? = some o) (ho : datB o = false) : GrowN B W (W.putObj l o') :=
 ⟨some l, grownBy_putObj' W l o', Nat.le_refl _, fun r e => by cases e; exact ⟨hB, o, h, ho⟩⟩
theorem GrowN.keep {B : Nat} {A C : World} (h : GrowN B A C) {k : Nat} {o : Obj} (hk : A.heap[k]? = some o) (hl : k < B) : C.heap[k]? = some o := by
 obtain ⟨row, hg, _, hr⟩ := h
 refine (hg.block k (Array.getElem?_eq_some_iff.1 hk).1 fun e => ?_).trans hk
 have := (hr k e.symm).1; omega
theorem GrowN.mono {B B' : Nat} {A C : World} (h : GrowN B A C) (hb : B' ≤ B) : GrowN B' A C := by
 obtain ⟨row, hg, hd, hr⟩ := h
 exact ⟨row, hg, hd, fun r e => ⟨Nat.le_trans hb (hr r e).1, (hr r e).2⟩⟩

/-- How a round is left. -/
def rPost (bs : List Nat) (I : List Nat → World → Prop) (Ix : Code → List Nat → World → Prop) (xs : List Nat) (W : World) : Exit → Act → World → Prop
 | .normal, _, W' => KeepN W W' ∧ KpB bs W W' ∧ I xs W'
 | .ret, _, W' => KeepN W W' ∧ Ix .ret xs W'
 | .exit id, _, W' => KeepN W W' ∧ Ix (.exit id) xs W'
 | _, _, _ => False

theorem wpIn_range {P : Program} {g : Operand} {ps : Array Tmp} {asg body : Code} {Q : Exit → Act → World → Prop} {a : Act} {w : World} {gf : Nat} {lb : Array Value}
 (hg : a.eval g = .func (.func gf) #[] lb) (eg : ∀ args w, (callFunc gf args).run P w = .ok (.enter gf args) w) {encs : Nat → Array Value} {bs : List Nat} {ord : List Nat → Prop}
 (hseq : SeqEv P gf lb encs bs ord w) (hbs : ∀ b ∈ bs, b < w.heap.size) (hps : ∀ pre j, Pfx ord (pre ++ [j]) → (encs j).size = ps.size)
 (I : List Nat → World → Prop) (Ix : Code → List Nat → World → Prop) (hI : ∀ s A B, I s A → GrowN w.heap.size A B → I s B) (hIx : ∀ c s A B, Ix c s A → GrowN w.heap.size A B → Ix c s B) (h0 : I [] w)
 (hbody : ∀ l pre j W, Pfx ord (pre ++ [j]) → I pre W → w.heap.size ≤ W.heap.size → asg.wpIn (Fence.wide.inRound l) 1 P (Exit.then (fun a1 W1 => KeepN W W1 ∧ KpB bs W W1 ∧ ∀ W2, GrowN w.heap.size W1 W2 → W2.heap.size = W1.heap.size →
   body.wpIn (Fence.wide.inRound l) 1 P (rPost bs I Ix (pre ++ [j]) W2) a1 W2) (fun _ _ _ => False)) ⟨(ps.zip (encs j)).foldl (fun t (p, v) => t.setIfInBounds p v) a.tmps, []⟩ W)
 (hdone : ∀ D xs W, w.heap.size ≤ D → ord xs → I xs W → W.heap[D]? = some (.deferred (some [])) → Q .normal { a with defers := markD D :: a.defers } W)
 (hstop : ∀ D c pre W, w.heap.size ≤ D → Pfx ord pre → Ix c pre W → W.heap[D]? = some (.deferred (some [])) → c.wpIn Fence.wide 3 P Q { a with defers := markD D :: a.defers } W) :
 (Code.rangeFunc g ps asg body).wpIn Fence.wide 3 P Q a w := by
 refine wpIn_rangeFunc fun fn hfn => ?_
 let D := w.heap.size
 let l := w.heap.size + 1
 let rc : LoopState → Option Code → Loop := fun st pe => { state := st, pending := pe, fn, tmps := a.tmps, params := ps, assign := asg, body, defers := D }
 obtain ⟨W1, hW1⟩ : ∃ W1, (w.alloc (.deferred (some []))).alloc (.loop (rc .ready none)) = W1 := ⟨_, rfl⟩
 have hl1 : W1.heap[l]? = some (.loop (rc .ready none)) := by
  rw [← hW1]; have := World.alloc_heap_new (w.alloc (.deferred (some []))) (.loop (rc .ready none)); rwa [World.size_alloc] at this
 have hD1 : W1.heap[D]? = some (.deferred (some [])) := by
  rw [← hW1]; exact (Below.heap_alloc _ _ _ (by simp [D])).trans (World.alloc_heap_new w _)
 have hs1 : W1.heap.size = w.heap.size + 2 := by rw [← hW1]; simp
 have hI1 : I [] W1 := by rw [← hW1]; exact hI _ _ _ (hI _ _ _ h0 (GrowN.alloc _ _ _)) (GrowN.alloc _ _ _)
 have hb1 : Below w.heap.size w W1 := by rw [← hW1]; exact (((Below.refl _ w).alloc (Nat.le_refl _) _).alloc (by simp) _)
 refine ⟨l, [markD D], W1, { target := .fn (.func gf) lb, args := #[.func (.yield l) #[] #[]] }, W1, gf, #[.func (.yield l) #[] #[]] ++ lb, W1, ?_, ?_, fun _ _ => trivial, ?_, fun hs => (by cases hs), ?_⟩
 · rw [← hW1]; exact run_enterLoop_outer fn a.tmps ps asg body
 · simp only [resolve, hg]
   simp [go_sem]
 · simp [invoke, go_sem, eg]
 · refine (hseq l (fun pre W => I pre W ∧ W.heap[l]? = some (.loop (rc .ready none)) ∧ W.heap[D]? = some (.deferred (some [])) ∧ w.heap.size ≤ W.heap.size)
    (fun pre W => ∃ c, Ix c pre W ∧ W.heap[l]? = some (.loop (rc .done (some c))) ∧ W.heap[D]? = some (.deferred (some []))) W1 hb1 ?_ ?_ ?_ ⟨hI1, hl1, hD1, by omega⟩).mono ?_
   · rintro s A B ⟨g1, g2, g3, g4⟩ hG
     exact ⟨hI s A B g1 (hG.mono (by omega)), hG.keep g2 (by omega), hG.keep g3 (by omega), by obtain ⟨row, hg', _⟩ := hG; exact Nat.le_trans g4 hg'.size⟩
   · rintro s A B ⟨c, g1, g2, g3⟩ hG
     exact ⟨c, hIx c s A B g1 (hG.mono (by omega)), hG.keep g2 (by omega), hG.keep g3 (by omega)⟩
   · rintro pre j W hpf ⟨hi, hl, hD, hsz⟩
     have hlt : l < W.heap.size := (Array.getElem?_eq_some_iff.1 hl).1
     have hne : D ≠ l := by omega
     have hy := run_yield (P := P) (args := encs j) hl (hps pre j hpf)
     refine ⟨fn, _, asg, body, hy, roundIn_of_wpIn hfn (wpIn_mono (hbody l pre j W hpf hi hsz) fun e0 a1 W0 h1 => ?_)⟩
     cases e0 with
     | exit id => exact h1
     | goto t => exact h1
     | ret => exact h1
     | panic c => exact h1
     | outgrown => exact h1
     | normal =>
     obtain ⟨hkn0, hkp0, hbd⟩ := h1
     have hl0 : W0.heap[l]? = some (.loop (rc .ready none)) := hkn0.same l _ hl rfl
     have hD0 := hkn0.same D _ hD rfl
     have hsz0 := hkn0.size
     have hlt0 : l < W0.heap.size := (Array.getElem?_eq_some_iff.1 hl0).1
     obtain ⟨W2, hW2⟩ : ∃ W2, W0.putObj l (.loop (rc .busy none)) = W2 := ⟨_, rfl⟩
     have hl2 : W2.heap[l]? = some (.loop (rc .busy none)) := by rw [← hW2]; exact World.putObj_heap_same hlt0
     have hD2 : W2.heap[D]? = some (.deferred (some [])) := by rw [← hW2]; exact (World.putObj_heap_other hne).trans hD0
     have hz2 : W2.heap.size = W0.heap.size := by rw [← hW2]; simp
     have hoth : ∀ k, k ≠ l → W2.heap[k]? = W0.heap[k]? := fun k hk => by rw [← hW2]; exact World.putObj_heap_other hk
     refine ⟨W2, ?_, ?_⟩
     · rw [← hW2]; exact run_beginRound hl0 rfl
     · refine wpIn_mono (hbd W2 (by rw [← hW2]; exact GrowN.put _ (by omega) hl0 rfl) hz2) fun e a3 W3 hp => ?_
       have ends : ∀ (jump : Option Code), KeepN W2 W3 → (Instr.endRound l jump).run P W3 = .ok (.bool jump.isNone) (W3.putObj l (.loop (rc (if jump.isNone then .ready else .done) jump))) ∧
        GrowN w.heap.size W3 (W3.putObj l (.loop (rc (if jump.isNone then .ready else .done) jump))) ∧
        (W3.putObj l (.loop (rc (if jump.isNone then .ready else .done) jump))).heap[l]? = some (.loop (rc (if jump.isNone then .ready else .done) jump)) ∧
        (W3.putObj l (.loop (rc (if jump.isNone then .ready else .done) jump))).heap[D]? = some (.deferred (some [])) := fun jump hk => by
        have hl3 := hk.same l _ hl2 rfl
        have hD3 := hk.same D _ hD2 rfl
        exact ⟨run_endRound jump hl3, GrowN.put _ (by omega) hl3 rfl, World.putObj_heap_same (Array.getElem?_eq_some_iff.1 hl3).1, (World.putObj_heap_other hne).trans hD3⟩
       cases e with
       | normal =>
         obtain ⟨hk, hkp, hi3⟩ := hp
         obtain ⟨e1, e2, e3, e4⟩ := ends none hk
         have hsz3 := hk.size
         refine ⟨_, _, e1, .inl ⟨rfl, ⟨hI _ _ _ hi3 e2, e3, e4, by simp; omega⟩, fun b hb => ?_, ⟨by simp; omega, fun k o hk' ho => ?_⟩⟩⟩
         · have hbl : b ≠ l := by have := hbs b hb; omega
           rw [World.putObj_heap_other hbl, hkp b hb, hoth b hbl, hkp0 b hb]
         · by_cases ekl : k = l
           · subst ekl
             rw [hl] at hk'; cases hk'
             exact e3
           · rw [World.putObj_heap_other ekl]
             exact hk.same k o ((hoth k ekl).trans (hkn0.same k o hk' ho)) ho
       | ret =>
         obtain ⟨hk, hi3⟩ := hp
         obtain ⟨e1, e2, e3, e4⟩ := ends (some .ret) hk
         exact ⟨_, _, e1, .inr ⟨rfl, .ret, hIx _ _ _ _ hi3 e2, e3, e4⟩⟩
       | exit id =>
         obtain ⟨hk, hi3⟩ := hp
         obtain ⟨e1, e2, e3, e4⟩ := ends (some (.exit id)) hk
         exact ⟨_, _, e1, .inr ⟨rfl, .exit id, hIx _ _ _ _ hi3 e2, e3, e4⟩⟩
       | goto t => exact hp.elim
       | panic ch => exact hp.elim
       | outgrown => exact hp.elim
   · rintro e W2 ⟨⟨v, rfl⟩, ⟨xs, hS, hi, hl, hD, _⟩ | ⟨pre, hSp, c, hi, hl, hD⟩⟩
     · exact ⟨none, _, run_endLoop hl (by simp [rc]), hdone D xs _ (Nat.le_refl _) hS (hI _ _ _ hi (GrowN.put _ (by omega) hl rfl)) ((World.putObj_heap_other (by omega)).trans hD)⟩
     · exact ⟨some c, _, run_endLoop hl (by simp [rc]), hstop D c pre _ (Nat.le_refl _) hSp (hIx _ _ _ _ hi (GrowN.put _ (by omega) hl rfl)) ((World.putObj_heap_other (by omega)).trans hD)⟩

end Go.Ev
