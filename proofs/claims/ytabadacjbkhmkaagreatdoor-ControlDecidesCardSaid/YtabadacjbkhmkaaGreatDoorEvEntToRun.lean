/- Part. -/
import Derived.Test.YtabadacjbkhmkaaGreatDoorEvRegToDraw
import Derived.LoopNIn
set_option linter.all false
namespace Go.Ev
structure Mt.Le (t t' : Mt) : Prop where
 ok : t'.ok → t.ok
 mp : t'.ok → ∀ pn i id, mpGet pn t.mp i = some id → mpGet pn t'.mp i = some id
 vw : t'.ok → ∀ i ∈ t.vw, i ∈ t'.vw
theorem Mt.Le.refl (t : Mt) : t.Le t := ⟨id, fun _ _ _ _ h => h, fun _ _ h => h⟩
theorem Mt.Le.trans {a b c : Mt} (h : a.Le b) (k : b.Le c) : a.Le c :=
 ⟨fun hc => h.ok (k.ok hc), fun hc pn i id hi => k.mp hc pn i id (h.mp (k.ok hc) pn i id hi), fun hc i hi => k.vw hc i (h.vw (k.ok hc) i hi)⟩
theorem Mt.le_no (t : Mt) : t.Le Mt.no := ⟨False.elim, fun h => h.elim, fun h => h.elim⟩
theorem Mt.le_and (t : Mt) {p : Prop} : t.Le ⟨p ∧ t.ok, t.mp, t.vw⟩ := ⟨fun h => h.2, fun _ _ _ _ h => h, fun _ _ h => h⟩
theorem kA2 {α : Type} : ∀ (l r : List (Nat × α)) (i : Nat), findL (l ++ r) i = (findL l i).or (findL r i)
 | [], r, i => by simp [findL]
 | (k, v) :: l, r, i => by
   simp only [List.cons_append, findL]; split
   · rfl
   · exact kA2 l r i
theorem jA1 {α : Type} : ∀ {l : List (Nat × α)} {i : Nat} {v : α}, findL l i = some v → (i, v) ∈ l
 | (k, x) :: l, i, v, h => by
   simp only [findL] at h; split at h
   · rename_i e; cases h; rw [e]; exact List.mem_cons_self
   · exact List.mem_cons_of_mem _ (jA1 h)
theorem aA4 (pn fr' id id' : Nat) (t : Mt) : t.Le (bindId pn fr' id id' t) := by
 unfold bindId; split
 · split
   · exact .refl t
   · exact t.le_no
 · rename_i hn; split
   · refine ⟨fun h => h, fun _ q i j h => ?_, fun _ _ h => h⟩; unfold mpGet at *; split at h
     · rename_i hlt; rw [if_pos hlt]; exact h
     · rename_i hlt; rw [if_neg hlt, kA2, h]; rfl
   · exact t.le_no
theorem qA2 {pn fr' id id' : Nat} {t : Mt} (h : (bindId pn fr' id id' t).ok) : mpGet pn (bindId pn fr' id id' t).mp id' = some id := by
 unfold bindId at *; split at h
 · rename_i j hj; split at h
   · rename_i e; simp only [hj, e, if_true]
   · exact h.elim
 · rename_i hn; split at h
   · rename_i hc; rw [if_pos hc]; unfold mpGet at hn ⊢; split at hn
     · cases hn
     · rename_i hlt; rw [if_neg hlt]; simp only [kA2, hn, Option.none_or, findL, if_true]
   · exact h.elim
def Mt.J (pn fr' : Nat) (t : Mt) : Prop := t.ok → (t.mp.map (·.2)).Nodup ∧ ∀ p ∈ t.mp, p.1 < fr' ∧ pn ≤ p.2
theorem hB3 {pn fr' id id' : Nat} {t : Mt} (h : t.J pn fr') : (bindId pn fr' id id' t).J pn fr' := by
 unfold bindId; split
 · split
   · exact h
   · exact fun hh => hh.elim
 · split
   · rename_i hc; intro hok; obtain ⟨h1, h2⟩ := h hok; refine ⟨?_, fun p hp => ?_⟩
     · rw [List.map_append, List.nodup_append]; refine ⟨h1, by simp, fun a ha b hb e => ?_⟩; simp only [List.map_cons, List.map_nil, List.mem_singleton] at hb; subst hb; subst e; have := hc.2.2; rw [List.contains_iff_mem.2 ha] at this; cases this
     · rcases List.mem_append.1 hp with hp | hp
       · exact h2 p hp
       · rw [List.mem_singleton.1 hp]; exact ⟨hc.2.1, hc.1⟩
   · exact fun hh => hh.elim
theorem oB3 {pn fr' : Nat} {t : Mt} {p : Prop} {vw : List Nat} (h : t.J pn fr') : (Mt.mk (p ∧ t.ok) t.mp vw).J pn fr' := fun hk => h hk.2
theorem eC0 {pn fr' : Nat} : Mt.no.J pn fr' := fun h => h.elim
section
variable {m : Mem} {pn fr' : Nat}
mutual
theorem pB3 : ∀ (c d : C1) (t : Mt), t.Le (matchC pn m fr' c d t) := by
 intro c d t; unfold matchC
 split <;> first
  | exact .refl t
  | exact t.le_no
  | exact aA4 ..
  | exact t.le_and
  | (split <;> first | exact .refl t | exact t.le_and | exact aA4 .. | exact (t.le_and).trans (aA4 ..) | exact fA2 .. | exact t.le_no)
  | exact ⟨fun h => h.2.2, fun _ _ _ _ h => h, fun _ _ h => h⟩
  | exact ⟨fun h => h.2.2, fun _ _ _ _ h => h, fun _ _ h => List.mem_cons_of_mem _ h⟩
  | exact fA2 ..
theorem fA2 : ∀ (cs ds : List C1) (t : Mt), t.Le (matchCs pn m fr' cs ds t) := by
 intro cs ds t; unfold matchCs; split
 · exact .refl t
 · exact (pB3 ..).trans (fA2 ..)
 · exact t.le_no
end
mutual
theorem rB6 : ∀ (c d : C1) (t : Mt), t.J pn fr' → (matchC pn m fr' c d t).J pn fr' := by
 intro c d t h; unfold matchC
 split <;> first
  | exact h
  | exact eC0
  | exact hB3 h
  | exact oB3 h
  | (split <;> first | exact h | exact oB3 h | exact hB3 h | exact hB3 (oB3 h) | exact tA3 _ _ _ h | exact eC0)
  | exact fun hk => h hk.2.2
  | exact tA3 _ _ _ h
theorem tA3 : ∀ (cs ds : List C1) (t : Mt), t.J pn fr' → (matchCs pn m fr' cs ds t).J pn fr' := by
 intro cs ds t h; unfold matchCs; split
 · exact h
 · exact tA3 _ _ _ (rB6 _ _ _ h)
 · exact eC0
end
theorem oC4 (a b : AV) (t : Mt) : t.Le (matchA pn m fr' a b t) := by
 unfold matchA; split
 · exact pB3 ..
 · exact fA2 ..
 · exact .refl t
 · exact t.le_no
theorem lC6 (a b : AV) (t : Mt) (h : t.J pn fr') : (matchA pn m fr' a b t).J pn fr' := by
 unfold matchA; split
 · exact rB6 _ _ _ h
 · exact tA3 _ _ _ h
 · exact h
 · exact eC0
theorem tB3 (s : Slots) : ∀ (r : Slots) (t : Mt), t.Le (matchS pn m fr' s r t)
 | [], t => .refl t
 | (i, v) :: r, t => (oC4 _ _ t).trans (tB3 s r _)
theorem bB7 (s : Slots) : ∀ (r : Slots) (t : Mt), t.J pn fr' → (matchS pn m fr' s r t).J pn fr'
 | [], t, h => h
 | (i, v) :: r, t, h => bB7 s r _ (lC6 _ _ t h)
theorem vB2 (a b : Blk) (t : Mt) : t.Le (matchB pn m fr' a b t) := by
 unfold matchB; split
 · exact .refl t
 · split
   · exact fA2 ..
   · exact t.le_no
 · split
   · exact t.le_and
   · exact t.le_no
 · split
   · exact t.le_and
   · exact t.le_no
 · split
   · exact (t.le_and).trans (aA4 ..)
   · exact t.le_no
 · split
   · exact (t.le_and).trans (aA4 ..)
   · exact t.le_no
 · split
   · exact t.le_and
   · exact t.le_no
 · exact fA2 ..
 · exact t.le_no
theorem fC7 (a b : Blk) (t : Mt) (h : t.J pn fr') : (matchB pn m fr' a b t).J pn fr' := by
 unfold matchB; split
 · exact h
 · split
   · exact tA3 _ _ _ h
   · exact eC0
 · split
   · exact oB3 h
   · exact eC0
 · split
   · exact oB3 h
   · exact eC0
 · split
   · exact hB3 (oB3 h)
   · exact eC0
 · split
   · exact hB3 (oB3 h)
   · exact eC0
 · split
   · exact oB3 h
   · exact eC0
 · exact tA3 _ _ _ h
 · exact eC0
theorem vA5 : ∀ (r : Heap) (t : Mt), t.Le (matchM pn m fr' r t)
 | [], t => .refl t
 | (i, b) :: r, t => by
   simp only [matchM]; split
   · exact (vB2 _ _ t).trans (vA5 r _)
   · exact t.le_no
theorem jB8 : ∀ (r : Heap) (t : Mt), t.J pn fr' → (matchM pn m fr' r t).J pn fr'
 | [], t, h => h
 | (i, b) :: r, t, h => by
   simp only [matchM]; split
   · exact jB8 r _ (fC7 _ _ t h)
   · exact eC0
/-! ### what is said of the values -/
structure Tgt (pn : Nat) (x x' : Rx) (m : Mem) (tf : Mt) : Prop where
 w : x'.w = x.w
 O : ∀ b, x'.O b → x.O b
 σ : ∀ i id, mpGet pn tf.mp i = some id → x'.σ i = x.σ id ∧ ¬ x'.N i
 vw : ∀ id ∈ tf.vw, ∀ t xs, view m t (.row id) = some xs → ro x.w x.O (.sl t) xs [x.σ id]
 ok : tf.ok
variable {x x' : Rx} {tf : Mt}
theorem Tgt.keep (h : Tgt pn x x' m tf) : Keep x.w x'.w x.O x'.O := .ex fun b _ ho => ⟨fun k => ho (h.O b k), by rw [h.w]⟩
theorem bA2 {t u : Ty} {xs : List t.den} {ys : List u.den} (h : castTy t u xs = some ys) : ∃ e : t = u, e ▸ xs = ys := by
 unfold castTy at h; split at h
 · rename_i e; exact ⟨e, Option.some.inj h⟩
 · cases h
mutual
theorem zA9 (H : Tgt pn x x' m tf) : ∀ (c d : C1) (t : Mt) (v : Value), (matchC pn m fr' c d t).Le tf → repC x c v → repC x' d v := by
 intro c d t v hle hr; have hok := hle.ok H.ok; unfold matchC at hle hok; split at hle <;> try simp only at hok
 · unfold repC; trivial
 · rename_i k a k' b; split at hle
   · rename_i e; rw [if_pos e] at hok; unfold repC at hr ⊢; rw [← e, ← hok.1]; exact hr
   · rename_i e; rw [if_neg e] at hok; exact hok.elim
 · unfold repC at hr ⊢; rw [← hok.1]; exact hr
 · unfold repC at hr ⊢; rw [← hok.1]; exact hr
 · unfold repC at hr ⊢; exact hr
 · unfold repC at hr ⊢; exact hr
 · unfold repC at hr ⊢; exact hr
 · rename_i u ys cp; unfold repC at hr ⊢; rw [hr, hok.1]; exact ⟨⟨none, 0, 0, rfl, rfl, Nat.le_refl _, by simp [maxLen], .inl rfl⟩, fun _ => ⟨none, 0, rfl⟩⟩
 · rename_i u xs cp v' ys cp'; obtain ⟨e, he⟩ := bA2 hok.1; subst e; subst he; unfold repC at hr ⊢; exact ⟨hA0 H.keep _ _ _ hr.1, fun hc => hr.2 (hok.2.1 hc)⟩
 · rename_i id v' ys cp'; unfold repC at hr ⊢; have := H.vw id (hle.vw H.ok id List.mem_cons_self) v' ys hok.1; rw [hr.2]; exact ⟨hA0 H.keep _ _ _ this, fun hc => by rw [hok.2.1] at hc; cases hc⟩
 · rename_i id id'; unfold repC at hr ⊢; obtain ⟨e, hn⟩ := H.σ id' id (hle.mp H.ok pn id' id (qA2 hok)); exact ⟨hn, by rw [e]; exact hr.2⟩
 · rename_i id sz lo len v' ys cp'; have hvw := H.vw id (hle.vw H.ok id List.mem_cons_self); have hro : ro x.w x.O (.sl v') ys [v] := by
    have hv := hok.1; simp only [view] at hv; split at hv
    · rename_i e' u xs hm; split at hv
      · rename_i hc; obtain ⟨e1, he1⟩ := bA2 hv; subst e1; subst he1; obtain ⟨rfl, hll⟩ := hc; exact cB8 (hvw u xs (by simp [view, hm, castTy])) hr hll
      · cases hv
    · rename_i u xs hm; split at hv
      · rename_i hc; obtain ⟨e1, he1⟩ := bA2 hv; subst e1; subst he1; obtain ⟨rfl, hll⟩ := hc; exact cB8 (hvw u xs (by simp [view, hm, castTy])) hr hll
      · cases hv
    · cases hv
   unfold repC; exact ⟨hA0 H.keep _ _ _ hro, fun hc => by rw [hok.2.1] at hc; cases hc⟩
 · rename_i id sz lo len id' sz' lo' len'; split at hle
   · rename_i e; rw [if_pos e] at hok; obtain ⟨e', hn⟩ := H.σ id' id (hle.mp H.ok pn id' id (qA2 hok)); have hq := ((aA4 pn fr' id id' ⟨(lo = lo' ∧ len = len') ∧ t.ok, t.mp, t.vw⟩).ok hok).1; obtain ⟨rfl, rfl⟩ := hq; subst e; unfold repC at hr ⊢; exact ⟨hn, by rw [e']; exact hr.2⟩
   · rename_i e; rw [if_neg e] at hok; exact hok.elim
 · rename_i id off id' off'; split at hle
   · rename_i e; rw [if_pos e] at hok; unfold repC at hr ⊢; obtain ⟨e', hn⟩ := H.σ id' id (hle.mp H.ok pn id' id (qA2 hok)); exact ⟨hn, by rw [e', ← e]; exact hr.2⟩
   · rename_i e; rw [if_neg e] at hok; exact hok.elim
 · rename_i id sz i off id' sz' i' off'; split at hle
   · rename_i e; rw [if_pos e] at hok; obtain ⟨e', hn⟩ := H.σ id' id (hle.mp H.ok pn id' id (qA2 hok)); have hq := ((aA4 pn fr' id id' ⟨i = i' ∧ t.ok, t.mp, t.vw⟩).ok hok).1; subst hq; obtain ⟨rfl, rfl⟩ := e; unfold repC at hr ⊢; exact ⟨hn, by rw [e']; exact hr.2⟩
   · rename_i e; rw [if_neg e] at hok; exact hok.elim
 · rename_i id id'; unfold repC at hr ⊢; obtain ⟨e, hn⟩ := H.σ id' id (hle.mp H.ok pn id' id (qA2 hok)); exact ⟨hn, by rw [e]; exact hr.2⟩
 · rename_i f cs g ds; split at hle
   · rename_i e; unfold repC at hr ⊢; obtain ⟨vs, e2, h2⟩ := hr; exact ⟨vs, by rw [← e]; exact e2, pA1 H cs ds _ vs hle h2⟩
   · rename_i e; rw [if_neg e] at hok; exact hok.elim
 · rename_i g g'; split at hle
   · rename_i e; subst e; unfold repC at hr ⊢; exact hr
   · rename_i e; rw [if_neg e] at hok; exact hok.elim
 · rename_i id k id' k'; split at hle
   · rename_i e; rw [if_pos e] at hok; obtain ⟨e', hn⟩ := H.σ id' id (hle.mp H.ok pn id' id (qA2 hok)); subst e; unfold repC at hr ⊢; exact ⟨hn, by rw [e']; exact hr.2⟩
   · rename_i e; rw [if_neg e] at hok; exact hok.elim
 · rename_i cs ds; unfold repC at hr ⊢; obtain ⟨vs, e2, h2⟩ := hr; exact ⟨vs, e2, pA1 H cs ds _ vs hle h2⟩
 · rename_i cs off ds off'; split at hle
   · rename_i e; unfold repC at hr ⊢; obtain ⟨b, vs, e2, h2, h3⟩ := hr; exact ⟨b, vs, by rw [← e]; exact e2, pA1 H cs ds _ vs hle h2, h3.keep H.keep⟩
   · rename_i e; rw [if_neg e] at hok; exact hok.elim
 · rename_i f cs g ds; split at hle
   · rename_i e; unfold repC at hr ⊢; obtain ⟨vs, e2, h2⟩ := hr; exact ⟨vs, by rw [← e]; exact e2, pA1 H cs ds _ vs hle h2⟩
   · rename_i e; rw [if_neg e] at hok; exact hok.elim
 · exact hok.elim
theorem pA1 (H : Tgt pn x x' m tf) : ∀ (cs ds : List C1) (t : Mt) (vs : List Value), (matchCs pn m fr' cs ds t).Le tf → repCs x cs vs → repCs x' ds vs := by
 intro cs ds t vs hle hr; unfold matchCs at hle; split at hle
 · rw [repCs_nil.1 hr]; exact repCs_nil.2 rfl
 · rename_i c cs d ds; obtain ⟨v, r, rfl, h1, h2⟩ := repCs_cons.1 hr; exact repCs_cons.2 ⟨v, r, rfl, zA9 H c d t v ((fA2 cs ds _).trans hle) h1, pA1 H cs ds _ r hle h2⟩
 · exact (hle.ok H.ok).elim
end
theorem wB8 (H : Tgt pn x x' m tf) (a b : AV) (t : Mt) (v : Value) (hle : (matchA pn m fr' a b t).Le tf) (hr : repA x a v) : repA x' b v := by
 unfold matchA at hle; split at hle
 · unfold repA at hr ⊢; exact zA9 H _ _ _ _ hle hr
 · unfold repA at hr ⊢; obtain ⟨vs, e, h⟩ := hr; exact ⟨vs, e, pA1 H _ _ _ _ hle h⟩
 · unfold repA repC; trivial
 · exact (hle.ok H.ok).elim
theorem cB0 (H : Tgt pn x x' m tf) (s : Slots) (tmp : Nat → Value) (hs : ∀ i, repA x (sget s i) (tmp i)) : ∀ (r : Slots) (t : Mt), (matchS pn m fr' s r t).Le tf → ∀ i v, (i, v) ∈ r → repA x' v (tmp i)
 | (j, u) :: r, t, hle, i, v, hm => by
   cases List.mem_cons.1 hm with
   | inl e =>
     cases e
     exact wB8 H _ _ t _ ((tB3 s r _).trans hle) (hs j)
   | inr e => exact cB0 H s tmp hs r _ hle i v e
theorem hB9 {a b : Blk} {t : Mt} (h : (matchB pn m fr' a b t).ok) : own b = true → own a = true := by
 unfold matchB at h; split at h
 · intro h; cases h
 · split at h
   · intro _; rfl
   · exact h.elim
 · intro _; rfl
 · intro _; rfl
 · intro _; rfl
 · intro _; rfl
 · intro _; rfl
 · intro h; cases h
 · exact h.elim
theorem wB2 {x y : Rx} (hw : y.w = x.w) (h : Keep x.w y.w x.O y.O) {e : TypeId} {u : Ty} {xss : List (List u.den)} {vs : List Value} (k : famRep x e u xss vs) : famRep y e u xss vs where
 len := k.len
 row := fun i xs v h1 h2 => by
  obtain ⟨k1, flat, k2, k3⟩ := k.row i xs v h1 h2; exact ⟨k1, flat, by rw [hw]; exact k2, fA0 (hA0 h u) _ _ k3⟩
 inj := k.inj
theorem gB2 {x y : Rx} (h : Keep x.w y.w x.O y.O) {kt : Ty} {ka : Bool} {hole : Option Nat} {ks : List kt.den} {es : List MapEntry} {vs : List Value} (k : mapgRep x kt ka hole ks es vs) : mapgRep y kt ka hole ks es vs where
 len := k.len
 lenv := k.lenv
 at_ := fun i a en v h1 h2 h3 => by
  obtain ⟨k1, k2, kvs, k3, k4⟩ := k.at_ i a en v h1 h2 h3; exact ⟨k1, k2, kvs, k3, hA0 h _ _ _ k4⟩
theorem iA3 {x y : Rx} (h : Keep x.w y.w x.O y.O) {kt vt : Ty} {ka va : Bool} : ∀ (l : List (kt.den × vt.den)) (es : List MapEntry), mapRep x kt vt ka va l es → mapRep y kt vt ka va l es
 | [], _, k => k
 | _ :: l, _, ⟨e, r, ks, vs, he, e1, k1, e2, k2, k3⟩ => ⟨e, r, ks, vs, he, e1, hA0 h _ _ _ k1, e2, hA0 h _ _ _ k2, iA3 h l r k3⟩
theorem iB5 (H : Tgt pn x x' m tf) {i id : Nat} (eσ : x'.σ i = x.σ id) (b : Blk) (t : Mt) (hle : (matchB pn m fr' (m id) b t).Le tf) (hr : repB x id (m id)) : repB x' i b := by
 have hok := hle.ok H.ok; generalize m id = a at *; unfold matchB at hle hok; split at hle <;> try simp only at hok
 · trivial
 · rename_i e cs e' ds; split at hle
   · rename_i he; obtain ⟨bl, vs, h1, h2, h3, h4⟩ := hr; exact ⟨bl, vs, by rw [eσ]; exact h1, by rw [H.w, ← he]; exact h2, pA1 H _ _ _ _ hle h3, h4⟩
   · rename_i he; rw [if_neg he] at hok; exact hok.elim
 · rename_i e u xs e' v ys; split at hle
   · rename_i he; rw [if_pos he] at hok; obtain ⟨e2, he2⟩ := bA2 hok.1; subst e2; subst he2; subst he; obtain ⟨n, flat, h1, h2, h3⟩ := hr; exact ⟨n, flat, h1, by rw [H.w, eσ]; exact h2, fA0 (hA0 H.keep _) _ _ h3⟩
   · rename_i he; rw [if_neg he] at hok; exact hok.elim
 · rename_i e u xss e' v yss; split at hle
   · rename_i he; rw [dif_pos he] at hok; obtain ⟨h1, h2⟩ := he; subst h1; subst h2; have hl : xss = yss := hok.1; subst hl; obtain ⟨f, vs, g1, g2⟩ := hr; exact ⟨f, vs, by rw [eσ]; exact g1, wB2 H.w H.keep g2⟩
   · rename_i he; rw [dif_neg he] at hok; exact hok.elim
 · rename_i k ka fid ks k' ka' fid' ks'; split at hle
   · rename_i he; rw [dif_pos he] at hok; obtain ⟨h1, h2⟩ := he; subst h1; subst h2; obtain ⟨e', hn⟩ := H.σ fid' fid (hle.mp H.ok pn fid' fid (qA2 hok)); have hl : ks = ks' := ((aA4 pn fr' fid fid' ⟨ks = ks' ∧ t.ok, t.mp, t.vw⟩).ok hok).1; subst hl; obtain ⟨r, es, f, vs, g1, g2, g3, g4, g5⟩ := hr; exact ⟨r, es, f, vs, by rw [eσ]; exact g1, by rw [H.w]; exact g2, hn, by rw [e']; exact g4, gB2 H.keep g5⟩
   · rename_i he; rw [dif_neg he] at hok; exact hok.elim
 · rename_i e u p fid xs e' v p' fid' ys; split at hle
   · rename_i he; rw [dif_pos he] at hok; obtain ⟨h1, h2, h3⟩ := he; subst h1; subst h2; subst h3; obtain ⟨e', hn⟩ := H.σ fid' fid (hle.mp H.ok pn fid' fid (qA2 hok)); have hl : xs = ys := ((aA4 pn fr' fid fid' ⟨xs = ys ∧ t.ok, t.mp, t.vw⟩).ok hok).1; subst hl; obtain ⟨f, vs, flat, g1, g2, g3, g4, g5⟩ := hr; exact ⟨f, vs, flat, hn, by rw [e']; exact g2, g3, by rw [H.w, eσ]; exact g4, fA0 (fA1 H.keep) _ _ g5⟩
   · rename_i he; rw [dif_neg he] at hok; exact hok.elim
 · rename_i k v ka va l k' v' ka' va' l'; split at hle
   · rename_i he; rw [dif_pos he] at hok; obtain ⟨h1, h2, h3, h4⟩ := he; subst h1; subst h2; subst h3; subst h4; obtain ⟨r, es, cl, g1, g2, g3, g4⟩ := hr; have hl : l = l' := hok.1; subst hl; refine ⟨r, es, cl, by rw [eσ]; exact g1, by rw [H.w]; exact g2, ?_, g4⟩; exact iA3 H.keep l _ g3
   · rename_i he; rw [dif_neg he] at hok; exact hok.elim
 · rename_i cs ds; obtain ⟨bl, vs, h1, h2, h3⟩ := hr; exact ⟨bl, vs, by rw [eσ]; exact h1, pA1 H _ _ _ _ hle h2, h3.keep H.keep⟩
 · exact hok.elim
end
/-! ### the state -/
section
variable {cx cx' : Cx} {σ : Nat → Value} {N : Nat → Prop} {m : Mem} {w : World} {s : Nat → AV} {n : Nat} {a : Act}
def sigOf (pn : Nat) (σ : Nat → Value) (mp : List (Nat × Nat)) : Nat → Value := fun i => match mpGet pn mp i with
 | some id => σ id
 | none => σ 0
theorem lD2 {pn fr' : Nat} {t : Mt} (hj : t.J pn fr') (hok : t.ok) {i j id : Nat} (hi : mpGet pn t.mp i = some id) (hjj : mpGet pn t.mp j = some id) : i = j := by
 obtain ⟨hnd, hge⟩ := hj hok; unfold mpGet at hi hjj; split at hi <;> split at hjj
 · cases hi; cases hjj; rfl
 · rename_i h1 h2; cases hi; have := (hge _ (jA1 hjj)).2; simp only at this; omega
 · rename_i h1 h2; cases hjj; have := (hge _ (jA1 hi)).2; simp only at this; omega
 have h1 := jA1 hi; have h2 := jA1 hjj; clear hge; generalize t.mp = l at *; clear hi hjj
 induction l with
 | nil => cases h1
 | cons p l ih =>
   rw [List.map_cons, List.nodup_cons] at hnd
   rcases List.mem_cons.1 h1 with e1 | e1 <;> rcases List.mem_cons.1 h2 with e2 | e2
   · rw [← e1] at e2; cases e2; rfl
   · rw [← e1] at hnd; exact absurd (List.mem_map.2 ⟨_, e2, rfl⟩) hnd.1
   · rw [← e2] at hnd; exact absurd (List.mem_map.2 ⟨_, e1, rfl⟩) hnd.1
   · exact ih hnd.2 e1 e2
theorem yB3 {pn fr' : Nat} : ∀ (r : Heap) (t : Mt), (matchM pn m fr' r t).ok → ∀ i b, (i, b) ∈ r → ∃ t' id, mpGet pn t'.mp i = some id ∧ (matchB pn m fr' (m id) b t').Le (matchM pn m fr' r t) ∧ t'.Le (matchM pn m fr' r t)
 | (j, c) :: r, t, hok, i, b, hm => by
   simp only [matchM] at hok ⊢; split at hok
   · rename_i id hid
     cases List.mem_cons.1 hm with
     | inl e => cases e; exact ⟨t, id, hid, vA5 r _, (vB2 _ _ _).trans (vA5 r _)⟩
     | inr e => exact yB3 r _ hok i b e
   · exact hok.elim
theorem gA2 {α : Type} {d : α} : ∀ (l : List (Nat × α)) (i : Nat), getL d l i = d ∨ (i, getL d l i) ∈ l
 | [], _ => .inl rfl
 | (k, v) :: l, i => by
   simp only [getL]; split
   · rename_i e; rw [e]; exact .inr List.mem_cons_self
   · exact (gA2 l i).imp id (List.mem_cons_of_mem _)
theorem yB2 {t : Ty} {xs : List t.den} {id : Nat} (hv : view m t (.row id) = some xs) : ∃ u ys, (settle m id).2 = .settled u ys ∧ castTy u t ys = some xs := by
 simp only [view] at hv; unfold settle; split at hv
 · rename_i e u ys hm; exact ⟨u, ys, by simp [hm], hv⟩
 · rename_i u ys hm; exact ⟨u, ys, by simp [hm], hv⟩
 · cases hv
theorem RepM.serve (h : RepM cx σ N m w) {pn fr' : Nat} {m' : Mem} {tf : Mt} (f : Nat → Option Nat) (hok : tf.ok)
 (hat : ∀ i, m' i ≠ .dead → ∃ t' id, f i = some id ∧ (matchB pn m fr' (m id) (m' i) t').Le tf)
 (hfm : ∀ i id, mpGet pn tf.mp i = some id → f i = some id) (hlt : ∀ i id, f i = some id → i < fr') (hinj : ∀ i j id, f i = some id → f j = some id → i = j)
 (hvw : ∀ id ∈ tf.vw, ∀ i, f i ≠ some id)
 (hF : ∀ b, cx'.F b → cx.F b ∨ ∃ id, own (m id) = true ∧ hb (σ id) b ∧ id ∉ tf.vw ∧ ∀ i, f i ≠ some id)
 (hlow : ∀ id b, own (m id) = true → hb (σ id) b → (∃ i, f i = some id) → cx'.w0.heap.size ≤ b ∨ cx'.Mu b) (hevo : Evo cx' w)
 {σ' : Nat → Value} (hσ : ∀ i id, f i = some id → σ' i = σ id) (hone : ∀ i, (σ' i).oneCell' = true) (hfix : ∀ i, i < cx'.np → ¬ From fr' i ∧ σ' i = cx'.arg i) (hmk : ∀ D, D ∈ cx'.mks → w.heap[D]? = some (.deferred (some []))) (hgl : GlOk cx') :
 RepM cx' σ' (From fr') m' w ∧ Tgt pn (rx cx σ N (updM m (tf.vw.map (settle m))) w) (rx cx' σ' (From fr') m' w) m tf := by
 have hu : ∀ id, updM m (tf.vw.map (settle m)) id = if id ∈ tf.vw then (settle m id).2 else m id := fun id => zA0 m tf.vw m id (fun i _ => .inl rfl)
 obtain ⟨h2, _⟩ := h.settles tf.vw; have own' : ∀ i, own (m' i) = true → ∃ id, f i = some id ∧ own (m id) = true ∧ σ' i = σ id := by
  intro i hi; obtain ⟨t', id, h1, h3⟩ := hat i (fun e => by rw [e] at hi; cases hi); exact ⟨id, h1, hB9 (h3.ok hok) hi, hσ i id h1⟩
 have nvw : ∀ i id, f i = some id → id ∉ tf.vw := fun i id hi hm => hvw id hm i hi; have T : Tgt pn (rx cx σ N (updM m (tf.vw.map (settle m))) w) (rx cx' σ' (From fr') m' w) m tf := by
  refine ⟨rfl, fun b hb => ?_, fun i id hi => ⟨hσ i id (hfm i id hi), fun hf => ?_⟩, fun id hid u xs hv => ?_, hok⟩
  · rcases hb with hb | ⟨i, ho, hb⟩
    · rcases hF b hb with h1 | ⟨id, h1, h2, h3, _⟩
      · exact .inl h1
      · exact .inr ⟨id, by rw [hu, if_neg h3]; exact h1, h2⟩
    · obtain ⟨id, h1, h2, h3⟩ := own' i ho; exact .inr ⟨id, by rw [hu, if_neg (nvw i id h1)]; exact h2, by rw [← h3]; exact hb⟩
  · have := hlt i id (hfm i id hi); unfold rx From at hf; simp only at hf; omega
  · obtain ⟨u', ys, e1, e2⟩ := yB2 hv; obtain ⟨e3, e4⟩ := bA2 e2; subst e3; subst e4; have := h2.blk id; rw [hu, if_pos hid, e1] at this; exact this
 have blk : ∀ i id (t' : Mt), f i = some id → (matchB pn m fr' (m id) (m' i) t').Le tf → repB (rx cx' σ' (From fr') m' w) i (m' i) := by
  intro i id t' h1 h3; have hb := h2.blk id; rw [hu, if_neg (nvw i id h1)] at hb; exact iB5 T (hσ i id h1) _ t' h3 hb
 refine ⟨⟨fun i => ?_, fun i hi => ?_, fun i j b ho ho' hb hb' => ?_, fun i b ho hb => ?_, fun i b ho hb => ?_, hevo, fun b hb => ?_, hone, hfix, hmk, hgl⟩, T⟩
 · by_cases hd : m' i = .dead
   · rw [hd]; trivial
   · obtain ⟨t', id, h1, h3⟩ := hat i hd; exact blk i id t' h1 h3
 · by_cases hd : m' i = .dead
   · exact hd
   · obtain ⟨t', id, h1, _⟩ := hat i hd; have := hlt i id h1; unfold From at hi; omega
 · obtain ⟨id, h1, h2, h3⟩ := own' i ho; obtain ⟨jd, g1, g2, g3⟩ := own' j ho'; rw [h3] at hb; rw [g3] at hb'; have := h.inj id jd b h2 g2 hb hb'; subst this; exact hinj i j id h1 g1
 · obtain ⟨id, h1, h2, h3⟩ := own' i ho; rw [h3] at hb; intro hf
   rcases hF b hf with k1 | ⟨jd, k1, k2, _, k4⟩
   · exact h.notF id b h2 hb k1
   · have := h.inj id jd b h2 k1 hb k2; subst this; exact k4 i h1
 · obtain ⟨id, h1, h2, h3⟩ := own' i ho; rw [h3] at hb; exact hlow id b h2 hb ⟨i, h1⟩
 · rcases hF b hb with k1 | ⟨jd, k1, k2, _, _⟩
   · exact h.hF b k1
   · exact xA3 (h.blk jd) k1 b k2
theorem RepM.ent (h : RepM cx σ N m w) (hnp : cx.np ≤ 32) {s : Slots} {s' : Slots} {m' : Heap} {fr' : Nat} (he : ent s m fr' s' m') (tmp : Nat → Value) (hs : ∀ i, repA (rx cx σ N m w) (sget s i) (tmp i)) :
 ∃ σ', RepM cx σ' (From fr') (mem m') w ∧ (∀ i, repA (rx cx σ' (From fr') (mem m') w) (sget s' i) (tmp i)) ∧ (∀ b, Owned cx σ' (mem m') b → Owned cx σ m b) := by
 unfold Ev.ent mOk at he; generalize hq : matchM 32 m fr' m' (matchS 32 m fr' s s' ⟨True, [], []⟩) = tf at he; obtain ⟨⟨hfr, hv⟩, hok⟩ := he; have hj : (matchS 32 m fr' s s' ⟨True, [], []⟩).J 32 fr' := bB7 s s' _ (fun _ => ⟨by simp, fun _ hp => by cases hp⟩); have hjf : tf.J 32 fr' := by rw [← hq]; exact jB8 _ _ hj
 have hvw : ∀ id ∈ tf.vw, ∀ i, mpGet 32 tf.mp i ≠ some id := by
  intro id hid i hi; have := List.all_eq_true.1 hv id hid; simp only [Bool.and_eq_true, decide_eq_true_eq, Bool.not_eq_true'] at this; unfold mpGet at hi; split at hi
  · cases hi; omega
  · have h3 := this.2; rw [List.contains_iff_mem.2 (List.mem_map.2 ⟨_, jA1 hi, rfl⟩)] at h3; cases h3
 have hlt : ∀ i id, mpGet 32 tf.mp i = some id → i < fr' := by
  intro i id hi; unfold mpGet at hi; split at hi
  · omega
  · exact ((hjf hok).2 _ (jA1 hi)).1
 obtain ⟨h1, T⟩ := h.serve (cx' := cx) (pn := 32) (fr' := fr') (m' := mem m') (tf := tf) (fun i => mpGet 32 tf.mp i) hok (fun i hi => by
  rcases gA2 (d := .dead) m' i with e | e
  · exact absurd e hi
  · obtain ⟨t', id, h1, h2, h3⟩ := yB3 m' _ (hq ▸ hok) i _ e; rw [hq] at h2 h3; exact ⟨t', id, h3.mp hok 32 i id h1, h2⟩) (fun i id h => h) hlt (fun i j id hi hjj => lD2 hjf hok hi hjj) hvw (fun b hb => .inl hb) (fun id b ho hb _ => h.low id b ho hb) h.evo
  (σ' := sigOf 32 σ tf.mp) (fun i id hi => by simp only [sigOf, hi]) (fun i => by unfold sigOf; split; exact h.hone _; exact h.hone 0)
  (fun i hi => ⟨fun hf => by unfold From at hf; omega, by
    have : mpGet 32 tf.mp i = some i := by unfold mpGet; rw [if_pos (by omega)]
    simp only [sigOf, this]; exact (h.fix i hi).2⟩) h.mks h.gl
 obtain ⟨_, k2⟩ := h.settles tf.vw; refine ⟨_, h1, fun i => ?_, fun b hb => ?_⟩
 · rcases gA2 (d := AV.one .undef) s' i with e | e
   · unfold sget; rw [e]; unfold repA repC; trivial
   · exact cB0 T s tmp (fun i => pA0 k2 _ _ (hs i)) s' ⟨True, [], []⟩ (hq ▸ vA5 _ _) i _ e
 · rcases T.O b hb with h1 | ⟨i, ho, hb⟩
   · exact .inl h1
   · refine .inr ⟨i, ?_, hb⟩; rw [zA0 m tf.vw m i (fun i _ => .inl rfl)] at ho; split at ho
     · exact tA1 m i ho
     · exact ho
theorem RepF.ent {s : Slots} {s' : Slots} {m' : Heap} {fr' : Nat} (h : RepF cx σ N (sget s) m n a w) (hnp : cx.np ≤ 32) (he : ent s m fr' s' m') : ∃ σ', RepF cx σ' (From fr') (sget s') (mem m') n a w := by
 obtain ⟨σ', h1, h2, _⟩ := h.mm.ent hnp he (fun i => a.tmps.getD i undef) h.ss; exact ⟨σ', h1, h2, h.df, h.sz, h.fx⟩
end
end Go.Ev

namespace Go.Ev
open Go.RowKit
theorem GrowN.alloc (B : Nat) (W : World) (o : Obj) : GrowN B W (W.alloc o) := ⟨none, World.grownBy_alloc W o none, Nat.le_refl _, fun r e => by cases e⟩
theorem GrowN.put {B : Nat} {W : World} {l : Nat} {o : Obj} (o' : Obj) (hB : B ≤ l) (h : W.heap[l]? = some o) (ho : datB o = false) : GrowN B W (W.putObj l o') :=
 ⟨some l, grownBy_putObj' W l o', Nat.le_refl _, fun r e => by cases e; exact ⟨hB, o, h, ho⟩⟩
theorem GrowN.keep {B : Nat} {A C : World} (h : GrowN B A C) {k : Nat} {o : Obj} (hk : A.heap[k]? = some o) (hl : k < B) : C.heap[k]? = some o := by
 obtain ⟨row, hg, _, hr⟩ := h; refine (hg.block k (Array.getElem?_eq_some_iff.1 hk).1 fun e => ?_).trans hk; have := (hr k e.symm).1; omega
theorem GrowN.mono {B B' : Nat} {A C : World} (h : GrowN B A C) (hb : B' ≤ B) : GrowN B' A C := by
 obtain ⟨row, hg, hd, hr⟩ := h; exact ⟨row, hg, hd, fun r e => ⟨Nat.le_trans hb (hr r e).1, (hr r e).2⟩⟩
end Go.Ev

namespace Go.Ev
def Ex.to : Ex → Exit
 | .normal => .normal
 | .ret => .ret
 | .exit id => .exit id
section
variable {cx : Cx} {σ : Nat → Value} {N : Nat → Prop} {n : Nat} {P : Program} {T : Tab} {G : Env} {ks : Nat}
theorem dA6 (ks : Nat) : ∀ (s : Slots) (i : Nat), sget (keepL ks s) i = sget s i ∨ sget (keepL ks s) i = .one .undef
 | [], i => .inr rfl
 | (k, v) :: l, i => by
   simp only [keepL]; by_cases e : k = i
   · subst e; split
     · exact .inl (by simp [sget, getL])
     · rename_i hc; refine .inr ?_; clear v
       induction l with
       | nil => rfl
       | cons p l ih =>
         obtain ⟨j, u⟩ := p; simp only [keepL]; split
         · rename_i hj; have : ¬ j = k := fun e => by subst e; exact hc hj
           simp only [sget, getL, if_neg this]; exact ih
         · exact ih
   · split
     · simp only [sget, getL, if_neg e]; exact dA6 ks l i
     · rw [show sget ((k, v) :: l) i = sget l i by simp only [sget, getL, if_neg e]]; exact dA6 ks l i
theorem RepF.keepL {s : Slots} {m : Mem} {a : Act} {w : World} (h : RepF cx σ N (sget s) m n a w) : RepF cx σ N (sget (Ev.keepL ks s)) m n a w := by
 refine ⟨h.mm, fun i => ?_, h.df, h.sz, h.fx⟩
 rcases dA6 ks s i with e | e
 · rw [e]; exact h.ss i
 · rw [e]; unfold repA repC; trivial
theorem vA8 {F : Fence} {nn : Nat} {c : Code} {Q : Exit → Act → World → Prop} : ∀ {k k' : Nat} {a : Act} {w : World}, k ≤ k' → Code.roundsIn F nn P c Q k a w → Code.roundsIn F nn P c Q k' a w
 | 0, _, _, _, _, h => h.elim
 | k + 1, 0, _, _, hl, _ => by omega
 | k + 1, k' + 1, a, w, hl, h => by
   rw [roundsIn_succ] at *; exact wpIn_mono h (fun e a w q => by
    cases e <;> first
     | exact vA8 (by omega) q
     | exact q)
theorem bC0 {F : Fence} {nn : Nat} {c : Code} {Q : Exit → Act → World → Prop} {a : Act} {w : World} (h : c.wpIn F nn P (fun e a w => (∀ l, e ≠ .goto l) ∧ Q e a w) a w) : (Code.scope c).wpIn F nn P Q a w := by
 intro b k cs hro hb hr; have h0 : (lone (b.atR a (.code (.scope c) :: k)) cs w).fenced P F := fenced_calm hb hr rfl; have s0 : step P (lone (b.atR a (.code (.scope c) :: k)) cs w) = .next (lone (b.atR a (.code c :: .inScope c :: k)) cs w) := step_lone_go (by simp [stepG, stepG.exec, Frame.atR]); obtain ⟨e, a₁, w₁, ⟨hg, hq⟩, harr⟩ := h b (.inScope c :: k) cs hro hb hr; have s1 : step P (lone (b.atR a₁ (.inScope c :: k)) cs w₁) = .next (lone (b.atR a₁ k) cs w₁) := step_lone_go (by simp [stepG, stepG.exec, Frame.atR])
 cases e with
 | normal => exact ⟨.normal, a₁, w₁, hq, .head h0 s0 (StepsIn.trans harr (.one (fenced_calm hb hr rfl) s1))⟩
 | exit id =>
   have hx : exitTo id (.inScope c :: k) = exitTo id k := by simp [exitTo]
   exact ⟨.exit id, a₁, w₁, hq, fun k' hk => .head h0 s0 (harr.1 k' (by rw [hx]; exact hk)),
    fun hr' hk => let ⟨k₁, h1, h2⟩ := harr.2 hr' (by rw [hx]; exact hk); ⟨k₁, h1, .head h0 s0 h2⟩⟩
 | goto l => exact absurd rfl (hg l)
 | ret => exact ⟨_, a₁, w₁, hq, .of_steps (.one h0 s0) harr⟩
 | panic ch => exact ⟨_, a₁, w₁, hq, .of_steps (.one h0 s0) harr⟩
 | outgrown => exact ⟨_, a₁, w₁, hq, .of_steps (.one h0 s0) harr⟩
def MkOk (cx : Cx) (mk : List Nat) : Prop := mk.Nodup ∧ ∀ D ∈ mk, cx.w0.heap.size ≤ D
def OffOk (F : Fence) (nn : Nat) (cx : Cx) (c : Code) : Prop :=
 (F = Fence.wide ∧ nn = 3 ∧ ∀ d, cx.tm d = none) ∨ (∃ L, offC L c = true ∧ ∀ d v, cx.tm d = some v → d ∈ L)
def EvS (D : Prop) (gv : GVs) (P : Program) (T : Tab) (G : Env) (ks n : Nat) (c : Code) : Prop :=
 ∀ (cx : Cx) (F : Fence) (nn : Nat) (st : St) (K : Ex → St → Prop) (Q : Exit → Act → World → Prop) (a : Act) (w : World) (σ : Nat → Value), (cx.D = D ∧ cx.gv = gv) → cx.np ≤ 32 → WideF F → OffOk F nn cx c → fineC n c = true → MkOk cx cx.mks →
   ev T G ks c st K → RepF cx σ (From st.fr) (sget st.s) (mem st.m) n a w →
   (∀ e st' a' w' σ' mk, K e st' → MkOk cx mk → (F.round = none ∨ mk = cx.mks) → RepF { cx with mks := mk } σ' (From st'.fr) (sget st'.s) (mem st'.m) n a' w' → Q e.to a' w') → c.wpIn F nn P Q a w
theorem lD3 {F : Fence} {nn : Nat} {id : Nat} {ops : Array Oper} {dr : Bool} (h : OffOk F nn cx (.region id ops dr)) (hf : fineC n (.region id ops dr) = true) : ∀ o ∈ ops.toList, Fo cx n o := by
 intro o ho; refine ⟨List.all_eq_true.1 (by simpa [fineC] using hf) o ho, fun d hd => ?_⟩
 rcases h with ⟨_, _, h⟩ | ⟨L, h1, h2⟩
 · exact h d
 · cases ht : cx.tm d with
   | none => rfl
   | some v =>
     have h3 : offO L o = true := List.all_eq_true.1 (by simpa [offC] using h1) o ho; have h4 := h2 d v ht; simp only [offO, hd, Bool.not_eq_true'] at h3; rw [List.contains_iff_mem.2 h4] at h3; cases h3
theorem OffOk.l {F : Fence} {nn : Nat} {a b : Code} (h : OffOk F nn cx (.seq a b)) : OffOk F nn cx a ∧ OffOk F nn cx b := by
 rcases h with h | ⟨L, h1, h2⟩
 · exact ⟨.inl h, .inl h⟩
 · simp only [offC, Bool.and_eq_true] at h1; exact ⟨.inr ⟨L, h1.1, h2⟩, .inr ⟨L, h1.2, h2⟩⟩
theorem OffOk.c {F : Fence} {nn : Nat} {x : Operand} {a b : Code} (h : OffOk F nn cx (.cond x a b)) : OffOk F nn cx a ∧ OffOk F nn cx b := by
 rcases h with h | ⟨L, h1, h2⟩
 · exact ⟨.inl h, .inl h⟩
 · simp only [offC, Bool.and_eq_true] at h1; exact ⟨.inr ⟨L, h1.1, h2⟩, .inr ⟨L, h1.2, h2⟩⟩
theorem OffOk.b {F : Fence} {nn : Nat} {id : Nat} {a : Code} (h : OffOk F nn cx (.block id a)) : OffOk F nn cx a := by
 rcases h with h | ⟨L, h1, h2⟩
 · exact .inl h
 · exact .inr ⟨L, h1, h2⟩
theorem OffOk.lp {F : Fence} {nn : Nat} {a : Code} (h : OffOk F nn cx (.loop a)) : OffOk F nn cx a := by
 rcases h with h | ⟨L, h1, h2⟩
 · exact .inl h
 · exact .inr ⟨L, h1, h2⟩
theorem OffOk.sc {F : Fence} {nn : Nat} {a : Code} (h : OffOk F nn cx (.scope a)) : OffOk F nn cx a := by
 rcases h with h | ⟨L, h1, h2⟩
 · exact .inl h
 · exact .inr ⟨L, h1, h2⟩
def at_ (cx : Cx) (σ : Nat → Value) (m : Mem) (w : World) (tm : Nat → Option Value) : Cx := ⟨w, cx.F, fun b => ∃ id, own (m id) = true ∧ hb (σ id) b, cx.np, cx.arg, [], tm, cx.D, cx.gv⟩
theorem RepM.base {m : Mem} {w : World} (h : RepM cx σ N m w) (tm : Nat → Option Value) : RepM (at_ cx σ m w tm) σ N m w :=
 ⟨h.blk, h.fresh, h.inj, h.notF, fun id b h1 h2 => .inr ⟨id, h1, h2⟩, ⟨rfl, rfl, rfl, fun _ => Nat.le_refl _, Nat.le_refl _, fun _ _ _ => rfl⟩, h.hF, h.hone, h.fix, (fun _ h => by cases h), h.gl_next rfl rfl (fun b hb => .inl hb) (fun b hb => hb)⟩
theorem uA2 (ht : TabOK P T) {D : Prop} {gv : GVs} (hG : EnvD D gv P G) (hm : P.follows .mixedOrders = true) : ∀ (c : Code), EvS D gv P T G ks n c
 | .skip => fun cx F nn st K Q a w σ hcd hnp hW hoff hf hmk hev h hK => wpIn_skip (hK .normal st a w σ cx.mks hev hmk (.inr rfl) h)
 | .ret => fun cx F nn st K Q a w σ hcd hnp hW hoff hf hmk hev h hK => wpIn_ret (hK .ret st a w σ cx.mks hev hmk (.inr rfl) h)
 | .exit id => fun cx F nn st K Q a w σ hcd hnp hW hoff hf hmk hev h hK => wpIn_exit (hK (.exit id) st a w σ cx.mks hev hmk (.inr rfl) h)
 | .region _ ops false => fun cx F nn st K Q a w σ hcd hnp hW hoff hf hmk hev h hK =>
   xB3 hW ht (hcd.1.symm ▸ hcd.2.symm ▸ hG) (lD3 hoff hf) (fun s m a' w' σ' hk h' => hK .normal ⟨Ev.keepL ks s, m, st.fr + 32 * ops.size⟩ a' w' σ' cx.mks hk hmk (.inr rfl) h'.keepL) hev h
 | .region _ ops true => fun cx F nn st K Q a w σ hcd hnp hW hoff hf hmk hev h hK =>
   yB9 hW (K := fun s m _ => K .normal ⟨Ev.keepL ks s, m, st.fr + 32 * ops.size⟩) ht (hcd.1.symm ▸ hcd.2.symm ▸ hG) hm (lD3 hoff hf) (fun s m a' w' σ' tb hk h' => hK .normal ⟨Ev.keepL ks s, m, st.fr + 32 * ops.size⟩ a' w' σ' cx.mks hk hmk (.inr rfl) h'.keepL) hev h
 | .seq x y => fun cx F nn st K Q a w σ hcd hnp hW hoff hf hmk hev h hK => by
   simp only [fineC, Bool.and_eq_true] at hf; refine wpIn_seq (uA2 ht hG hm x cx F nn st _ _ a w σ hcd hnp hW hoff.l.1 hf.1 hmk hev h (fun e st' a' w' σ' mk hk hmk' hq h' => ?_))
   cases e with
   | normal => exact uA2 ht hG hm y { cx with mks := mk } F nn st' K Q a' w' σ' hcd hnp hW hoff.l.2 hf.2 hmk' hk h' (fun e st2 a2 w2 σ2 mk2 hk2 hm2 hq2 h2 => hK e st2 a2 w2 σ2 mk2 hk2 hm2 (hq.elim .inl (fun e1 => hq2.elim .inl (fun e2 => .inr (e2.trans e1)))) h2)
   | ret => exact hK .ret st' a' w' σ' mk hk hmk' hq h'
   | exit id => exact hK (.exit id) st' a' w' σ' mk hk hmk' hq h'
 | .cond c x y => fun cx F nn st K Q a w σ hcd hnp hW hoff hf hmk hev h hK => by
   simp only [fineC, Bool.and_eq_true] at hf; have hc := sA4 h hf.1.1; simp only [ev] at hev; split at hev
   · rename_i e he; rw [he] at hc; exact wpIn_cond_split (wA3 hc) (fun ht' => uA2 ht hG hm x cx F nn st K Q a w σ hcd hnp hW hoff.c.1 hf.1.2 hmk (hev.1 ht') h hK) (fun hf' => uA2 ht hG hm y cx F nn st K Q a w σ hcd hnp hW hoff.c.2 hf.2 hmk (hev.2 hf') h hK)
   · exact hev.elim
 | .block id b => fun cx F nn st K Q a w σ hcd hnp hW hoff hf hmk hev h hK => by
   simp only [fineC] at hf; refine wpIn_block (uA2 ht hG hm b cx F nn st _ _ a w σ hcd hnp hW hoff.b hf hmk hev h (fun e st' a' w' σ' mk hk hmk' hq h' => ?_))
   cases e with
   | normal => exact hK .normal st' a' w' σ' mk hk hmk' hq h'
   | ret => exact hK .ret st' a' w' σ' mk hk hmk' hq h'
   | exit j =>
     simp only at hk; simp only [Ex.to, Exit.inBlock]; split at hk
     · rename_i e; rw [if_pos e]; exact hK .normal st' a' w' σ' mk hk hmk' hq h'
     · rename_i e; rw [if_neg e]; exact hK (.exit j) st' a' w' σ' mk hk hmk' hq h'
 | .loop b => fun cx F nn st K Q a w σ hcd hnp hW hoff hf hmk hev h hK => by
   simp only [fineC] at hf; obtain ⟨l, ⟨gs, x, hx⟩, hround⟩ := hev; obtain ⟨σ0, h0⟩ := (h.seals gs).ent hnp hx
   have key : ∀ (k : Nat) (x : l.X) (a : Act) (w : World) (σ : Nat → Value) (mk : List Nat), MkOk cx mk → (F.round = none ∨ mk = cx.mks) → l.mu x = k → RepF { cx with mks := mk } σ (From l.fr) (sget (l.s x)) (mem (l.m x)) n a w → Code.roundsIn F nn P b Q (k + 1) a w := by
    intro k
    induction k using Nat.strongRecOn with
    | _ k ih =>
      intro x a w σ mk hmk hq0 hx h
      refine uA2 ht hG hm b { cx with mks := mk } F nn ⟨l.s x, l.m x, l.fr⟩ _ _ a w σ hcd hnp hW hoff.lp hf hmk (hround x) h (fun e st' a' w' σ' mk' hk hmk' hq h' => ?_); have hq' : F.round = none ∨ mk' = cx.mks := hq.elim .inl (fun e1 => hq0.elim .inl (fun e2 => .inr (e1.trans e2)))
      cases e with
      | normal =>
        obtain ⟨y, hy, hlt⟩ := hk; obtain ⟨σ2, h2⟩ := h'.ent hnp hy; have := ih (l.mu y) (by omega) y a' w' σ2 mk' hmk' hq' rfl h2; simp only [Ex.to, Exit.then]
        exact vA8 (by omega) this
      | ret => exact hK .ret st' a' w' σ' mk' hk hmk' hq' h'
      | exit j => exact hK (.exit j) st' a' w' σ' mk' hk hmk' hq' h'
   exact wpIn_loop_rounds _ (key (l.mu x) x a w σ0 cx.mks hmk (.inr rfl) rfl h0)
 | .goto _ => fun cx F nn st K Q a w σ hcd hnp hW hoff hf hmk hev h hK => hev.elim
 | .label _ => fun cx F nn st K Q a w σ hcd hnp hW hoff hf hmk hev h hK => wpIn_label (hK .normal st a w σ cx.mks hev hmk (.inr rfl) h)
 | .refuse _ => fun cx F nn st K Q a w σ hcd hnp hW hoff hf hmk hev h hK => hev.elim
 | .scope b => fun cx F nn st K Q a w σ hcd hnp hW hoff hf hmk hev h hK => bC0 (uA2 ht hG hm b cx F nn st K _ a w σ hcd hnp hW hoff.sc hf hmk hev h (fun e st' a' w' σ' mk h1 h2 h3 h4 => ⟨fun l => by cases e <;> (intro q; cases q), hK e st' a' w' σ' mk h1 h2 h3 h4⟩))
 | .rangeFunc _ _ _ _ => fun cx F nn st K Q a w σ hcd hnp hW hoff hf hmk hev h hK => hev.elim
end
end Go.Ev

namespace Go.Ev
structure Wk where
 T : Tab
 G : Env
 ks : Nat
 K : Ex → St → Prop
inductive Itm where
 | seq (c : Code) | blk (id : Nat) | lp (l : LSpec) (x : l.X) | rf (l : RSpec) (q : List Nat) | sq (c : Code)
def kont (X : Wk) : List Itm → Ex → St → Prop
 | [], e, st => X.K e st
 | .seq c :: r, .normal, st => ev X.T X.G X.ks c st (kont X r)
 | .seq _ :: r, e, st => kont X r e st
 | .blk id :: r, .exit j, st => if j = id then kont X r .normal st else kont X r (.exit j) st
 | .blk _ :: r, e, st => kont X r e st
 | .lp l x :: _, .normal, st => ∃ y, ent st.s (mem st.m) l.fr (l.s y) (l.m y) ∧ l.mu y < l.mu x
 | .lp _ _ :: r, e, st => kont X r e st
 | .rf l q :: _, .normal, st => ∃ y : l.X q, ent (only l.s st.s) (mem st.m) l.fr l.s (l.m q y)
 | .rf l _ :: r, e, st => kont X r e ⟨only l.s st.s, st.m, st.fr⟩
 | .sq c :: r, .normal, st => ev X.T X.G X.ks c st (kont X r)
 | .sq _ :: _, _, _ => False
def evk (X : Wk) (c : Code) (s : Slots) (m : Heap) (fr : Nat) (k : List Itm) : Prop := ev X.T X.G X.ks c ⟨s, m, fr⟩ (kont X k)
def fin (X : Wk) (e : Ex) (s : Slots) (m : Heap) (fr : Nat) (k : List Itm) : Prop := kont X k e ⟨s, m, fr⟩
def evO (X : Wk) (all os : List Oper) (s : Slots) (m : Heap) (fr : Nat) (k : List Itm) : Prop :=
 evOps X.T X.G all fr 0 os s m (fun s m => fin X .normal (keepL X.ks s) m (fr + 32 * os.length) k)
def stX (X : Wk) (all os : List Oper) (o : Oper) (s : Slots) (m : Heap) (fr : Nat) (k : List Itm) : Option Chc → Prop
 | some C => C.pre ∧ ∀ a, C.asm a → evO X all os (putS s o.dst (C.r a)) (setMany m (C.u a)) (fr + 32) k
 | none => let E := stepE X.T X.G all o (sget s) (mem m) fr
   E.pre ∧ (E.asm → evO X all os (putS s o.dst E.r) (setMany m E.u) (fr + 32) k)
def stE (X : Wk) (all os : List Oper) (dst : Option Nat) (s : Slots) (m : Heap) (fr : Nat) (k : List Itm) (E : Eff) : Prop :=
 E.pre ∧ (E.asm → evO X all os (putS s dst E.r) (setMany m E.u) (fr + 32) k)
def evR (X : Wk) (all os : List Oper) (s : Slots) (m : Heap) (fr : Nat) (i : Nat) (acc : List (List Nat × List Nat)) (k : List Itm) : Prop :=
 evD X.T X.G all fr 0 os s m acc (fun s m tb => drawOk all tb = true ∧ fin X .normal (keepL X.ks s) m (fr + 32 * os.length) k)
def stR (X : Wk) (all os : List Oper) (dst : Option Nat) (s : Slots) (m : Heap) (fr : Nat) (i : Nat) (acc : List (List Nat × List Nat)) (k : List Itm) (F : List Nat) (E : Eff) : Prop :=
 E.pre ∧ keysOk F fr E.u = true ∧ (E.asm → evR X all os (putS s dst E.r) (setMany m E.u) (fr + 32) (i + 1) (acc ++ [(F, E.u.map (·.1))]) k)
def cnd (X : Wk) (a b : Code) (s : Slots) (m : Heap) (fr : Nat) (k : List Itm) : AV → Prop
 | .one (.bool e) => (e = true → evk X a s m fr k) ∧ (e = false → evk X b s m fr k)
 | _ => False
section
variable {X : Wk} {s : Slots} {m : Heap} {fr : Nat} {k : List Itm}
theorem zC4 : evk X .skip s m fr k = fin X .normal s m fr k := rfl
theorem dC4 {l : Nat} : evk X (.label l) s m fr k = fin X .normal s m fr k := rfl
theorem zC3 {b : Code} : evk X (.scope b) s m fr k = evk X b s m fr k := rfl
theorem sD1 : evk X .ret s m fr k = fin X .ret s m fr k := rfl
theorem pC6 {id : Nat} : evk X (.exit id) s m fr k = fin X (.exit id) s m fr k := rfl
theorem cC9 {a b : Code} : evk X (.seq a b) s m fr k = evk X a s m fr (.seq b :: k) := by
 unfold evk; show ev _ _ _ a _ _ = ev _ _ _ a _ _; congr 1; funext e st; cases e <;> rfl
theorem pC3 {id : Nat} {b : Code} : evk X (.block id b) s m fr k = evk X b s m fr (.blk id :: k) := by
 unfold evk; show ev _ _ _ b _ _ = ev _ _ _ b _ _; congr 1; funext e st; cases e <;> rfl
theorem bC5 {c : Operand} {a b : Code} : evk X (.cond c a b) s m fr k = cnd X a b s m fr k (opd (sget s) c) := by
 unfold evk; simp only [ev]; generalize opd (sget s) c = v
 cases v with
 | one c => cases c <;> rfl
 | _ => rfl
theorem kB8 {id : Nat} {ops : Array Oper} : evk X (.region id ops false) s m fr k = evO X ops.toList ops.toList s m fr k := by
 unfold evk evO fin; simp only [ev, Array.length_toList]
theorem gC6 {id : Nat} {ops : Array Oper} : evk X (.region id ops true) s m fr k = evR X ops.toList ops.toList s m fr 0 [] k := by
 unfold evk evR fin; simp only [ev, Array.length_toList]
theorem dA9 {T : Tab} {G : Env} {all : List Oper} {K : Slots → Heap → Prop} : ∀ (os : List Oper) (base i : Nat) (s : Slots) (m : Heap), evOps T G all base (i + 1) os s m K = evOps T G all (base + 32) i os s m K
 | [], _, _, _, _ => rfl
 | o :: os, base, i, s, m => by
   have e : base + 32 * (i + 1) = base + 32 + 32 * i := by omega
   simp only [evOps, e, dA9 os]
theorem oB4 {T : Tab} {G : Env} {all : List Oper} {K : Slots → Heap → List (List Nat × List Nat) → Prop} : ∀ (os : List Oper) (base i : Nat) (s : Slots) (m : Heap) (acc : List (List Nat × List Nat)), evD T G all base (i + 1) os s m acc K = evD T G all (base + 32) i os s m acc K
 | [], _, _, _, _, _ => rfl
 | o :: os, base, i, s, m, acc => by
   have e : base + 32 * (i + 1) = base + 32 + 32 * i := by omega
   simp only [evD, e, oB4 os]
theorem aD1 {all : List Oper} : evO X all [] s m fr k = fin X .normal (keepL X.ks s) m fr k := rfl
theorem lC5 {all os : List Oper} {o : Oper} : evO X all (o :: os) s m fr k = stX X all os o s m fr k (altO X.T X.G all o (sget s) (mem m) fr) := by
 unfold evO stX evO; simp only [evOps, dA9, List.length_cons, Nat.mul_zero, Nat.add_zero]; rw [show fr + 32 * (os.length + 1) = fr + 32 + 32 * os.length by omega]; cases altO X.T X.G all o (sget s) (mem m) fr <;> rfl
theorem aC6 {all os : List Oper} {o : Oper} : stX X all os o s m fr k none = stE X all os o.dst s m fr k (stepE X.T X.G all o (sget s) (mem m) fr) := rfl
theorem tC6 {all os : List Oper} {o : Oper} {C : Chc} : stX X all os o s m fr k (some C) = (C.pre ∧ ∀ a, C.asm a → evO X all os (putS s o.dst (C.r a)) (setMany m (C.u a)) (fr + 32) k) := rfl
theorem hD4 {all os : List Oper} {dst : Option Nat} {p q : Prop} {r : AV} {u : Heap} : stE X all os dst s m fr k ⟨p, r, u, q⟩ = (p ∧ (q → evO X all os (putS s dst r) (setMany m u) (fr + 32) k)) := rfl
theorem vC8 {all : List Oper} {i : Nat} {acc : List (List Nat × List Nat)} : evR X all [] s m fr i acc k = (drawOk all acc = true ∧ fin X .normal (keepL X.ks s) m fr k) := rfl
theorem cC6 {all os : List Oper} {o : Oper} {i : Nat} {acc : List (List Nat × List Nat)} : evR X all (o :: os) s m fr i acc k =
 stR X all os o.dst s m fr i acc k (touchX X.G o ((opsOf o.op).map (opd (sget s))) (mem m)) (stepE X.T X.G all o (sget s) (restr (touchX X.G o ((opsOf o.op).map (opd (sget s))) (mem m)) (mem m)) fr) := by
 unfold evR stR evR; simp only [evD, oB4, List.length_cons, Nat.mul_zero, Nat.add_zero]; rw [show fr + 32 * (os.length + 1) = fr + 32 + 32 * os.length by omega]
theorem rD2 {all os : List Oper} {dst : Option Nat} {p q : Prop} {r : AV} {u : Heap} {i : Nat} {acc : List (List Nat × List Nat)} {F : List Nat} : stR X all os dst s m fr i acc k F ⟨p, r, u, q⟩ = (p ∧ keysOk F fr u = true ∧ (q → evR X all os (putS s dst r) (setMany m u) (fr + 32) (i + 1) (acc ++ [(F, u.map (·.1))]) k)) := rfl
theorem mC5 {a b : Code} {e : Bool} : cnd X a b s m fr k (.one (.bool e)) = ((e = true → evk X a s m fr k) ∧ (e = false → evk X b s m fr k)) := rfl
theorem pD0 {c : Code} : fin X .normal s m fr (.seq c :: k) = evk X c s m fr k := rfl
theorem eB6 {c : Code} : fin X .ret s m fr (.seq c :: k) = fin X .ret s m fr k := rfl
theorem dB3 {c : Code} {id : Nat} : fin X (.exit id) s m fr (.seq c :: k) = fin X (.exit id) s m fr k := rfl
theorem lD1 {id : Nat} : fin X .normal s m fr (.blk id :: k) = fin X .normal s m fr k := rfl
theorem oB5 {id : Nat} : fin X .ret s m fr (.blk id :: k) = fin X .ret s m fr k := rfl
theorem uB3 {id j : Nat} : fin X (.exit j) s m fr (.blk id :: k) = if j = id then fin X .normal s m fr k else fin X (.exit j) s m fr k := rfl
theorem pB8 {l : LSpec} {x : l.X} : fin X .ret s m fr (.lp l x :: k) = fin X .ret s m fr k := rfl
theorem iB6 {l : LSpec} {x : l.X} {id : Nat} : fin X (.exit id) s m fr (.lp l x :: k) = fin X (.exit id) s m fr k := rfl
theorem gD0 {e : Ex} : fin X e s m fr [] = X.K e ⟨s, m, fr⟩ := rfl
theorem qC0 {b : Code} (gs : List Nat) (l : LSpec) (x : l.X) (h0 : ent s (sealM gs (mem m)) l.fr (l.s x) (l.m x)) (h : ∀ x, evk X b (l.s x) (l.m x) l.fr (.lp l x :: k)) : evk X (.loop b) s m fr k := by
 refine ⟨l, ⟨gs, x, h0⟩, fun x => ?_⟩; have := h x; unfold evk at this
 have e : (fun (e : Ex) (st' : St) => match e with
  | .normal => ∃ y, ent st'.s (mem st'.m) l.fr (l.s y) (l.m y) ∧ l.mu y < l.mu x
  | .ret => kont X k .ret st'
  | .exit j => kont X k (.exit j) st') = kont X (.lp l x :: k) := by
  funext e st; cases e <;> rfl
 rw [← e] at this; exact this
theorem cA0 {b : Code} (l : LSpec) (x : l.X) (h0 : ent s (mem m) l.fr (l.s x) (l.m x)) (h : ∀ x, evk X b (l.s x) (l.m x) l.fr (.lp l x :: k)) : evk X (.loop b) s m fr k := qC0 [] l x h0 h
theorem dA0 {l : LSpec} {x : l.X} (y : l.X) (h : ent s (mem m) l.fr (l.s y) (l.m y)) (hm : l.mu y < l.mu x) : fin X .normal s m fr (.lp l x :: k) := ⟨y, h, hm⟩
theorem dD3 {c : Code} : fin X .normal s m fr (.sq c :: k) = evk X c s m fr k := rfl
theorem oB9 {l : RSpec} {q : List Nat} : fin X .ret s m fr (.rf l q :: k) = fin X .ret (only l.s s) m fr k := rfl
theorem yB5 {l : RSpec} {q : List Nat} {id : Nat} : fin X (.exit id) s m fr (.rf l q :: k) = fin X (.exit id) (only l.s s) m fr k := rfl
end
end Go.Ev
