/- A region that draws its order: one walk in the text's order serves every order. -/
import Derived.Test.YteheklpenjjfaaaGreatEvG8ToReg
import Derived.OrdersIn
set_option linter.unusedSimpArgs false
set_option linter.unusedVariables false
namespace Go.Ev

section
variable {F : Fence} {nn : Nat} {cx : Cx} {σ : Nat → Value} {N : Nat → Prop} {s : Nat → AV} {m : Mem} {n : Nat} {a : Act} {w : World} {P : Program} {T : Tab} {G : Env} {ops : Array Oper} {base fr : Nat} {tb : List (List Nat × List Nat)}

theorem wpOp_ex {i : Nat} {o : Oper} {K : Act → World → Prop} (hi : ops[i]? = some o) (h : wpOpIn Fence.wide nn P ops (fun _ _ _ => False) i K a w) : ∃ a' w', K a' w' := by
 unfold wpOpIn at h
 simp only [hi] at h
 split at h
 · unfold Oper.wpIn at h
   obtain ⟨_, h⟩ := h
   generalize (o.semAt Fence.wide.round a.eval).run P w = r at h
   cases r with
   | ok q w' =>
     cases q <;> simp only [Oper.uponIn] at h
     case value v => exact ⟨_, _, h⟩
     case skip => exact ⟨_, _, h⟩
     case defer d => exact ⟨_, _, h⟩
     case enter f args =>
      obtain ⟨e, w'', _, hR, _⟩ := h.2.2 [] (room_wide _)
      cases e with
      | returned v => exact ⟨_, _, hR⟩
      | panicked c => exact hR.elim
      | outgrown => obtain ⟨_, _, h⟩ := hR; exact h.elim
     case row row args =>
      obtain ⟨v, w', r, _⟩ := h.2 default [] (room_wide _)
      exact ⟨_, _, r⟩
     case round l f tmps assign body =>
      obtain ⟨e, w'', hR, _⟩ := h.2.2 default [] (room_wide _)
      cases e with
      | returned v => exact ⟨_, _, hR⟩
      | panicked c => exact hR.elim
      | outgrown => obtain ⟨_, _, h⟩ := hR; exact h.elim
   | halt x w' => cases x <;> simp only [Oper.uponIn] at h
 · exact ⟨_, _, h.2⟩

def eff (T : Tab) (G : Env) (ops : List Oper) (base : Nat) (tb : List (List Nat × List Nat)) (i : Nat) (o : Oper) (s : Nat → AV) (m : Mem) : Eff := stepE T G ops o s (restr (fpOf tb i) m) (base + 32 * i)

/-- The operations that are left, in the text's order. -/
def seqH (T : Tab) (G : Env) (ops : Array Oper) (base : Nat) (tb : List (List Nat × List Nat)) (Q : (Nat → AV) → Mem → Prop) : List Nat → (Nat → AV) → Mem → Prop
 | [], s, m => Q s m
 | i :: r, s, m => ∃ o, ops[i]? = some o ∧ (eff T G ops.toList base tb i o s m).pre ∧ (eff T G ops.toList base tb i o s m).u.map (·.1) = kyOf tb i ∧ (∀ k ∈ kyOf tb i, k ∈ fpOf tb i ∨ (base + 32 * i ≤ k ∧ k < base + 32 * i + 32)) ∧
     ((eff T G ops.toList base tb i o s m).asm → seqH T G ops base tb Q r (updS s o.dst (eff T G ops.toList base tb i o s m).r) (updM m (eff T G ops.toList base tb i o s m).u))

/-- The free ids, some operations being left. -/
def Nr (base sz : Nat) (rem : List Nat) : Nat → Prop := fun id => base ≤ id ∧ ((id - base) / 32 ∈ rem ∨ sz ≤ (id - base) / 32)

theorem updM_at {m m' : Mem} {id : Nat} (h : m id = m' id) : ∀ u : Heap, updM m u id = updM m' u id := by
 intro u
 induction u generalizing m m' with
 | nil => exact h
 | cons p u ih =>
   obtain ⟨k, b⟩ := p
   simp only [updM]
   exact ih (by by_cases e : k = id <;> simp [e, h])

theorem step_draw (hW : WideF F) {rem rem' : List Nat} (h : RepF cx σ (Nr base ops.size rem) s m n a w) (ht : TabOK P T) (hG : EnvD cx.D cx.gv P G) {i : Nat} {o : Oper} (hi : ops[i]? = some o) (hf : Fo cx n o)
 (hin : i ∈ rem) (hrem : ∀ j ∈ rem', j ∈ rem ∧ j ≠ i)
 (hky : ∀ k ∈ kyOf tb i, k ∈ fpOf tb i ∨ (base + 32 * i ≤ k ∧ k < base + 32 * i + 32)) (hp : (eff T G ops.toList base tb i o s m).pre) (hu : (eff T G ops.toList base tb i o s m).u.map (·.1) = kyOf tb i)
 {K : Act → World → Prop} {Q : Exit → Act → World → Prop}
 (hK : ∀ a' w' σ', RepF cx σ' (Nr base ops.size rem') (updS s o.dst (eff T G ops.toList base tb i o s m).r) (updM m (eff T G ops.toList base tb i o s m).u) n a' w' → (eff T G ops.toList base tb i o s m).asm → K a' w') :
 wpOpIn F nn P ops Q i K a w := by
 have hi' : i < ops.size := (Array.getElem?_eq_some_iff.1 hi).1
 have hfr : ∀ id, base + 32 * i ≤ id → id < base + 32 * i + 32 → Nr base ops.size rem id := fun id h1 h2 => ⟨by omega, .inl (by rw [show (id - base) / 32 = i by omega]; exact hin)⟩
 have hsub : RepF (sub cx σ m w (fpOf tb i)) σ (Nr base ops.size rem) s (restr (fpOf tb i) m) n a w := ⟨h.mm.sub (fpOf tb i), fun i => repA_keep (keeps_sub _) _ _ (h.ss i), h.df, h.sz, h.fx⟩
 have hkey : ∀ p ∈ (eff T G ops.toList base tb i o s m).u, p.1 ∈ fpOf tb i ∨ (base + 32 * i ≤ p.1 ∧ p.1 < base + 32 * i + 32) := fun p hp => hky p.1 (by rw [← hu]; exact List.mem_map.2 ⟨p, hp, rfl⟩)
 refine step_sound hW hsub hfr ht hG hi hf hp (fun a' w' σ' h' k ha => ?_)
 have hdead : ∀ id, Nr base ops.size rem id → m id = restr (fpOf tb i) m id := fun id hn => by
  rw [h.mm.fresh id hn]; unfold restr; split
  · rw [h.mm.fresh id hn]
  · rfl
 obtain ⟨g1, g2, g3⟩ := h.mm.glue (fpOf tb i) h'.mm k (fun id hs hn => by
  rw [updM_off]
  · unfold restr; rw [hs]; simp
  · intro p hp e
    rcases hkey p hp with h1 | h1
    · rw [e] at h1; rw [List.contains_iff_mem.2 h1] at hs; cases hs
    · exact hn (by rw [← e]; exact hfr _ h1.1 h1.2)) (updM m (eff T G ops.toList base tb i o s m).u)
  (fun id hs => updM_at (by unfold restr; rw [if_pos hs]) _) (fun id hn => updM_at (hdead id hn) _) (fun id hs hn => by
    rw [updM_off]
    intro p hp e
    rcases hkey p hp with h1 | h1
    · rw [e] at h1; rw [List.contains_iff_mem.2 h1] at hs; cases hs
    · exact hn (by rw [← e]; exact hfr _ h1.1 h1.2))
 have hfin : RepF cx σ' (Nx (Nr base ops.size rem) (base + 32 * i)) (updS s o.dst (eff T G ops.toList base tb i o s m).r) (updM m (eff T G ops.toList base tb i o s m).u) n a' w' :=
  ⟨g1, fun j => repA_keep g3 _ _ (h'.ss j), h'.df, h'.sz, h'.fx⟩
 refine hK a' w' σ' (hfin.weaken fun id hid => ?_) ha
 obtain ⟨h1, h2⟩ := hid
 refine ⟨⟨h1, h2.imp (fun hm => (hrem _ hm).1) (fun q => q)⟩, fun hr => ?_⟩
 have e : (id - base) / 32 = i := by omega
 rcases h2 with h2 | h2
 · exact (hrem _ h2).2 e
 · omega

/-! ### what an operation looks at -/

theorem opsOf_looks {ops : List Oper} {o : Oper} {t : Tmp} (h : .tmp t ∈ opsOf o.op) : t ∈ looks ops o := by
 unfold looks
 rw [List.mem_append]
 exact .inl (List.mem_filterMap.2 ⟨_, h, rfl⟩)

theorem opd_congr {s s' : Nat → AV} {x : Operand} (h : ∀ t, x = .tmp t → s t = s' t) : opd s x = opd s' x := by
 cases x with
 | tmp t => exact h t rfl
 | _ => rfl

theorem stepE_congr {ops : List Oper} {o : Oper} {s s' : Nat → AV} {m : Mem} {fr : Nat} (h : ∀ t ∈ looks ops o, s t = s' t) : stepE T G ops o s m fr = stepE T G ops o s' m fr := by
 have e1 : (opsOf o.op).map (opd s) = (opsOf o.op).map (opd s') := List.map_congr_left fun x hx => opd_congr fun t e => h t (opsOf_looks (e ▸ hx))
 unfold stepE
 cases hg : o.guard with
 | none => simp only [e1]
 | some jb =>
   obtain ⟨j, b⟩ := jb
   have e2 : guardC ops s j b = guardC ops s' j b := by
    unfold guardC
    cases hd : (ops[j]?).bind (·.dst) with
    | none => rfl
    | some d =>
      have : s d = s' d := h d (by unfold looks; rw [List.mem_append]; right; simp [hg, hd])
      simp only [this]
   have e3 : guardOk ops s j = guardOk ops s' j := by
    unfold guardOk
    cases hd : (ops[j]?).bind (·.dst) with
    | none => rfl
    | some d =>
      have : s d = s' d := h d (by unfold looks; rw [List.mem_append]; right; simp [hg, hd])
      simp only [this]
   simp only [e1, e2, e3]

theorem eff_congr {ops : List Oper} {o : Oper} {i : Nat} {s s' : Nat → AV} {m m' : Mem} (h : ∀ t ∈ looks ops o, s t = s' t) (hm : ∀ id ∈ fpOf tb i, m id = m' id) : eff T G ops base tb i o s m = eff T G ops base tb i o s' m' := by
 unfold eff
 have : restr (fpOf tb i) m = restr (fpOf tb i) m' := by
  funext id
  unfold restr
  split
  · rename_i hc; exact hm id (List.contains_iff_mem.1 hc)
  · rfl
 rw [this]
 exact stepE_congr h

theorem updS_comm {s : Nat → AV} {d e : Option Nat} {x y : AV} (h : ∀ i j, d = some i → e = some j → i ≠ j) : updS (updS s d x) e y = updS (updS s e y) d x := by
 cases d with
 | none => rfl
 | some i =>
   cases e with
   | none => rfl
   | some j =>
     have := h i j rfl rfl
     funext q
     simp only [updS]
     by_cases e1 : i = q <;> by_cases e2 : j = q <;> simp [e1, e2]
     subst e1; subst e2; exact absurd rfl this

theorem updM_comm {m : Mem} {u v : Heap} (h : ∀ p ∈ u, ∀ q ∈ v, p.1 ≠ q.1) : updM (updM m u) v = updM (updM m v) u := by
 funext id
 by_cases hu : ∃ p ∈ u, p.1 = id
 · obtain ⟨p, hp, e⟩ := hu
   rw [updM_off _ v id (fun q hq e' => h p hp q hq (e.trans e'.symm))]
   exact updM_at (updM_off _ v id (fun q hq e' => h p hp q hq (e.trans e'.symm))).symm u
 · have : ∀ p ∈ u, p.1 ≠ id := fun p hp e => hu ⟨p, hp, e⟩
   rw [updM_off _ u id this]
   exact updM_at (updM_off _ u id this) v

structure Apart (ops : List Oper) (tb : List (List Nat × List Nat)) (i j : Nat) (x y : Oper) : Prop where
 xd : ∀ d, x.dst = some d → d ∉ looks ops y ∧ y.dst ≠ some d
 yd : ∀ d, y.dst = some d → d ∉ looks ops x
 f1 : ∀ k ∈ kyOf tb i, k ∉ fpOf tb j
 f2 : ∀ k ∈ kyOf tb j, k ∉ fpOf tb i
 kk : ∀ k ∈ kyOf tb i, k ∉ kyOf tb j

theorem apartB_spec {ops : List Oper} {i j : Nat} {x y : Oper} (hi : ops[i]? = some x) (hj : ops[j]? = some y) (h : apartB ops tb i j = true) : Apart ops tb i j x y := by
 unfold apartB at h
 simp only [hi, hj, Bool.and_eq_true, apartO, disj, List.all_eq_true] at h
 obtain ⟨⟨⟨⟨h1, h2⟩, h3⟩, h4⟩, h5⟩ := h
 refine ⟨fun d hd => ?_, fun d hd => ?_, fun k hk hm => ?_, fun k hk hm => ?_, fun k hk hm => ?_⟩
 · rw [hd] at h1; simp only [Bool.and_eq_true, Bool.not_eq_true', bne_iff_ne] at h1
   exact ⟨fun hc => by have := h1.1; simp at this; exact this hc, h1.2⟩
 · rw [hd] at h2; simp at h2; exact h2
 · have := h3 k hk; simp at this; exact this hm
 · have := h4 k hk; simp at this; exact this hm
 · have := h5 k hk; simp at this; exact this hm

theorem updS_off {s : Nat → AV} {d : Option Nat} {x : AV} {t : Nat} (h : ∀ e, d = some e → e ≠ t) : updS s d x t = s t := by
 cases d with
 | none => rfl
 | some e => simp only [updS, if_neg (h e rfl)]

/-- The effects of two operations that are apart. -/
theorem Apart.eff_second {i j : Nat} {x y : Oper} (h : Apart ops.toList tb i j x y) (hu : (eff T G ops.toList base tb i x s m).u.map (·.1) = kyOf tb i) :
 eff T G ops.toList base tb j y (updS s x.dst (eff T G ops.toList base tb i x s m).r) (updM m (eff T G ops.toList base tb i x s m).u) = eff T G ops.toList base tb j y s m := by
 refine eff_congr (fun t ht => updS_off fun e he eq => (h.xd e he).1 (eq ▸ ht)) (fun id hid => updM_off _ _ _ fun p hp eq => h.f1 p.1 ?_ (eq ▸ hid))
 rw [← hu]; exact List.mem_map.2 ⟨p, hp, rfl⟩
theorem Apart.eff_first {i j : Nat} {x y : Oper} (h : Apart ops.toList tb i j x y) (hu : (eff T G ops.toList base tb j y s m).u.map (·.1) = kyOf tb j) :
 eff T G ops.toList base tb i x (updS s y.dst (eff T G ops.toList base tb j y s m).r) (updM m (eff T G ops.toList base tb j y s m).u) = eff T G ops.toList base tb i x s m := by
 refine eff_congr (fun t ht => updS_off fun e he eq => h.yd e he (eq ▸ ht)) (fun id hid => updM_off _ _ _ fun p hp eq => h.f2 p.1 ?_ (eq ▸ hid))
 rw [← hu]; exact List.mem_map.2 ⟨p, hp, rfl⟩

variable {Q0 : (Nat → AV) → Mem → Prop}

/-- The operation i may go first. -/
theorem seqH_first {i : Nat} {o : Oper} (hi : ops[i]? = some o) (R : List Nat) : ∀ (J : List Nat) (s : Nat → AV) (m : Mem), (∀ j ∈ J, apartB ops.toList tb j i = true) → seqH T G ops base tb Q0 (J ++ i :: R) s m →
 (eff T G ops.toList base tb i o s m).u.map (·.1) = kyOf tb i → (eff T G ops.toList base tb i o s m).asm →
 seqH T G ops base tb Q0 (J ++ R) (updS s o.dst (eff T G ops.toList base tb i o s m).r) (updM m (eff T G ops.toList base tb i o s m).u)
 | [], s, m, _, h, _, ha => by
   obtain ⟨o', ho', h1, h2, _, h3⟩ := h
   rw [hi] at ho'; cases ho'
   exact h3 ha
 | j :: J, s, m, hap, h, hu, ha => by
   obtain ⟨x, hx, h1, h2, hk, h3⟩ := h
   have hA := apartB_spec (ops := ops.toList) (tb := tb) (x := x) (y := o) (by simpa using hx) (by simpa using hi) (hap j List.mem_cons_self)
   have e1 := hA.eff_first (T := T) (G := G) (base := base) (s := s) (m := m) hu
   have e2 := hA.eff_second (T := T) (G := G) (base := base) (s := s) (m := m) h2
   refine ⟨x, hx, by rw [e1]; exact h1, by rw [e1]; exact h2, hk, fun hasm => ?_⟩
   rw [e1] at hasm ⊢
   have := seqH_first hi R J _ _ (fun q hq => hap q (List.mem_cons_of_mem _ hq)) (h3 hasm) (by rw [e2]; exact hu) (by rw [e2]; exact ha)
   rw [e2] at this
   rw [updS_comm (fun p q hp hq e => (hA.xd p hp).2 (e ▸ hq)), updM_comm (u := (eff T G ops.toList base tb j x s m).u)] at this
   · exact this
   · intro p hp q hq e
     refine hA.kk p.1 ?_ ?_
     · rw [← h2]; exact List.mem_map.2 ⟨p, hp, rfl⟩
     · rw [e, ← hu]; exact List.mem_map.2 ⟨q, hq, rfl⟩

structure DrawOk (ops : Array Oper) (tb : List (List Nat × List Nat)) : Prop where
 d : ∀ i, i < ops.size → ∀ e ∈ dirs ops.toList i, e < i
 a : ∀ i j, i < j → j < ops.size → i ∈ clos ops.toList 8 j ∨ apartB ops.toList tb i j = true

theorem drawOk_spec (h : drawOk ops.toList tb = true) : DrawOk ops tb := by
 unfold drawOk at h
 simp only [List.all_eq_true, List.mem_range, Bool.and_eq_true, Bool.or_eq_true, decide_eq_true_eq, List.contains_iff_mem, Array.length_toList] at h
 refine ⟨fun i hi => (h i hi).1, fun i j hij hj => ?_⟩
 rcases (h i (by omega)).2 j hj with (h1 | h1) | h1
 · omega
 · exact .inl h1
 · exact .inr h1

/-- What holds of an operation behind others that are apart from it holds now. -/
theorem seqH_pre (ht : TabOK P T) (hG : EnvD cx.D cx.gv P G) (hf : ∀ o ∈ ops.toList, Fo cx n o) {i : Nat} {o : Oper} (hi : ops[i]? = some o) (R : List Nat) :
 ∀ (J : List Nat) (s : Nat → AV) (m : Mem) (a : Act) (w : World) (σ : Nat → Value), (J ++ i :: R).Pairwise (· < ·) → (∀ j ∈ J, apartB ops.toList tb j i = true) → seqH T G ops base tb Q0 (J ++ i :: R) s m →
 RepF cx σ (Nr base ops.size (J ++ i :: R)) s m n a w → (eff T G ops.toList base tb i o s m).pre ∧ (eff T G ops.toList base tb i o s m).u.map (·.1) = kyOf tb i ∧ ∀ k ∈ kyOf tb i, k ∈ fpOf tb i ∨ (base + 32 * i ≤ k ∧ k < base + 32 * i + 32)
 | [], s, m, a, w, σ, _, _, h, _ => by
   obtain ⟨o', ho', h1, h2, h3, _⟩ := h
   rw [hi] at ho'; cases ho'
   exact ⟨h1, h2, h3⟩
 | j :: J, s, m, a, w, σ, hsort, hap, h, hr => by
   obtain ⟨x, hx, h1, h2, hk, h3⟩ := h
   have hA := apartB_spec (ops := ops.toList) (tb := tb) (x := x) (y := o) (by simpa using hx) (by simpa using hi) (hap j List.mem_cons_self)
   have e2 := hA.eff_second (T := T) (G := G) (base := base) (s := s) (m := m) h2
   have hlt : j < ops.size := (Array.getElem?_eq_some_iff.1 hx).1
   have hs' := List.pairwise_cons.1 hsort
   have hw := step_draw (F := Fence.wide) (nn := 0) (.inl rfl) (rem' := J ++ i :: R) (Q := fun _ _ _ => False) (K := fun a' w' => ∃ σ', RepF cx σ' (Nr base ops.size (J ++ i :: R)) (updS s x.dst (eff T G ops.toList base tb j x s m).r) (updM m (eff T G ops.toList base tb j x s m).u) n a' w' ∧ (eff T G ops.toList base tb j x s m).asm)
    hr ht hG hx (hf x (by have := Array.mem_of_getElem? hx; simpa using this)) (by simp) (fun q hq => ⟨List.mem_cons_of_mem _ hq, fun e => by have := hs'.1 q hq; omega⟩) hk h1 h2 (fun a' w' σ' h ha => ⟨σ', h, ha⟩)
   obtain ⟨a', w', σ', hr', ha⟩ := wpOp_ex hx hw
   have := seqH_pre ht hG hf hi R J _ _ a' w' σ' hs'.2 (fun q hq => hap q (List.mem_cons_of_mem _ hq)) (h3 ha) hr'
   rw [e2] at this
   exact this

theorem clos_listed {ops : List Oper} {l : Array Bool} (hdown : ∀ i, l.getD i false = true → ∀ e ∈ dirs ops i, l.getD e false = true) : ∀ (f j : Nat), (∀ e ∈ dirs ops j, l.getD e false = true) → ∀ i ∈ clos ops f j, l.getD i false = true
 | 0, _, _, i, hi => by simp [clos] at hi
 | f + 1, j, h, i, hi => by
   simp only [clos, List.mem_eraseDups, List.mem_append, List.mem_flatMap] at hi
   rcases hi with hi | ⟨e, he, hi⟩
   · exact h i hi
   · exact clos_listed hdown f e (fun q hq => hdown e (h e he) q hq) i hi

theorem mem_dirs {i e : Nat} {o : Oper} (hi : ops[i]? = some o) : e ∈ dirs ops.toList i ↔ ∃ d ∈ o.after, Region.binds .any d = true ∧ d.on = e := by
 unfold dirs
 have : ops.toList[i]? = some o := by simpa using hi
 rw [this]
 simp only [List.mem_map, List.mem_filter, Array.mem_toList_iff]
 constructor
 · rintro ⟨d, ⟨h1, h2⟩, h3⟩; exact ⟨d, h1, h2, h3⟩
 · rintro ⟨d, h1, h2, h3⟩; exact ⟨d, ⟨h1, h2⟩, h3⟩

theorem any_sound (hW : WideF F) (ht : TabOK P T) (hG : EnvD cx.D cx.gv P G) (hf : ∀ o ∈ ops.toList, Fo cx n o) (hd : DrawOk ops tb) {Q : Exit → Act → World → Prop}
 (hK : ∀ s m a w σ, Q0 s m → RepF cx σ (Nr base ops.size []) s m n a w → Q .normal a w) :
 ∀ (f : Nat) (rem : List Nat) (l : Array Bool) (s : Nat → AV) (m : Mem) (a : Act) (w : World) (σ : Nat → Value), rem.length = f → rem.Pairwise (· < ·) → l.size = ops.size →
   (∀ i, i ∈ rem ↔ i < ops.size ∧ l.getD i false = false) → (∀ i, l.getD i false = true → ∀ e ∈ dirs ops.toList i, l.getD e false = true) →
   seqH T G ops base tb Q0 rem s m → RepF cx σ (Nr base ops.size rem) s m n a w → wpAnyIn F nn P .any ops Q f l a w := by
 have tf : ∀ (l : Array Bool) (i : Nat), l.size = ops.size → i < ops.size → l.getD i true = l.getD i false := fun l i hl hi => by
  simp [Array.getD_eq_getD_getElem?, Array.getElem?_eq_getElem (show i < l.size by omega)]
 intro f
 induction f with
 | zero =>
   intro rem l s m a w σ hlen hsort hsz hmem hdown hseq hr
   have hnil := List.eq_nil_of_length_eq_zero hlen
   subst hnil
   refine ⟨?_, hK s m a w σ hseq hr⟩
   refine List.eq_nil_iff_forall_not_mem.2 fun i hi => ?_
   obtain ⟨h1, o, ho, _⟩ := mem_ready.1 hi
   have hlt : i < ops.size := (Array.getElem?_eq_some_iff.1 ho).1
   have := (hmem i).2 ⟨hlt, by rw [← tf l i hsz hlt]; exact h1⟩
   cases this
 | succ f ih =>
   intro rem l s m a w σ hlen hsort hsz hmem hdown hseq hr
   refine ⟨fun hnil => ?_, fun i hir => ?_⟩
   · exfalso
     cases rem with
     | nil => simp at hlen
     | cons r0 rest =>
       obtain ⟨hlt, hun⟩ := (hmem r0).1 List.mem_cons_self
       have hin : r0 ∈ Region.ready .any ops l := by
        refine mem_ready.2 ⟨by rw [tf l r0 hsz hlt]; exact hun, ops[r0], by simp [hlt], fun e he hb => ?_⟩
        have hlt' := hd.d r0 hlt e.on ((mem_dirs (by simp [hlt])).2 ⟨e, he, hb, rfl⟩)
        cases hl : l.getD e.on false with
        | true => rfl
        | false =>
          have hm := (hmem e.on).2 ⟨by omega, hl⟩
          rcases List.mem_cons.1 hm with h1 | h1
          · omega
          · have := (List.pairwise_cons.1 hsort).1 _ h1; omega
       rw [hnil] at hin
       cases hin
   · obtain ⟨h1, o, ho, hall⟩ := mem_ready.1 hir
     have hlt : i < ops.size := (Array.getElem?_eq_some_iff.1 ho).1
     have hun : l.getD i false = false := by rw [← tf l i hsz hlt]; exact h1
     have hin : i ∈ rem := (hmem i).2 ⟨hlt, hun⟩
     obtain ⟨J, R, rfl⟩ := List.append_of_mem hin
     have hdi : ∀ e ∈ dirs ops.toList i, l.getD e false = true := fun e he => by
      obtain ⟨d, h1, h2, h3⟩ := (mem_dirs ho).1 he
      rw [← h3]; exact hall d h1 h2
     have hps := List.pairwise_append.1 hsort
     have hpc := List.pairwise_cons.1 hps.2.1
     have hap : ∀ j ∈ J, apartB ops.toList tb j i = true := fun j hj => by
      have hji := hps.2.2 j hj i List.mem_cons_self
      rcases hd.a j i hji hlt with h2 | h2
      · have := clos_listed hdown 8 i hdi j h2
        have h3 := ((hmem j).1 (by simp [hj])).2
        rw [this] at h3; cases h3
      · exact h2
     obtain ⟨hp, hu, hky⟩ := seqH_pre ht hG hf ho R J s m a w σ hsort hap hseq hr
     have hfo : Fo cx n o := hf o (by have := Array.mem_of_getElem? ho; simpa using this)
     have hmem' : ∀ j, j ∈ J ++ R ↔ j ∈ J ++ i :: R ∧ j ≠ i := fun j => by
      simp only [List.mem_append, List.mem_cons]
      constructor
      · rintro (h | h)
        · exact ⟨.inl h, fun e => by have := hps.2.2 j h i List.mem_cons_self; omega⟩
        · exact ⟨.inr (.inr h), fun e => by have := hpc.1 j h; omega⟩
      · rintro ⟨h | h | h, hne⟩
        · exact .inl h
        · exact absurd h hne
        · exact .inr h
     refine step_draw hW (rem' := J ++ R) hr ht hG ho hfo hin (fun j hj => (hmem' j).1 hj) hky hp hu (fun a' w' σ' hr' ha => ?_)
     refine ih (J ++ R) (l.setIfInBounds i true) _ _ a' w' σ' (by simp at hlen ⊢; omega) ?_ (by simp [hsz]) (fun j => ?_) (fun j hj e he => ?_) (seqH_first ho R J s m hap hseq hu ha) hr'
     · exact List.pairwise_append.2 ⟨hps.1, hpc.2, fun x hx y hy => hps.2.2 x hx y (List.mem_cons_of_mem _ hy)⟩
     · rw [hmem' j, hmem j]
       by_cases hji : j = i
       · subst hji
         simp [hsz, hlt]
       · rw [getD_set_ne false (fun e => hji e.symm)]
         simp [hji]
     · by_cases hji : j = i
       · subst hji
         exact getD_set_true (hdi e he)
       · rw [getD_set_ne false (fun e => hji e.symm)] at hj
         exact getD_set_true (hdown j hj e he)

/-! ### from the walk -/

theorem step_virt (h : RepF cx σ (From fr) s m n a w) {F : List Nat} (ht : TabOK P T) (hG : EnvD cx.D cx.gv P G) {i : Nat} {o : Oper} (hi : ops[i]? = some o) (hf : Fo cx n o)
 (hp : (stepE T G ops.toList o s (restr F m) fr).pre) (hkey : keysOk F fr (stepE T G ops.toList o s (restr F m) fr).u = true) :
 ∃ a' w' σ', RepF cx σ' (From (fr + 32)) (updS s o.dst (stepE T G ops.toList o s (restr F m) fr).r) (updM m (stepE T G ops.toList o s (restr F m) fr).u) n a' w' ∧ (stepE T G ops.toList o s (restr F m) fr).asm := by
 have hsub : RepF (sub cx σ m w F) σ (From fr) s (restr F m) n a w := ⟨h.mm.sub F, fun i => repA_keep (keeps_sub _) _ _ (h.ss i), h.df, h.sz, h.fx⟩
 have hk : ∀ p ∈ (stepE T G ops.toList o s (restr F m) fr).u, p.1 ∈ F ∨ (fr ≤ p.1 ∧ p.1 < fr + 32) := fun p hp => by
  have := List.all_eq_true.1 hkey p hp
  simp only [Bool.or_eq_true, Bool.and_eq_true, decide_eq_true_eq, List.contains_iff_mem] at this
  exact this
 refine wpOp_ex (K := fun a' w' => ∃ σ', RepF cx σ' (From (fr + 32)) (updS s o.dst (stepE T G ops.toList o s (restr F m) fr).r) (updM m (stepE T G ops.toList o s (restr F m) fr).u) n a' w' ∧ (stepE T G ops.toList o s (restr F m) fr).asm) hi
  (step_sound (F := Fence.wide) (nn := 0) (.inl rfl) hsub (fun id h1 _ => h1) ht hG hi hf hp (fun a' w' σ' h' k ha => ⟨σ', ?_, ha⟩))
 have hdead : ∀ id, From fr id → m id = restr F m id := fun id hn => by
  rw [h.mm.fresh id hn]; unfold restr; split
  · rw [h.mm.fresh id hn]
  · rfl
 have hoff : ∀ id, F.contains id = false → ¬ From fr id → ∀ p ∈ (stepE T G ops.toList o s (restr F m) fr).u, p.1 ≠ id := by
  intro id hs hn p hp e
  rcases hk p hp with h1 | h1
  · rw [e] at h1; rw [List.contains_iff_mem.2 h1] at hs; cases hs
  · exact hn (by rw [← e]; exact h1.1)
 obtain ⟨g1, g2, g3⟩ := h.mm.glue F h'.mm k (fun id hs hn => by
  rw [updM_off _ _ _ (hoff id hs hn)]
  unfold restr; rw [hs]; simp) (updM m (stepE T G ops.toList o s (restr F m) fr).u)
  (fun id hs => updM_at (by unfold restr; rw [if_pos hs]) _) (fun id hn => updM_at (hdead id hn) _) (fun id hs hn => by
    rw [updM_off _ _ _ (hoff id hs hn)])
 have hfin : RepF cx σ' (Nx (From fr) fr) (updS s o.dst (stepE T G ops.toList o s (restr F m) fr).r) (updM m (stepE T G ops.toList o s (restr F m) fr).u) n a' w' :=
  ⟨g1, fun j => repA_keep g3 _ _ (h'.ss j), h'.df, h'.sz, h'.fx⟩
 exact hfin.weaken fun id hid => ⟨by unfold From at *; omega, by unfold From at *; omega⟩

/-- The walk in the text's order, as a run. -/
theorem evD_seq (ht : TabOK P T) (hG : EnvD cx.D cx.gv P G) {all : Array Oper} (hf : ∀ o ∈ all.toList, Fo cx n o) (K : Slots → Heap → List (List Nat × List Nat) → Prop) :
 ∀ (os : List Oper) (i : Nat) (s : Slots) (m : Heap) (acc : List (List Nat × List Nat)) (a : Act) (w : World) (σ : Nat → Value), (∀ j, os[j]? = all[i + j]?) → i + os.length = all.size → acc.length = i →
   evD T G all.toList base i os s m acc K → RepF cx σ (From (base + 32 * i)) (sget s) (mem m) n a w →
   ∃ tl sF mF, K sF mF (acc ++ tl) ∧ ∀ tb, (∀ j, j < os.length → tl[j]? = tb[i + j]?) → seqH T G all base tb (fun s m => s = sget sF ∧ m = mem mF) (List.range' i os.length) (sget s) (mem m)
 | [], i, s, m, acc, a, w, σ, _, _, _, hev, _ => ⟨[], s, m, by rw [List.append_nil]; exact hev, fun tb _ => ⟨rfl, rfl⟩⟩
 | o :: os, i, s, m, acc, a, w, σ, hos, hl, hacc, hev, h => by
   have h0 : all[i]? = some o := by simpa using (hos 0).symm
   obtain ⟨hp, hk, hev'⟩ := hev
   obtain ⟨a', w', σ', h', ha⟩ := step_virt h ht hG h0 (hf o (by have := Array.mem_of_getElem? h0; simpa using this)) hp hk
   rw [← sget_put, ← mem_setMany] at h'
   obtain ⟨tl, sF, mF, hK, hseq⟩ := evD_seq ht hG hf K os (i + 1) _ _ _ a' w' σ' (fun j => by have := hos (j + 1); simpa [Nat.add_assoc, Nat.add_comm 1 j] using this) (by simp at hl; omega)
    (by rw [List.length_append, hacc]; rfl) (hev' ha) h'
   refine ⟨_ :: tl, sF, mF, by rw [List.append_assoc] at hK; exact hK, fun tb htb => ?_⟩
   have e0 := htb 0 (by simp)
   simp only [List.getElem?_cons_zero, Nat.add_zero] at e0
   have ef : fpOf tb i = touchX G o ((opsOf o.op).map (opd (sget s))) (mem m) := by unfold fpOf; rw [List.getD_eq_getElem?_getD, ← e0]; rfl
   have ek : kyOf tb i = (stepE T G all.toList o (sget s) (restr (touchX G o ((opsOf o.op).map (opd (sget s))) (mem m)) (mem m)) (base + 32 * i)).u.map (·.1) := by unfold kyOf; rw [List.getD_eq_getElem?_getD, ← e0]; rfl
   have ee : eff T G all.toList base tb i o (sget s) (mem m) = stepE T G all.toList o (sget s) (restr (touchX G o ((opsOf o.op).map (opd (sget s))) (mem m)) (mem m)) (base + 32 * i) := by unfold eff; rw [ef]
   have hr := hseq tb (fun j hj => by
    have := htb (j + 1) (by simp; omega)
    simp only [List.getElem?_cons_succ] at this
    rw [this]; congr 1; omega)
   refine ⟨o, h0, ?_⟩
   rw [ee, ek, ef]
   refine ⟨hp, rfl, fun k hkk => ?_, fun _ => ?_⟩
   · obtain ⟨p, hp1, hp2⟩ := List.mem_map.1 hkk
     have := List.all_eq_true.1 hk p hp1
     simp only [Bool.or_eq_true, Bool.and_eq_true, decide_eq_true_eq, List.contains_iff_mem] at this
     rw [← hp2]; exact this
   · rw [← sget_put, ← mem_setMany]; exact hr

theorem RepF.drew (h : RepF cx σ N s m n a w) : RepF cx σ N s m n a { w with drawn := w.drawn + 1 } := by
 obtain ⟨h1, k⟩ := h.mm.step (σ' := σ) (N' := N) (m' := m) (w' := { w with drawn := w.drawn + 1 }) (fun _ => False) (fun _ h => h) (fun id hn => h.mm.fresh id hn) (fun _ _ => ⟨rfl, rfl⟩) (fun _ _ => rfl) (fun _ _ _ => rfl) ⟨Nat.le_refl _, Nat.le_succ _⟩ rfl rfl rfl
  (fun _ _ h => h.elim) (fun _ _ _ h => h.elim) (fun _ h => h.elim) (fun _ _ h => h.elim)
 exact ⟨h1, fun i => repA_keep k _ _ (h.ss i), h.df, h.sz, h.fx⟩

theorem draw_sound (hW : WideF F) (ht : TabOK P T) (hG : EnvD cx.D cx.gv P G) (hm : P.follows .mixedOrders = true) (hf : ∀ o ∈ ops.toList, Fo cx n o) {K : Slots → Heap → List (List Nat × List Nat) → Prop} {Q : Exit → Act → World → Prop}
 (hK : ∀ s m a w σ tb, K s m tb → RepF cx σ (From (base + 32 * ops.size)) (sget s) (mem m) n a w → Q .normal a w) {s : Slots} {m : Heap} {a : Act} {w : World} {σ : Nat → Value}
 (hev : evD T G ops.toList base 0 ops.toList s m [] (fun s m tb => drawOk ops.toList tb = true ∧ K s m tb)) (h : RepF cx σ (From base) (sget s) (mem m) n a w) {id : Nat} : (Code.region id ops true).wpIn F nn P Q a w := by
 refine wpIn_region_any hm ?_
 obtain ⟨tb, sF, mF, ⟨hok, hKF⟩, hseq⟩ := evD_seq ht hG hf (fun s m tb => drawOk ops.toList tb = true ∧ K s m tb) ops.toList 0 s m [] a w σ (fun j => by simp) (by simp) rfl hev h
 have hseq' := hseq tb (fun j _ => by simp)
 rw [List.nil_append] at hok hKF
 refine any_sound hW (cx := cx) (Q0 := fun s m => s = sget sF ∧ m = mem mF) ht hG hf (drawOk_spec hok) (fun s m a w σ hQ hr => ?_) ops.size (List.range' 0 ops.size) (Array.replicate ops.size false) (sget s) (mem m) a _ σ (by simp) ?_ (by simp) (fun i => ?_) (fun i hi => ?_) (by simpa using hseq') ?_
 · obtain ⟨rfl, rfl⟩ := hQ
   exact hK sF mF a w σ tb hKF (hr.weaken fun id hid => by unfold From at hid; exact ⟨by omega, .inr (by omega)⟩)
 · exact List.pairwise_lt_range'
 · simp [Array.getD_eq_getD_getElem?, Array.getElem?_replicate]
   intro hi; split <;> simp
 · simp [Array.getD_eq_getD_getElem?, Array.getElem?_replicate] at hi
   split at hi <;> simp at hi
 · exact h.drew.weaken fun id hid => hid.1

end
end Go.Ev

/- One state serves as another: at a loop's head, at a call. -/
set_option linter.unusedSimpArgs false
set_option linter.unusedVariables false
namespace Go.Ev

structure Mt.Le (t t' : Mt) : Prop where
 ok : t'.ok → t.ok
 mp : t'.ok → ∀ pn i id, mpGet pn t.mp i = some id → mpGet pn t'.mp i = some id
 vw : t'.ok → ∀ i ∈ t.vw, i ∈ t'.vw

theorem Mt.Le.refl (t : Mt) : t.Le t := ⟨id, fun _ _ _ _ h => h, fun _ _ h => h⟩
theorem Mt.Le.trans {a b c : Mt} (h : a.Le b) (k : b.Le c) : a.Le c :=
 ⟨fun hc => h.ok (k.ok hc), fun hc pn i id hi => k.mp hc pn i id (h.mp (k.ok hc) pn i id hi), fun hc i hi => k.vw hc i (h.vw (k.ok hc) i hi)⟩
theorem Mt.le_no (t : Mt) : t.Le Mt.no := ⟨False.elim, fun h => h.elim, fun h => h.elim⟩
theorem Mt.le_and (t : Mt) {p : Prop} : t.Le ⟨p ∧ t.ok, t.mp, t.vw⟩ := ⟨fun h => h.2, fun _ _ _ _ h => h, fun _ _ h => h⟩

theorem findL_append {α : Type} : ∀ (l r : List (Nat × α)) (i : Nat), findL (l ++ r) i = (findL l i).or (findL r i)
 | [], r, i => by simp [findL]
 | (k, v) :: l, r, i => by
   simp only [List.cons_append, findL]
   split
   · rfl
   · exact findL_append l r i

theorem findL_mem {α : Type} : ∀ {l : List (Nat × α)} {i : Nat} {v : α}, findL l i = some v → (i, v) ∈ l
 | (k, x) :: l, i, v, h => by
   simp only [findL] at h
   split at h
   · rename_i e; cases h; rw [e]; exact List.mem_cons_self
   · exact List.mem_cons_of_mem _ (findL_mem h)

theorem bind_le (pn fr' id id' : Nat) (t : Mt) : t.Le (bindId pn fr' id id' t) := by
 unfold bindId
 split
 · split
   · exact .refl t
   · exact t.le_no
 · rename_i hn
   split
   · refine ⟨fun h => h, fun _ q i j h => ?_, fun _ _ h => h⟩
     unfold mpGet at *
     split at h
     · rename_i hlt; rw [if_pos hlt]; exact h
     · rename_i hlt; rw [if_neg hlt, findL_append, h]; rfl
   · exact t.le_no

theorem bind_spec {pn fr' id id' : Nat} {t : Mt} (h : (bindId pn fr' id id' t).ok) : mpGet pn (bindId pn fr' id id' t).mp id' = some id := by
 unfold bindId at *
 split at h
 · rename_i j hj
   split at h
   · rename_i e; simp only [hj, e, if_true]
   · exact h.elim
 · rename_i hn
   split at h
   · rename_i hc
     rw [if_pos hc]
     unfold mpGet at hn ⊢
     split at hn
     · cases hn
     · rename_i hlt
       rw [if_neg hlt]
       simp only [findL_append, hn, Option.none_or, findL, if_true]
   · exact h.elim

/-- One to one. -/
def Mt.J (pn fr' : Nat) (t : Mt) : Prop := t.ok → (t.mp.map (·.2)).Nodup ∧ ∀ p ∈ t.mp, p.1 < fr' ∧ pn ≤ p.2

theorem bind_J {pn fr' id id' : Nat} {t : Mt} (h : t.J pn fr') : (bindId pn fr' id id' t).J pn fr' := by
 unfold bindId
 split
 · split
   · exact h
   · exact fun hh => hh.elim
 · split
   · rename_i hc
     intro hok
     obtain ⟨h1, h2⟩ := h hok
     refine ⟨?_, fun p hp => ?_⟩
     · rw [List.map_append, List.nodup_append]
       refine ⟨h1, by simp, fun a ha b hb e => ?_⟩
       simp only [List.map_cons, List.map_nil, List.mem_singleton] at hb
       subst hb; subst e
       have := hc.2.2
       rw [List.contains_iff_mem.2 ha] at this; cases this
     · rcases List.mem_append.1 hp with hp | hp
       · exact h2 p hp
       · rw [List.mem_singleton.1 hp]; exact ⟨hc.2.1, hc.1⟩
   · exact fun hh => hh.elim

theorem and_J {pn fr' : Nat} {t : Mt} {p : Prop} {vw : List Nat} (h : t.J pn fr') : (Mt.mk (p ∧ t.ok) t.mp vw).J pn fr' := fun hk => h hk.2
theorem no_J {pn fr' : Nat} : Mt.no.J pn fr' := fun h => h.elim

section
variable {m : Mem} {pn fr' : Nat}

mutual
theorem matchC_le : ∀ (c d : C1) (t : Mt), t.Le (matchC pn m fr' c d t) := by
 intro c d t
 unfold matchC
 split <;> first
  | exact .refl t
  | exact t.le_no
  | exact bind_le ..
  | exact t.le_and
  | (split <;> first | exact .refl t | exact t.le_and | exact bind_le .. | exact (t.le_and).trans (bind_le ..) | exact matchCs_le .. | exact t.le_no)
  | exact ⟨fun h => h.2.2, fun _ _ _ _ h => h, fun _ _ h => h⟩
  | exact ⟨fun h => h.2.2, fun _ _ _ _ h => h, fun _ _ h => List.mem_cons_of_mem _ h⟩
  | exact matchCs_le ..
theorem matchCs_le : ∀ (cs ds : List C1) (t : Mt), t.Le (matchCs pn m fr' cs ds t) := by
 intro cs ds t
 unfold matchCs
 split
 · exact .refl t
 · exact (matchC_le ..).trans (matchCs_le ..)
 · exact t.le_no
end

mutual
theorem matchC_J : ∀ (c d : C1) (t : Mt), t.J pn fr' → (matchC pn m fr' c d t).J pn fr' := by
 intro c d t h
 unfold matchC
 split <;> first
  | exact h
  | exact no_J
  | exact bind_J h
  | exact and_J h
  | (split <;> first | exact h | exact and_J h | exact bind_J h | exact bind_J (and_J h) | exact matchCs_J _ _ _ h | exact no_J)
  | exact fun hk => h hk.2.2
  | exact matchCs_J _ _ _ h
theorem matchCs_J : ∀ (cs ds : List C1) (t : Mt), t.J pn fr' → (matchCs pn m fr' cs ds t).J pn fr' := by
 intro cs ds t h
 unfold matchCs
 split
 · exact h
 · exact matchCs_J _ _ _ (matchC_J _ _ _ h)
 · exact no_J
end

theorem matchA_le (a b : AV) (t : Mt) : t.Le (matchA pn m fr' a b t) := by
 unfold matchA
 split
 · exact matchC_le ..
 · exact matchCs_le ..
 · exact .refl t
 · exact t.le_no
theorem matchA_J (a b : AV) (t : Mt) (h : t.J pn fr') : (matchA pn m fr' a b t).J pn fr' := by
 unfold matchA
 split
 · exact matchC_J _ _ _ h
 · exact matchCs_J _ _ _ h
 · exact h
 · exact no_J

theorem matchS_le (s : Slots) : ∀ (r : Slots) (t : Mt), t.Le (matchS pn m fr' s r t)
 | [], t => .refl t
 | (i, v) :: r, t => (matchA_le _ _ t).trans (matchS_le s r _)
theorem matchS_J (s : Slots) : ∀ (r : Slots) (t : Mt), t.J pn fr' → (matchS pn m fr' s r t).J pn fr'
 | [], t, h => h
 | (i, v) :: r, t, h => matchS_J s r _ (matchA_J _ _ t h)

theorem matchB_le (a b : Blk) (t : Mt) : t.Le (matchB pn m fr' a b t) := by
 unfold matchB
 split
 · exact .refl t
 · split
   · exact matchCs_le ..
   · exact t.le_no
 · split
   · exact t.le_and
   · exact t.le_no
 · split
   · exact t.le_and
   · exact t.le_no
 · split
   · exact (t.le_and).trans (bind_le ..)
   · exact t.le_no
 · split
   · exact (t.le_and).trans (bind_le ..)
   · exact t.le_no
 · split
   · exact t.le_and
   · exact t.le_no
 · exact t.le_no
theorem matchB_J (a b : Blk) (t : Mt) (h : t.J pn fr') : (matchB pn m fr' a b t).J pn fr' := by
 unfold matchB
 split
 · exact h
 · split
   · exact matchCs_J _ _ _ h
   · exact no_J
 · split
   · exact and_J h
   · exact no_J
 · split
   · exact and_J h
   · exact no_J
 · split
   · exact bind_J (and_J h)
   · exact no_J
 · split
   · exact bind_J (and_J h)
   · exact no_J
 · split
   · exact and_J h
   · exact no_J
 · exact no_J

theorem matchM_le : ∀ (r : Heap) (t : Mt), t.Le (matchM pn m fr' r t)
 | [], t => .refl t
 | (i, b) :: r, t => by
   simp only [matchM]
   split
   · exact (matchB_le _ _ t).trans (matchM_le r _)
   · exact t.le_no
theorem matchM_J : ∀ (r : Heap) (t : Mt), t.J pn fr' → (matchM pn m fr' r t).J pn fr'
 | [], t, h => h
 | (i, b) :: r, t, h => by
   simp only [matchM]
   split
   · exact matchM_J r _ (matchB_J _ _ t h)
   · exact no_J

/-! ### what is said of the values -/

structure Tgt (pn : Nat) (x x' : Rx) (m : Mem) (tf : Mt) : Prop where
 w : x'.w = x.w
 O : ∀ b, x'.O b → x.O b
 σ : ∀ i id, mpGet pn tf.mp i = some id → x'.σ i = x.σ id ∧ ¬ x'.N i
 vw : ∀ id ∈ tf.vw, ∀ t xs, view m t (.row id) = some xs → ro x.w x.O (.sl t) xs [x.σ id]
 ok : tf.ok

variable {x x' : Rx} {tf : Mt}

theorem Tgt.keep (h : Tgt pn x x' m tf) : Keep x.w x'.w x.O x'.O := .ex fun b _ ho => ⟨fun k => ho (h.O b k), by rw [h.w]⟩

theorem castTy_some {t u : Ty} {xs : List t.den} {ys : List u.den} (h : castTy t u xs = some ys) : ∃ e : t = u, e ▸ xs = ys := by
 unfold castTy at h
 split at h
 · rename_i e; exact ⟨e, Option.some.inj h⟩
 · cases h

mutual
theorem matchC_rep (H : Tgt pn x x' m tf) : ∀ (c d : C1) (t : Mt) (v : Value), (matchC pn m fr' c d t).Le tf → repC x c v → repC x' d v := by
 intro c d t v hle hr
 have hok := hle.ok H.ok
 unfold matchC at hle hok
 split at hle <;> try simp only at hok
 · unfold repC; trivial
 · rename_i k a k' b
   split at hle
   · rename_i e
     rw [if_pos e] at hok
     unfold repC at hr ⊢
     rw [← e, ← hok.1]; exact hr
   · rename_i e; rw [if_neg e] at hok; exact hok.elim
 · unfold repC at hr ⊢; rw [← hok.1]; exact hr
 · unfold repC at hr ⊢; rw [← hok.1]; exact hr
 · unfold repC at hr ⊢; exact hr
 · unfold repC at hr ⊢; exact hr
 · unfold repC at hr ⊢; exact hr
 · rename_i u ys cp
   unfold repC at hr ⊢
   rw [hr, hok.1]
   exact ⟨⟨none, 0, 0, rfl, rfl, Nat.le_refl _, by simp [maxLen], .inl rfl⟩, fun _ => ⟨none, 0, rfl⟩⟩
 · rename_i u xs cp v' ys cp'
   obtain ⟨e, he⟩ := castTy_some hok.1
   subst e
   subst he
   unfold repC at hr ⊢
   exact ⟨ro_keep H.keep _ _ _ hr.1, fun hc => hr.2 (hok.2.1 hc)⟩
 · rename_i id v' ys cp'
   unfold repC at hr ⊢
   have := H.vw id (hle.vw H.ok id List.mem_cons_self) v' ys hok.1
   rw [hr.2]
   exact ⟨ro_keep H.keep _ _ _ this, fun hc => by rw [hok.2.1] at hc; cases hc⟩
 · rename_i id id'
   unfold repC at hr ⊢
   obtain ⟨e, hn⟩ := H.σ id' id (hle.mp H.ok pn id' id (bind_spec hok))
   exact ⟨hn, by rw [e]; exact hr.2⟩
 · rename_i id sz lo len v' ys cp'
   have hvw := H.vw id (hle.vw H.ok id List.mem_cons_self)
   have hro : ro x.w x.O (.sl v') ys [v] := by
    have hv := hok.1
    simp only [view] at hv
    split at hv
    · rename_i e' u xs hm
      split at hv
      · rename_i hc
        obtain ⟨e1, he1⟩ := castTy_some hv
        subst e1
        subst he1
        obtain ⟨rfl, hll⟩ := hc
        exact win_ro (hvw u xs (by simp [view, hm, castTy])) hr hll
      · cases hv
    · rename_i u xs hm
      split at hv
      · rename_i hc
        obtain ⟨e1, he1⟩ := castTy_some hv
        subst e1
        subst he1
        obtain ⟨rfl, hll⟩ := hc
        exact win_ro (hvw u xs (by simp [view, hm, castTy])) hr hll
      · cases hv
    · cases hv
   unfold repC
   exact ⟨ro_keep H.keep _ _ _ hro, fun hc => by rw [hok.2.1] at hc; cases hc⟩
 · rename_i id sz lo len id' sz' lo' len'
   split at hle
   · rename_i e
     rw [if_pos e] at hok
     obtain ⟨e', hn⟩ := H.σ id' id (hle.mp H.ok pn id' id (bind_spec hok))
     have hq := ((bind_le pn fr' id id' ⟨(lo = lo' ∧ len = len') ∧ t.ok, t.mp, t.vw⟩).ok hok).1
     obtain ⟨rfl, rfl⟩ := hq
     subst e
     unfold repC at hr ⊢
     exact ⟨hn, by rw [e']; exact hr.2⟩
   · rename_i e; rw [if_neg e] at hok; exact hok.elim
 · rename_i id off id' off'
   split at hle
   · rename_i e
     rw [if_pos e] at hok
     unfold repC at hr ⊢
     obtain ⟨e', hn⟩ := H.σ id' id (hle.mp H.ok pn id' id (bind_spec hok))
     exact ⟨hn, by rw [e', ← e]; exact hr.2⟩
   · rename_i e; rw [if_neg e] at hok; exact hok.elim
 · rename_i id sz i off id' sz' i' off'
   split at hle
   · rename_i e
     rw [if_pos e] at hok
     obtain ⟨e', hn⟩ := H.σ id' id (hle.mp H.ok pn id' id (bind_spec hok))
     have hq := ((bind_le pn fr' id id' ⟨i = i' ∧ t.ok, t.mp, t.vw⟩).ok hok).1
     subst hq
     obtain ⟨rfl, rfl⟩ := e
     unfold repC at hr ⊢
     exact ⟨hn, by rw [e']; exact hr.2⟩
   · rename_i e; rw [if_neg e] at hok; exact hok.elim
 · rename_i id id'
   unfold repC at hr ⊢
   obtain ⟨e, hn⟩ := H.σ id' id (hle.mp H.ok pn id' id (bind_spec hok))
   exact ⟨hn, by rw [e]; exact hr.2⟩
 · rename_i f cs g ds
   split at hle
   · rename_i e
     unfold repC at hr ⊢
     obtain ⟨vs, e2, h2⟩ := hr
     exact ⟨vs, by rw [← e]; exact e2, matchCs_rep H cs ds _ vs hle h2⟩
   · rename_i e; rw [if_neg e] at hok; exact hok.elim
 · rename_i g g'
   split at hle
   · rename_i e
     subst e
     unfold repC at hr ⊢
     exact hr
   · rename_i e; rw [if_neg e] at hok; exact hok.elim
 · rename_i id k id' k'
   split at hle
   · rename_i e
     rw [if_pos e] at hok
     obtain ⟨e', hn⟩ := H.σ id' id (hle.mp H.ok pn id' id (bind_spec hok))
     subst e
     unfold repC at hr ⊢
     exact ⟨hn, by rw [e']; exact hr.2⟩
   · rename_i e; rw [if_neg e] at hok; exact hok.elim
 · rename_i cs ds
   unfold repC at hr ⊢
   obtain ⟨vs, e2, h2⟩ := hr
   exact ⟨vs, e2, matchCs_rep H cs ds _ vs hle h2⟩
 · rename_i f cs g ds
   split at hle
   · rename_i e
     unfold repC at hr ⊢
     obtain ⟨vs, e2, h2⟩ := hr
     exact ⟨vs, by rw [← e]; exact e2, matchCs_rep H cs ds _ vs hle h2⟩
   · rename_i e; rw [if_neg e] at hok; exact hok.elim
 · exact hok.elim
theorem matchCs_rep (H : Tgt pn x x' m tf) : ∀ (cs ds : List C1) (t : Mt) (vs : List Value), (matchCs pn m fr' cs ds t).Le tf → repCs x cs vs → repCs x' ds vs := by
 intro cs ds t vs hle hr
 unfold matchCs at hle
 split at hle
 · rw [repCs_nil.1 hr]; exact repCs_nil.2 rfl
 · rename_i c cs d ds
   obtain ⟨v, r, rfl, h1, h2⟩ := repCs_cons.1 hr
   exact repCs_cons.2 ⟨v, r, rfl, matchC_rep H c d t v ((matchCs_le cs ds _).trans hle) h1, matchCs_rep H cs ds _ r hle h2⟩
 · exact (hle.ok H.ok).elim
end

theorem matchA_rep (H : Tgt pn x x' m tf) (a b : AV) (t : Mt) (v : Value) (hle : (matchA pn m fr' a b t).Le tf) (hr : repA x a v) : repA x' b v := by
 unfold matchA at hle
 split at hle
 · unfold repA at hr ⊢; exact matchC_rep H _ _ _ _ hle hr
 · unfold repA at hr ⊢
   obtain ⟨vs, e, h⟩ := hr
   exact ⟨vs, e, matchCs_rep H _ _ _ _ hle h⟩
 · unfold repA repC; trivial
 · exact (hle.ok H.ok).elim

theorem matchS_rep (H : Tgt pn x x' m tf) (s : Slots) (tmp : Nat → Value) (hs : ∀ i, repA x (sget s i) (tmp i)) : ∀ (r : Slots) (t : Mt), (matchS pn m fr' s r t).Le tf → ∀ i v, (i, v) ∈ r → repA x' v (tmp i)
 | (j, u) :: r, t, hle, i, v, hm => by
   cases List.mem_cons.1 hm with
   | inl e =>
     cases e
     exact matchA_rep H _ _ t _ ((matchS_le s r _).trans hle) (hs j)
   | inr e => exact matchS_rep H s tmp hs r _ hle i v e

theorem matchB_own {a b : Blk} {t : Mt} (h : (matchB pn m fr' a b t).ok) : own b = true → own a = true := by
 unfold matchB at h
 split at h
 · intro h; cases h
 · split at h
   · intro _; rfl
   · exact h.elim
 · intro _; rfl
 · intro _; rfl
 · intro _; rfl
 · intro _; rfl
 · intro _; rfl
 · exact h.elim

theorem famRep_keepw {x y : Rx} (hw : y.w = x.w) (h : Keep x.w y.w x.O y.O) {e : TypeId} {u : Ty} {xss : List (List u.den)} {vs : List Value} (k : famRep x e u xss vs) : famRep y e u xss vs where
 len := k.len
 row := fun i xs v h1 h2 => by
  obtain ⟨k1, flat, k2, k3⟩ := k.row i xs v h1 h2
  exact ⟨k1, flat, by rw [hw]; exact k2, roAll_mono (ro_keep h u) _ _ k3⟩
 inj := k.inj
theorem mapgRep_keepw {x y : Rx} (h : Keep x.w y.w x.O y.O) {kt : Ty} {ka : Bool} {hole : Option Nat} {ks : List kt.den} {es : List MapEntry} {vs : List Value} (k : mapgRep x kt ka hole ks es vs) : mapgRep y kt ka hole ks es vs where
 len := k.len
 lenv := k.lenv
 at_ := fun i a en v h1 h2 h3 => by
  obtain ⟨k1, k2, kvs, k3, k4⟩ := k.at_ i a en v h1 h2 h3
  exact ⟨k1, k2, kvs, k3, ro_keep h _ _ _ k4⟩
theorem mapRep_keepw {x y : Rx} (h : Keep x.w y.w x.O y.O) {kt vt : Ty} {ka va : Bool} : ∀ (l : List (kt.den × vt.den)) (es : List MapEntry), mapRep x kt vt ka va l es → mapRep y kt vt ka va l es
 | [], _, k => k
 | _ :: l, _, ⟨e, r, ks, vs, he, e1, k1, e2, k2, k3⟩ => ⟨e, r, ks, vs, he, e1, ro_keep h _ _ _ k1, e2, ro_keep h _ _ _ k2, mapRep_keepw h l r k3⟩

theorem matchB_rep' (H : Tgt pn x x' m tf) {i id : Nat} (eσ : x'.σ i = x.σ id) (b : Blk) (t : Mt) (hle : (matchB pn m fr' (m id) b t).Le tf) (hr : repB x id (m id)) : repB x' i b := by
 have hok := hle.ok H.ok
 generalize m id = a at *
 unfold matchB at hle hok
 split at hle <;> try simp only at hok
 · trivial
 · rename_i e cs e' ds
   split at hle
   · rename_i he
     obtain ⟨bl, vs, h1, h2, h3, h4⟩ := hr
     exact ⟨bl, vs, by rw [eσ]; exact h1, by rw [H.w, ← he]; exact h2, matchCs_rep H _ _ _ _ hle h3, h4⟩
   · rename_i he; rw [if_neg he] at hok; exact hok.elim
 · rename_i e u xs e' v ys
   split at hle
   · rename_i he
     rw [if_pos he] at hok
     obtain ⟨e2, he2⟩ := castTy_some hok.1
     subst e2; subst he2; subst he
     obtain ⟨n, flat, h1, h2, h3⟩ := hr
     exact ⟨n, flat, h1, by rw [H.w, eσ]; exact h2, roAll_mono (ro_keep H.keep _) _ _ h3⟩
   · rename_i he; rw [if_neg he] at hok; exact hok.elim
 · rename_i e u xss e' v yss
   split at hle
   · rename_i he
     rw [dif_pos he] at hok
     obtain ⟨h1, h2⟩ := he
     subst h1; subst h2
     have hl : xss = yss := hok.1
     subst hl
     obtain ⟨f, vs, g1, g2⟩ := hr
     exact ⟨f, vs, by rw [eσ]; exact g1, famRep_keepw H.w H.keep g2⟩
   · rename_i he; rw [dif_neg he] at hok; exact hok.elim
 · rename_i k ka fid ks k' ka' fid' ks'
   split at hle
   · rename_i he
     rw [dif_pos he] at hok
     obtain ⟨h1, h2⟩ := he
     subst h1; subst h2
     obtain ⟨e', hn⟩ := H.σ fid' fid (hle.mp H.ok pn fid' fid (bind_spec hok))
     have hl : ks = ks' := ((bind_le pn fr' fid fid' ⟨ks = ks' ∧ t.ok, t.mp, t.vw⟩).ok hok).1
     subst hl
     obtain ⟨r, es, f, vs, g1, g2, g3, g4, g5⟩ := hr
     exact ⟨r, es, f, vs, by rw [eσ]; exact g1, by rw [H.w]; exact g2, hn, by rw [e']; exact g4, mapgRep_keepw H.keep g5⟩
   · rename_i he; rw [dif_neg he] at hok; exact hok.elim
 · rename_i e u p fid xs e' v p' fid' ys
   split at hle
   · rename_i he
     rw [dif_pos he] at hok
     obtain ⟨h1, h2, h3⟩ := he
     subst h1; subst h2; subst h3
     obtain ⟨e', hn⟩ := H.σ fid' fid (hle.mp H.ok pn fid' fid (bind_spec hok))
     have hl : xs = ys := ((bind_le pn fr' fid fid' ⟨xs = ys ∧ t.ok, t.mp, t.vw⟩).ok hok).1
     subst hl
     obtain ⟨f, vs, flat, g1, g2, g3, g4, g5⟩ := hr
     exact ⟨f, vs, flat, hn, by rw [e']; exact g2, g3, by rw [H.w, eσ]; exact g4, roAll_mono (elG_keep H.keep) _ _ g5⟩
   · rename_i he; rw [dif_neg he] at hok; exact hok.elim
 · rename_i k v ka va l k' v' ka' va' l'
   split at hle
   · rename_i he
     rw [dif_pos he] at hok
     obtain ⟨h1, h2, h3, h4⟩ := he
     subst h1; subst h2; subst h3; subst h4
     obtain ⟨r, es, cl, g1, g2, g3, g4⟩ := hr
     have hl : l = l' := hok.1
     subst hl
     refine ⟨r, es, cl, by rw [eσ]; exact g1, by rw [H.w]; exact g2, ?_, g4⟩
     exact mapRep_keepw H.keep l _ g3
   · rename_i he; rw [dif_neg he] at hok; exact hok.elim
 · exact hok.elim


end

/-! ### the state -/

section
variable {cx cx' : Cx} {σ : Nat → Value} {N : Nat → Prop} {m : Mem} {w : World} {s : Nat → AV} {n : Nat} {a : Act}

def sigOf (pn : Nat) (σ : Nat → Value) (mp : List (Nat × Nat)) : Nat → Value := fun i => match mpGet pn mp i with
 | some id => σ id
 | none => σ 0

theorem mp_inj {pn fr' : Nat} {t : Mt} (hj : t.J pn fr') (hok : t.ok) {i j id : Nat} (hi : mpGet pn t.mp i = some id) (hjj : mpGet pn t.mp j = some id) : i = j := by
 obtain ⟨hnd, hge⟩ := hj hok
 unfold mpGet at hi hjj
 split at hi <;> split at hjj
 · cases hi; cases hjj; rfl
 · rename_i h1 h2
   cases hi
   have := (hge _ (findL_mem hjj)).2
   simp only at this
   omega
 · rename_i h1 h2
   cases hjj
   have := (hge _ (findL_mem hi)).2
   simp only at this
   omega
 have h1 := findL_mem hi
 have h2 := findL_mem hjj
 clear hge
 generalize t.mp = l at *
 clear hi hjj
 induction l with
 | nil => cases h1
 | cons p l ih =>
   rw [List.map_cons, List.nodup_cons] at hnd
   rcases List.mem_cons.1 h1 with e1 | e1 <;> rcases List.mem_cons.1 h2 with e2 | e2
   · rw [← e1] at e2; cases e2; rfl
   · rw [← e1] at hnd; exact absurd (List.mem_map.2 ⟨_, e2, rfl⟩) hnd.1
   · rw [← e2] at hnd; exact absurd (List.mem_map.2 ⟨_, e1, rfl⟩) hnd.1
   · exact ih hnd.2 e1 e2

/-- Every entry of the other heap stands for one of ours. -/
theorem matchM_at {pn fr' : Nat} : ∀ (r : Heap) (t : Mt), (matchM pn m fr' r t).ok → ∀ i b, (i, b) ∈ r → ∃ t' id, mpGet pn t'.mp i = some id ∧ (matchB pn m fr' (m id) b t').Le (matchM pn m fr' r t) ∧ t'.Le (matchM pn m fr' r t)
 | (j, c) :: r, t, hok, i, b, hm => by
   simp only [matchM] at hok ⊢
   split at hok
   · rename_i id hid
     cases List.mem_cons.1 hm with
     | inl e => cases e; exact ⟨t, id, hid, matchM_le r _, (matchB_le _ _ _).trans (matchM_le r _)⟩
     | inr e => exact matchM_at r _ hok i b e
   · exact hok.elim

theorem getL_mem {α : Type} {d : α} : ∀ (l : List (Nat × α)) (i : Nat), getL d l i = d ∨ (i, getL d l i) ∈ l
 | [], _ => .inl rfl
 | (k, v) :: l, i => by
   simp only [getL]
   split
   · rename_i e; rw [e]; exact .inr List.mem_cons_self
   · exact (getL_mem l i).imp id (List.mem_cons_of_mem _)

theorem view_settled {t : Ty} {xs : List t.den} {id : Nat} (hv : view m t (.row id) = some xs) : ∃ u ys, (settle m id).2 = .settled u ys ∧ castTy u t ys = some xs := by
 simp only [view] at hv
 unfold settle
 split at hv
 · rename_i e u ys hm; exact ⟨u, ys, by simp [hm], hv⟩
 · rename_i u ys hm; exact ⟨u, ys, by simp [hm], hv⟩
 · cases hv

/-- WHAT SERVES: the memory, and what the values say. f: which of our ids stands for an id of the other state. -/
theorem RepM.serve (h : RepM cx σ N m w) {pn fr' : Nat} {m' : Mem} {tf : Mt} (f : Nat → Option Nat) (hok : tf.ok)
 (hat : ∀ i, m' i ≠ .dead → ∃ t' id, f i = some id ∧ (matchB pn m fr' (m id) (m' i) t').Le tf)
 (hfm : ∀ i id, mpGet pn tf.mp i = some id → f i = some id) (hlt : ∀ i id, f i = some id → i < fr') (hinj : ∀ i j id, f i = some id → f j = some id → i = j)
 (hvw : ∀ id ∈ tf.vw, ∀ i, f i ≠ some id)
 (hF : ∀ b, cx'.F b → cx.F b ∨ ∃ id, own (m id) = true ∧ hb (σ id) b ∧ id ∉ tf.vw ∧ ∀ i, f i ≠ some id)
 (hlow : ∀ id b, own (m id) = true → hb (σ id) b → (∃ i, f i = some id) → cx'.w0.heap.size ≤ b ∨ cx'.Mu b) (hevo : Evo cx' w)
 {σ' : Nat → Value} (hσ : ∀ i id, f i = some id → σ' i = σ id) (hone : ∀ i, (σ' i).oneCell' = true) (hfix : ∀ i, i < cx'.np → ¬ From fr' i ∧ σ' i = cx'.arg i) (hmk : ∀ D, D ∈ cx'.mks → w.heap[D]? = some (.deferred (some []))) (hgl : GlOk cx') :
 RepM cx' σ' (From fr') m' w ∧ Tgt pn (rx cx σ N (updM m (tf.vw.map (settle m))) w) (rx cx' σ' (From fr') m' w) m tf := by
 have hu : ∀ id, updM m (tf.vw.map (settle m)) id = if id ∈ tf.vw then (settle m id).2 else m id := fun id => updM_settle m tf.vw m id (fun i _ => .inl rfl)
 obtain ⟨h2, _⟩ := h.settles tf.vw
 have own' : ∀ i, own (m' i) = true → ∃ id, f i = some id ∧ own (m id) = true ∧ σ' i = σ id := by
  intro i hi
  obtain ⟨t', id, h1, h3⟩ := hat i (fun e => by rw [e] at hi; cases hi)
  exact ⟨id, h1, matchB_own (h3.ok hok) hi, hσ i id h1⟩
 have nvw : ∀ i id, f i = some id → id ∉ tf.vw := fun i id hi hm => hvw id hm i hi
 have T : Tgt pn (rx cx σ N (updM m (tf.vw.map (settle m))) w) (rx cx' σ' (From fr') m' w) m tf := by
  refine ⟨rfl, fun b hb => ?_, fun i id hi => ⟨hσ i id (hfm i id hi), fun hf => ?_⟩, fun id hid u xs hv => ?_, hok⟩
  · rcases hb with hb | ⟨i, ho, hb⟩
    · rcases hF b hb with h1 | ⟨id, h1, h2, h3, _⟩
      · exact .inl h1
      · exact .inr ⟨id, by rw [hu, if_neg h3]; exact h1, h2⟩
    · obtain ⟨id, h1, h2, h3⟩ := own' i ho
      exact .inr ⟨id, by rw [hu, if_neg (nvw i id h1)]; exact h2, by rw [← h3]; exact hb⟩
  · have := hlt i id (hfm i id hi)
    unfold rx From at hf
    simp only at hf
    omega
  · obtain ⟨u', ys, e1, e2⟩ := view_settled hv
    obtain ⟨e3, e4⟩ := castTy_some e2
    subst e3; subst e4
    have := h2.blk id
    rw [hu, if_pos hid, e1] at this
    exact this
 -- a block that is bound is told by the match; its binding need not be the match's own
 have blk : ∀ i id (t' : Mt), f i = some id → (matchB pn m fr' (m id) (m' i) t').Le tf → repB (rx cx' σ' (From fr') m' w) i (m' i) := by
  intro i id t' h1 h3
  have hb := h2.blk id
  rw [hu, if_neg (nvw i id h1)] at hb
  exact matchB_rep' T (hσ i id h1) _ t' h3 hb
 refine ⟨⟨fun i => ?_, fun i hi => ?_, fun i j b ho ho' hb hb' => ?_, fun i b ho hb => ?_, fun i b ho hb => ?_, hevo, fun b hb => ?_, hone, hfix, hmk, hgl⟩, T⟩
 · by_cases hd : m' i = .dead
   · rw [hd]; trivial
   · obtain ⟨t', id, h1, h3⟩ := hat i hd
     exact blk i id t' h1 h3
 · by_cases hd : m' i = .dead
   · exact hd
   · obtain ⟨t', id, h1, _⟩ := hat i hd
     have := hlt i id h1
     unfold From at hi
     omega
 · obtain ⟨id, h1, h2, h3⟩ := own' i ho
   obtain ⟨jd, g1, g2, g3⟩ := own' j ho'
   rw [h3] at hb; rw [g3] at hb'
   have := h.inj id jd b h2 g2 hb hb'
   subst this
   exact hinj i j id h1 g1
 · obtain ⟨id, h1, h2, h3⟩ := own' i ho
   rw [h3] at hb
   intro hf
   rcases hF b hf with k1 | ⟨jd, k1, k2, _, k4⟩
   · exact h.notF id b h2 hb k1
   · have := h.inj id jd b h2 k1 hb k2
     subst this
     exact k4 i h1
 · obtain ⟨id, h1, h2, h3⟩ := own' i ho
   rw [h3] at hb
   exact hlow id b h2 hb ⟨i, h1⟩
 · rcases hF b hb with k1 | ⟨jd, k1, k2, _, _⟩
   · exact h.hF b k1
   · exact repB_lt (h.blk jd) k1 b k2

/-- What serves by a match alone: the ids below 32 stand for themselves. -/
theorem RepM.ent (h : RepM cx σ N m w) (hnp : cx.np ≤ 32) {s : Slots} {s' : Slots} {m' : Heap} {fr' : Nat} (he : ent s m fr' s' m') (tmp : Nat → Value) (hs : ∀ i, repA (rx cx σ N m w) (sget s i) (tmp i)) :
 ∃ σ', RepM cx σ' (From fr') (mem m') w ∧ (∀ i, repA (rx cx σ' (From fr') (mem m') w) (sget s' i) (tmp i)) ∧ (∀ b, Owned cx σ' (mem m') b → Owned cx σ m b) := by
 unfold Ev.ent mOk at he
 generalize hq : matchM 32 m fr' m' (matchS 32 m fr' s s' ⟨True, [], []⟩) = tf at he
 obtain ⟨⟨hfr, hv⟩, hok⟩ := he
 have hj : (matchS 32 m fr' s s' ⟨True, [], []⟩).J 32 fr' := matchS_J s s' _ (fun _ => ⟨by simp, fun _ hp => by cases hp⟩)
 have hjf : tf.J 32 fr' := by rw [← hq]; exact matchM_J _ _ hj
 have hvw : ∀ id ∈ tf.vw, ∀ i, mpGet 32 tf.mp i ≠ some id := by
  intro id hid i hi
  have := List.all_eq_true.1 hv id hid
  simp only [Bool.and_eq_true, decide_eq_true_eq, Bool.not_eq_true'] at this
  unfold mpGet at hi
  split at hi
  · cases hi; omega
  · have h3 := this.2
    rw [List.contains_iff_mem.2 (List.mem_map.2 ⟨_, findL_mem hi, rfl⟩)] at h3
    cases h3
 have hlt : ∀ i id, mpGet 32 tf.mp i = some id → i < fr' := by
  intro i id hi
  unfold mpGet at hi
  split at hi
  · omega
  · exact ((hjf hok).2 _ (findL_mem hi)).1
 obtain ⟨h1, T⟩ := h.serve (cx' := cx) (pn := 32) (fr' := fr') (m' := mem m') (tf := tf) (fun i => mpGet 32 tf.mp i) hok (fun i hi => by
  rcases getL_mem (d := .dead) m' i with e | e
  · exact absurd e hi
  · obtain ⟨t', id, h1, h2, h3⟩ := matchM_at m' _ (hq ▸ hok) i _ e
    rw [hq] at h2 h3
    exact ⟨t', id, h3.mp hok 32 i id h1, h2⟩) (fun i id h => h) hlt (fun i j id hi hjj => mp_inj hjf hok hi hjj) hvw (fun b hb => .inl hb) (fun id b ho hb _ => h.low id b ho hb) h.evo
  (σ' := sigOf 32 σ tf.mp) (fun i id hi => by simp only [sigOf, hi]) (fun i => by unfold sigOf; split; exact h.hone _; exact h.hone 0)
  (fun i hi => ⟨fun hf => by unfold From at hf; omega, by
    have : mpGet 32 tf.mp i = some i := by unfold mpGet; rw [if_pos (by omega)]
    simp only [sigOf, this]; exact (h.fix i hi).2⟩) h.mks h.gl
 obtain ⟨_, k2⟩ := h.settles tf.vw
 refine ⟨_, h1, fun i => ?_, fun b hb => ?_⟩
 · rcases getL_mem (d := AV.one .undef) s' i with e | e
   · unfold sget; rw [e]; unfold repA repC; trivial
   · exact matchS_rep T s tmp (fun i => repA_keep k2 _ _ (hs i)) s' ⟨True, [], []⟩ (hq ▸ matchM_le _ _) i _ e
 · rcases T.O b hb with h1 | ⟨i, ho, hb⟩
   · exact .inl h1
   · refine .inr ⟨i, ?_, hb⟩
     rw [updM_settle m tf.vw m i (fun i _ => .inl rfl)] at ho
     split at ho
     · exact settle_not_own m i ho
     · exact ho

/-- At a loop's head. -/
theorem RepF.ent {s : Slots} {s' : Slots} {m' : Heap} {fr' : Nat} (h : RepF cx σ N (sget s) m n a w) (hnp : cx.np ≤ 32) (he : ent s m fr' s' m') : ∃ σ', RepF cx σ' (From fr') (sget s') (mem m') n a w := by
 obtain ⟨σ', h1, h2, _⟩ := h.mm.ent hnp he (fun i => a.tmps.getD i undef) h.ss
 exact ⟨σ', h1, h2, h.df, h.sz, h.fx⟩

end
end Go.Ev
