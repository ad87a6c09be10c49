/- A region that draws its order: one walk in the text's order serves every order. -/
import Derived.Test.YtdeihcabmpcaoaaGreatEvG8ToReg
import Derived.OrdersIn
set_option linter.unusedSimpArgs false
set_option linter.unusedVariables false
namespace Go.Ev

section
variable {F : Fence} {nn : Nat} {cx : Cx} {σ : Nat → Value} {N : Nat → Prop} {s : Nat → AV} {m : Mem} {n : Nat} {a : Act} {w : World} {P : Program} {T : Tab} {G : Env} {ops : Array Oper} {base fr : Nat} {tb : List (List Nat × List Nat)}

theorem wpOp_ex {i : Nat} {o : Oper} {K : Act → World → Prop} (hi : ops[i]? = some o) (h : wpOpIn Fence.wide nn P ops (fun _ _ _ => False) i K a w) : ∃ a' w', K a' w' := by
 unfold wpOpIn at h
 simp only [hi] at h
 split at h
 · unfold Oper.wpIn at h
   obtain ⟨_, h⟩ := h
   generalize (o.semAt Fence.wide.round a.eval).run P w = r at h
   cases r with
   | ok q w' =>
     cases q <;> simp only [Oper.uponIn] at h
     case value v => exact ⟨_, _, h⟩
     case skip => exact ⟨_, _, h⟩
     case defer d => exact ⟨_, _, h⟩
     case enter f args =>
      obtain ⟨e, w'', _, hR, _⟩ := h.2.2 [] (room_wide _)
      cases e with
      | returned v => exact ⟨_, _, hR⟩
      | panicked c => exact hR.elim
      | outgrown => obtain ⟨_, _, h⟩ := hR; exact h.elim
     case row row args =>
      obtain ⟨v, w', r, _⟩ := h.2 default [] (room_wide _)
      exact ⟨_, _, r⟩
     case round l f tmps assign body =>
      obtain ⟨e, w'', hR, _⟩ := h.2.2 default [] (room_wide _)
      cases e with
      | returned v => exact ⟨_, _, hR⟩
      | panicked c => exact hR.elim
      | outgrown => obtain ⟨_, _, h⟩ := hR; exact h.elim
   | halt x w' => cases x <;> simp only [Oper.uponIn] at h
 · exact ⟨_, _, h.2⟩

def eff (T : Tab) (G : Env) (ops : List Oper) (base : Nat) (tb : List (List Nat × List Nat)) (i : Nat) (o : Oper) (s : Nat → AV) (m : Mem) : Eff := stepE T G ops o s (restr (fpOf tb i) m) (base + 32 * i)

/-- The operations that are left, in the text's order. -/
def seqH (T : Tab) (G : Env) (ops : Array Oper) (base : Nat) (tb : List (List Nat × List Nat)) (Q : (Nat → AV) → Mem → Prop) : List Nat → (Nat → AV) → Mem → Prop
 | [], s, m => Q s m
 | i :: r, s, m => ∃ o, ops[i]? = some o ∧ (eff T G ops.toList base tb i o s m).pre ∧ (eff T G ops.toList base tb i o s m).u.map (·.1) = kyOf tb i ∧ (∀ k ∈ kyOf tb i, k ∈ fpOf tb i ∨ (base + 32 * i ≤ k ∧ k < base + 32 * i + 32)) ∧
     ((eff T G ops.toList base tb i o s m).asm → seqH T G ops base tb Q r (updS s o.dst (eff T G ops.toList base tb i o s m).r) (updM m (eff T G ops.toList base tb i o s m).u))

/-- The free ids, some operations being left. -/
def Nr (base sz : Nat) (rem : List Nat) : Nat → Prop := fun id => base ≤ id ∧ ((id - base) / 32 ∈ rem ∨ sz ≤ (id - base) / 32)

theorem updM_at {m m' : Mem} {id : Nat} (h : m id = m' id) : ∀ u : Heap, updM m u id = updM m' u id := by
 intro u
 induction u generalizing m m' with
 | nil => exact h
 | cons p u ih =>
   obtain ⟨k, b⟩ := p
   simp only [updM]
   exact ih (by by_cases e : k = id <;> simp [e, h])

theorem step_draw (hW : WideF F) {rem rem' : List Nat} (h : RepF cx σ (Nr base ops.size rem) s m n a w) (ht : TabOK P T) (hG : EnvD cx.D cx.gv P G) {i : Nat} {o : Oper} (hi : ops[i]? = some o) (hf : Fo cx n o)
 (hin : i ∈ rem) (hrem : ∀ j ∈ rem', j ∈ rem ∧ j ≠ i)
 (hky : ∀ k ∈ kyOf tb i, k ∈ fpOf tb i ∨ (base + 32 * i ≤ k ∧ k < base + 32 * i + 32)) (hp : (eff T G ops.toList base tb i o s m).pre) (hu : (eff T G ops.toList base tb i o s m).u.map (·.1) = kyOf tb i)
 {K : Act → World → Prop} {Q : Exit → Act → World → Prop}
 (hK : ∀ a' w' σ', RepF cx σ' (Nr base ops.size rem') (updS s o.dst (eff T G ops.toList base tb i o s m).r) (updM m (eff T G ops.toList base tb i o s m).u) n a' w' → (eff T G ops.toList base tb i o s m).asm → K a' w') :
 wpOpIn F nn P ops Q i K a w := by
 have hi' : i < ops.size := (Array.getElem?_eq_some_iff.1 hi).1
 have hfr : ∀ id, base + 32 * i ≤ id → id < base + 32 * i + 32 → Nr base ops.size rem id := fun id h1 h2 => ⟨by omega, .inl (by rw [show (id - base) / 32 = i by omega]; exact hin)⟩
 have hsub : RepF (sub cx σ m w (fpOf tb i)) σ (Nr base ops.size rem) s (restr (fpOf tb i) m) n a w := ⟨h.mm.sub (fpOf tb i), fun i => repA_keep (keeps_sub _) _ _ (h.ss i), h.df, h.sz, h.fx⟩
 have hkey : ∀ p ∈ (eff T G ops.toList base tb i o s m).u, p.1 ∈ fpOf tb i ∨ (base + 32 * i ≤ p.1 ∧ p.1 < base + 32 * i + 32) := fun p hp => hky p.1 (by rw [← hu]; exact List.mem_map.2 ⟨p, hp, rfl⟩)
 refine step_sound hW hsub hfr ht hG hi hf hp (fun a' w' σ' h' k ha => ?_)
 have hdead : ∀ id, Nr base ops.size rem id → m id = restr (fpOf tb i) m id := fun id hn => by
  rw [h.mm.fresh id hn]; unfold restr; split
  · rw [h.mm.fresh id hn]
  · rfl
 obtain ⟨g1, g2, g3⟩ := h.mm.glue (fpOf tb i) h'.mm k (fun id hs hn => by
  rw [updM_off]
  · unfold restr; rw [hs]; simp
  · intro p hp e
    rcases hkey p hp with h1 | h1
    · rw [e] at h1; rw [List.contains_iff_mem.2 h1] at hs; cases hs
    · exact hn (by rw [← e]; exact hfr _ h1.1 h1.2)) (updM m (eff T G ops.toList base tb i o s m).u)
  (fun id hs => updM_at (by unfold restr; rw [if_pos hs]) _) (fun id hn => updM_at (hdead id hn) _) (fun id hs hn => by
    rw [updM_off]
    intro p hp e
    rcases hkey p hp with h1 | h1
    · rw [e] at h1; rw [List.contains_iff_mem.2 h1] at hs; cases hs
    · exact hn (by rw [← e]; exact hfr _ h1.1 h1.2))
 have hfin : RepF cx σ' (Nx (Nr base ops.size rem) (base + 32 * i)) (updS s o.dst (eff T G ops.toList base tb i o s m).r) (updM m (eff T G ops.toList base tb i o s m).u) n a' w' :=
  ⟨g1, fun j => repA_keep g3 _ _ (h'.ss j), h'.df, h'.sz, h'.fx⟩
 refine hK a' w' σ' (hfin.weaken fun id hid => ?_) ha
 obtain ⟨h1, h2⟩ := hid
 refine ⟨⟨h1, h2.imp (fun hm => (hrem _ hm).1) (fun q => q)⟩, fun hr => ?_⟩
 have e : (id - base) / 32 = i := by omega
 rcases h2 with h2 | h2
 · exact (hrem _ h2).2 e
 · omega

/-! ### what an operation looks at -/

theorem opsOf_looks {ops : List Oper} {o : Oper} {t : Tmp} (h : .tmp t ∈ opsOf o.op) : t ∈ looks ops o := by
 unfold looks
 rw [List.mem_append]
 exact .inl (List.mem_filterMap.2 ⟨_, h, rfl⟩)

theorem opd_congr {s s' : Nat → AV} {x : Operand} (h : ∀ t, x = .tmp t → s t = s' t) : opd s x = opd s' x := by
 cases x with
 | tmp t => exact h t rfl
 | _ => rfl

theorem stepE_congr {ops : List Oper} {o : Oper} {s s' : Nat → AV} {m : Mem} {fr : Nat} (h : ∀ t ∈ looks ops o, s t = s' t) : stepE T G ops o s m fr = stepE T G ops o s' m fr := by
 have e1 : (opsOf o.op).map (opd s) = (opsOf o.op).map (opd s') := List.map_congr_left fun x hx => opd_congr fun t e => h t (opsOf_looks (e ▸ hx))
 unfold stepE
 cases hg : o.guard with
 | none => simp only [e1]
 | some jb =>
   obtain ⟨j, b⟩ := jb
   have e2 : guardC ops s j b = guardC ops s' j b := by
    unfold guardC
    cases hd : (ops[j]?).bind (·.dst) with
    | none => rfl
    | some d =>
      have : s d = s' d := h d (by unfold looks; rw [List.mem_append]; right; simp [hg, hd])
      simp only [this]
   have e3 : guardOk ops s j = guardOk ops s' j := by
    unfold guardOk
    cases hd : (ops[j]?).bind (·.dst) with
    | none => rfl
    | some d =>
      have : s d = s' d := h d (by unfold looks; rw [List.mem_append]; right; simp [hg, hd])
      simp only [this]
   simp only [e1, e2, e3]

theorem eff_congr {ops : List Oper} {o : Oper} {i : Nat} {s s' : Nat → AV} {m m' : Mem} (h : ∀ t ∈ looks ops o, s t = s' t) (hm : ∀ id ∈ fpOf tb i, m id = m' id) : eff T G ops base tb i o s m = eff T G ops base tb i o s' m' := by
 unfold eff
 have : restr (fpOf tb i) m = restr (fpOf tb i) m' := by
  funext id
  unfold restr
  split
  · rename_i hc; exact hm id (List.contains_iff_mem.1 hc)
  · rfl
 rw [this]
 exact stepE_congr h

theorem updS_comm {s : Nat → AV} {d e : Option Nat} {x y : AV} (h : ∀ i j, d = some i → e = some j → i ≠ j) : updS (updS s d x) e y = updS (updS s e y) d x := by
 cases d with
 | none => rfl
 | some i =>
   cases e with
   | none => rfl
   | some j =>
     have := h i j rfl rfl
     funext q
     simp only [updS]
     by_cases e1 : i = q <;> by_cases e2 : j = q <;> simp [e1, e2]
     subst e1; subst e2; exact absurd rfl this

theorem updM_comm {m : Mem} {u v : Heap} (h : ∀ p ∈ u, ∀ q ∈ v, p.1 ≠ q.1) : updM (updM m u) v = updM (updM m v) u := by
 funext id
 by_cases hu : ∃ p ∈ u, p.1 = id
 · obtain ⟨p, hp, e⟩ := hu
   rw [updM_off _ v id (fun q hq e' => h p hp q hq (e.trans e'.symm))]
   exact updM_at (updM_off _ v id (fun q hq e' => h p hp q hq (e.trans e'.symm))).symm u
 · have : ∀ p ∈ u, p.1 ≠ id := fun p hp e => hu ⟨p, hp, e⟩
   rw [updM_off _ u id this]
   exact updM_at (updM_off _ u id this) v

/-! ### a look into a map to numbers, and an entry for a key -/

/-- Entries that say nothing yet may have come. -/
def Sft (M M' : Mem) : Prop := ∀ i, M' i = M i ∨ ∃ kt ik ka l k, M i = .mapb kt (.int ik) ka false l ∧ M' i = .mapb kt (.int ik) ka false (kadd l k 0)
theorem mget_snoc {kt : Ty} {β : Type} (k k' : kt.den) (z : β) : ∀ l : List (kt.den × β), (mget (l ++ [(k, z)]) k').getD z = (mget l k').getD z
 | [] => by
   show (if keyEq kt k' k then some z else none).getD z = z
   split <;> rfl
 | (a, u) :: r => by
   show (if keyEq kt k' a then some u else mget (r ++ [(k, z)]) k').getD z = (if keyEq kt k' a then some u else mget r k').getD z
   split
   · rfl
   · exact mget_snoc k k' z r
theorem mget_kadd {kt : Ty} {β : Type} (l : List (kt.den × β)) (k k' : kt.den) (z : β) : (mget (kadd l k z) k').getD z = (mget l k').getD z := by
 unfold kadd
 split
 · rfl
 · exact mget_snoc k k' z l
theorem view_sft {M M' : Mem} (h : Sft M M') (t : Ty) (c : C1) : view M' t c = view M t c := by
 cases c with
 | row id =>
   unfold view
   rcases h id with e | ⟨_, _, _, _, _, e1, e2⟩
   · simp only [e]
   · simp only [e1, e2]
 | win id sz lo len =>
   unfold view
   rcases h id with e | ⟨_, _, _, _, _, e1, e2⟩
   · simp only [e]
   · simp only [e1, e2]
 | _ => rfl
theorem impl_sft {M M' : Mem} (h : Sft M M') : ∀ (t : Ty) (cs : List C1), impl M' t cs = impl M t cs
 | .int _, _ => rfl
 | .bool, _ => rfl
 | .str, _ => rfl
 | .unit, _ => rfl
 | .sl t, cs => by
   unfold impl implL
   split
   · exact view_sft h t _
   · rfl
 | .pair a b, cs => by
   unfold impl
   rw [impl_sft h a, impl_sft h b]
theorem keyG_sft {M M' : Mem} (h : Sft M M') {kT : TypeId} {kt : Ty} {ka : Bool} {k : AV} : keyG T kT kt ka M' k = keyG T kT kt ka M k := by
 unfold keyG; rw [impl_sft h]
theorem peekE_sft {M M' : Mem} (h : Sft M M') {kT eT : TypeId} {fr id : Nat} {k : AV} : peekE T kT eT M' fr id k = peekE T kT eT M fr id k := by
 unfold peekE
 rcases h id with e | ⟨_, _, _, _, _, e1, e2⟩
 · rw [e]
   cases hm : M id with
   | mapg kt ka fid ks hole =>
     cases hole with
     | none =>
       dsimp only
       rw [keyG_sft h]
       rcases h fid with e | ⟨_, _, _, _, _, e1, e2⟩
       · rw [e]
       · rw [e1, e2]
     | some j => rfl
   | _ => rfl
 · rw [e1, e2]
theorem lookup_sft {M M' : Mem} (h : Sft M M') {o : Oper} {t : TypeId} {a b : Operand} (ho : o.op = .lookup t a b false) {avs : List AV} {fr : Nat} : opEff T G o avs M' fr = opEff T G o avs M fr := by
 simp only [opEff, ho]
 split
 · rename_i kT eT id k _
   by_cases hw : wfOf G o.dst = 3
   · rw [if_pos hw, if_pos hw, peekE_sft h]
   · rw [if_neg hw, if_neg hw]
     rcases h id with e | ⟨kt, ik, ka, l, k0, e1, e2⟩
     · rw [e]
       cases hm : M id with
       | mapb kt vt ka va l =>
         dsimp only
         rw [impl_sft h]
       | _ => rfl
     · rw [e1, e2]
       dsimp only
       rw [impl_sft h]
       cases impl M kt k.cells with
       | none => rfl
       | some k' =>
         have hg : (mget (kadd l k0 0) k').getD (Ty.int ik).dflt = (mget l k').getD (Ty.int ik).dflt := mget_kadd l k0 k' (0 : Int)
         simp only [hg, Bool.false_eq_true, if_false]
 · rfl
theorem entry_sft {ops : List Oper} {o : Oper} {t : TypeId} {a b : Operand} (ho : o.op = .mapEntry t a b) (hg : o.guard = none) {s : Nat → AV} {M m : Mem} {fr : Nat} (hm : ∀ i, M i = m i ∨ M i = .dead)
 (hl : (stepE T G ops o s M fr).u.length = 1) : Sft m (updM m (stepE T G ops o s M fr).u) := by
 unfold stepE at hl ⊢
 simp only [hg] at hl ⊢
 generalize (opsOf o.op).map (opd s) = avs at hl ⊢
 simp only [opEff, ho] at hl ⊢
 split at hl
 · rename_i kT eT id k _
   unfold entryE at hl ⊢
   split at hl
   · rename_i kt ik ka l hM
     unfold entryB at hl ⊢
     split at hl
     · rename_i k' _
       split at hl
       · rename_i hc
         rw [if_pos hc]
         intro i
         show (if id = i then Blk.mapb kt (.int ik) ka false (kadd l k' 0) else m i) = m i ∨ _
         by_cases e : id = i
         · right
           subst e
           rcases hm id with q | q
           · exact ⟨kt, ik, ka, l, k', by rw [← q]; exact hM, by show (if id = id then _ else _) = _; rw [if_pos rfl]⟩
           · rw [q] at hM; cases hM
         · left
           rw [if_neg e]
       · exact absurd hl (by simp [bad])
     · exact absurd hl (by simp [bad])
   · split at hl
     · split at hl
       · split at hl
         · exact absurd hl (by simp)
         · exact absurd hl (by simp [bad])
       · exact absurd hl (by simp [bad])
     · exact absurd hl (by simp [bad])
   · exact absurd hl (by simp [bad])
 · exact absurd hl (by simp [bad])

structure Apart (ops : List Oper) (tb : List (List Nat × List Nat)) (i j : Nat) (x y : Oper) : Prop where
 xd : ∀ d, x.dst = some d → d ∉ looks ops y ∧ y.dst ≠ some d
 yd : ∀ d, y.dst = some d → d ∉ looks ops x
 f1 : ∀ k ∈ kyOf tb i, k ∉ fpOf tb j
 f2 : (∀ k ∈ kyOf tb j, k ∉ fpOf tb i) ∨ (x.guard = none ∧ y.guard = none ∧ (∃ t a b, x.op = .lookup t a b false) ∧ (∃ t a b, y.op = .mapEntry t a b) ∧ (kyOf tb j).length = 1)
 kk : ∀ k ∈ kyOf tb i, k ∉ kyOf tb j

theorem apartB_spec {ops : List Oper} {i j : Nat} {x y : Oper} (hi : ops[i]? = some x) (hj : ops[j]? = some y) (h : apartB ops tb i j = true) : Apart ops tb i j x y := by
 unfold apartB at h
 simp only [hi, hj, Bool.and_eq_true, Bool.or_eq_true, apartO, disj, List.all_eq_true] at h
 obtain ⟨⟨⟨⟨h1, h2⟩, h3⟩, h4⟩, h5⟩ := h
 refine ⟨fun d hd => ?_, fun d hd => ?_, fun k hk hm => ?_, h4.imp (fun h4 k hk hm => ?_) (fun h4 => ?_), fun k hk hm => ?_⟩
 · rw [hd] at h1; simp only [Bool.and_eq_true, Bool.not_eq_true', bne_iff_ne] at h1
   exact ⟨fun hc => by have := h1.1; simp at this; exact this hc, h1.2⟩
 · rw [hd] at h2; simp at h2; exact h2
 · have := h3 k hk; simp at this; exact this hm
 · have := h4 k hk; simp at this; exact this hm
 · unfold softB at h4
   split at h4
   · rename_i g1 g2 g3 g4
     exact ⟨g1, g2, ⟨_, _, _, g3⟩, ⟨_, _, _, g4⟩, of_decide_eq_true h4⟩
   · cases h4
 · have := h5 k hk; simp at this; exact this hm

theorem updS_off {s : Nat → AV} {d : Option Nat} {x : AV} {t : Nat} (h : ∀ e, d = some e → e ≠ t) : updS s d x t = s t := by
 cases d with
 | none => rfl
 | some e => simp only [updS, if_neg (h e rfl)]

/-- The effects of two operations that are apart. -/
theorem Apart.eff_second {i j : Nat} {x y : Oper} (h : Apart ops.toList tb i j x y) (hu : (eff T G ops.toList base tb i x s m).u.map (·.1) = kyOf tb i) :
 eff T G ops.toList base tb j y (updS s x.dst (eff T G ops.toList base tb i x s m).r) (updM m (eff T G ops.toList base tb i x s m).u) = eff T G ops.toList base tb j y s m := by
 refine eff_congr (fun t ht => updS_off fun e he eq => (h.xd e he).1 (eq ▸ ht)) (fun id hid => updM_off _ _ _ fun p hp eq => h.f1 p.1 ?_ (eq ▸ hid))
 rw [← hu]; exact List.mem_map.2 ⟨p, hp, rfl⟩
theorem Apart.eff_first {i j : Nat} {x y : Oper} (h : Apart ops.toList tb i j x y) (hu : (eff T G ops.toList base tb j y s m).u.map (·.1) = kyOf tb j) :
 eff T G ops.toList base tb i x (updS s y.dst (eff T G ops.toList base tb j y s m).r) (updM m (eff T G ops.toList base tb j y s m).u) = eff T G ops.toList base tb i x s m := by
 rcases h.f2 with f2 | ⟨g1, g2, ⟨t, a, b, g3⟩, ⟨t', a', b', g4⟩, hl⟩
 · refine eff_congr (fun t ht => updS_off fun e he eq => h.yd e he (eq ▸ ht)) (fun id hid => updM_off _ _ _ fun p hp eq => f2 p.1 ?_ (eq ▸ hid))
   rw [← hu]; exact List.mem_map.2 ⟨p, hp, rfl⟩
 · have hs : Sft m (updM m (eff T G ops.toList base tb j y s m).u) := entry_sft g4 g2 (fun i => by
    unfold restr
    split
    · exact .inl rfl
    · exact .inr rfl) (by
    have := congrArg List.length hu
    rw [List.length_map, hl] at this
    exact this)
   generalize updM m (eff T G ops.toList base tb j y s m).u = m' at hs ⊢
   have hs2 : Sft (restr (fpOf tb i) m) (restr (fpOf tb i) m') := fun k => by
    unfold restr
    split
    · exact hs k
    · exact .inl rfl
   have e1 : eff T G ops.toList base tb i x (updS s y.dst (eff T G ops.toList base tb j y s m).r) m' = eff T G ops.toList base tb i x s m' :=
    eff_congr (fun t ht => updS_off fun e he eq => h.yd e he (eq ▸ ht)) (fun _ _ => rfl)
   rw [e1]
   unfold eff stepE
   simp only [g1]
   exact lookup_sft hs2 g3

variable {Q0 : (Nat → AV) → Mem → Prop}

/-- The operation i may go first. -/
theorem seqH_first {i : Nat} {o : Oper} (hi : ops[i]? = some o) (R : List Nat) : ∀ (J : List Nat) (s : Nat → AV) (m : Mem), (∀ j ∈ J, apartB ops.toList tb j i = true) → seqH T G ops base tb Q0 (J ++ i :: R) s m →
 (eff T G ops.toList base tb i o s m).u.map (·.1) = kyOf tb i → (eff T G ops.toList base tb i o s m).asm →
 seqH T G ops base tb Q0 (J ++ R) (updS s o.dst (eff T G ops.toList base tb i o s m).r) (updM m (eff T G ops.toList base tb i o s m).u)
 | [], s, m, _, h, _, ha => by
   obtain ⟨o', ho', h1, h2, _, h3⟩ := h
   rw [hi] at ho'; cases ho'
   exact h3 ha
 | j :: J, s, m, hap, h, hu, ha => by
   obtain ⟨x, hx, h1, h2, hk, h3⟩ := h
   have hA := apartB_spec (ops := ops.toList) (tb := tb) (x := x) (y := o) (by simpa using hx) (by simpa using hi) (hap j List.mem_cons_self)
   have e1 := hA.eff_first (T := T) (G := G) (base := base) (s := s) (m := m) hu
   have e2 := hA.eff_second (T := T) (G := G) (base := base) (s := s) (m := m) h2
   refine ⟨x, hx, by rw [e1]; exact h1, by rw [e1]; exact h2, hk, fun hasm => ?_⟩
   rw [e1] at hasm ⊢
   have := seqH_first hi R J _ _ (fun q hq => hap q (List.mem_cons_of_mem _ hq)) (h3 hasm) (by rw [e2]; exact hu) (by rw [e2]; exact ha)
   rw [e2] at this
   rw [updS_comm (fun p q hp hq e => (hA.xd p hp).2 (e ▸ hq)), updM_comm (u := (eff T G ops.toList base tb j x s m).u)] at this
   · exact this
   · intro p hp q hq e
     refine hA.kk p.1 ?_ ?_
     · rw [← h2]; exact List.mem_map.2 ⟨p, hp, rfl⟩
     · rw [e, ← hu]; exact List.mem_map.2 ⟨q, hq, rfl⟩

structure DrawOk (ops : Array Oper) (tb : List (List Nat × List Nat)) : Prop where
 d : ∀ i, i < ops.size → ∀ e ∈ dirs ops.toList i, e < i
 a : ∀ i j, i < j → j < ops.size → i ∈ clos ops.toList 8 j ∨ apartB ops.toList tb i j = true

theorem drawOk_spec (h : drawOk ops.toList tb = true) : DrawOk ops tb := by
 unfold drawOk at h
 simp only [List.all_eq_true, List.mem_range, Bool.and_eq_true, Bool.or_eq_true, decide_eq_true_eq, List.contains_iff_mem, Array.length_toList] at h
 refine ⟨fun i hi => (h i hi).1, fun i j hij hj => ?_⟩
 rcases (h i (by omega)).2 j hj with (h1 | h1) | h1
 · omega
 · exact .inl h1
 · exact .inr h1

/-- What holds of an operation behind others that are apart from it holds now. -/
theorem seqH_pre (ht : TabOK P T) (hG : EnvD cx.D cx.gv P G) (hf : ∀ o ∈ ops.toList, Fo cx n o) {i : Nat} {o : Oper} (hi : ops[i]? = some o) (R : List Nat) :
 ∀ (J : List Nat) (s : Nat → AV) (m : Mem) (a : Act) (w : World) (σ : Nat → Value), (J ++ i :: R).Pairwise (· < ·) → (∀ j ∈ J, apartB ops.toList tb j i = true) → seqH T G ops base tb Q0 (J ++ i :: R) s m →
 RepF cx σ (Nr base ops.size (J ++ i :: R)) s m n a w → (eff T G ops.toList base tb i o s m).pre ∧ (eff T G ops.toList base tb i o s m).u.map (·.1) = kyOf tb i ∧ ∀ k ∈ kyOf tb i, k ∈ fpOf tb i ∨ (base + 32 * i ≤ k ∧ k < base + 32 * i + 32)
 | [], s, m, a, w, σ, _, _, h, _ => by
   obtain ⟨o', ho', h1, h2, h3, _⟩ := h
   rw [hi] at ho'; cases ho'
   exact ⟨h1, h2, h3⟩
 | j :: J, s, m, a, w, σ, hsort, hap, h, hr => by
   obtain ⟨x, hx, h1, h2, hk, h3⟩ := h
   have hA := apartB_spec (ops := ops.toList) (tb := tb) (x := x) (y := o) (by simpa using hx) (by simpa using hi) (hap j List.mem_cons_self)
   have e2 := hA.eff_second (T := T) (G := G) (base := base) (s := s) (m := m) h2
   have hlt : j < ops.size := (Array.getElem?_eq_some_iff.1 hx).1
   have hs' := List.pairwise_cons.1 hsort
   have hw := step_draw (F := Fence.wide) (nn := 0) (.inl rfl) (rem' := J ++ i :: R) (Q := fun _ _ _ => False) (K := fun a' w' => ∃ σ', RepF cx σ' (Nr base ops.size (J ++ i :: R)) (updS s x.dst (eff T G ops.toList base tb j x s m).r) (updM m (eff T G ops.toList base tb j x s m).u) n a' w' ∧ (eff T G ops.toList base tb j x s m).asm)
    hr ht hG hx (hf x (by have := Array.mem_of_getElem? hx; simpa using this)) (by simp) (fun q hq => ⟨List.mem_cons_of_mem _ hq, fun e => by have := hs'.1 q hq; omega⟩) hk h1 h2 (fun a' w' σ' h ha => ⟨σ', h, ha⟩)
   obtain ⟨a', w', σ', hr', ha⟩ := wpOp_ex hx hw
   have := seqH_pre ht hG hf hi R J _ _ a' w' σ' hs'.2 (fun q hq => hap q (List.mem_cons_of_mem _ hq)) (h3 ha) hr'
   rw [e2] at this
   exact this

theorem clos_listed {ops : List Oper} {l : Array Bool} (hdown : ∀ i, l.getD i false = true → ∀ e ∈ dirs ops i, l.getD e false = true) : ∀ (f j : Nat), (∀ e ∈ dirs ops j, l.getD e false = true) → ∀ i ∈ clos ops f j, l.getD i false = true
 | 0, _, _, i, hi => by simp [clos] at hi
 | f + 1, j, h, i, hi => by
   simp only [clos, List.mem_eraseDups, List.mem_append, List.mem_flatMap] at hi
   rcases hi with hi | ⟨e, he, hi⟩
   · exact h i hi
   · exact clos_listed hdown f e (fun q hq => hdown e (h e he) q hq) i hi

theorem mem_dirs {i e : Nat} {o : Oper} (hi : ops[i]? = some o) : e ∈ dirs ops.toList i ↔ ∃ d ∈ o.after, Region.binds .any d = true ∧ d.on = e := by
 unfold dirs
 have : ops.toList[i]? = some o := by simpa using hi
 rw [this]
 simp only [List.mem_map, List.mem_filter, Array.mem_toList_iff]
 constructor
 · rintro ⟨d, ⟨h1, h2⟩, h3⟩; exact ⟨d, h1, h2, h3⟩
 · rintro ⟨d, h1, h2, h3⟩; exact ⟨d, ⟨h1, h2⟩, h3⟩

theorem any_sound (hW : WideF F) (ht : TabOK P T) (hG : EnvD cx.D cx.gv P G) (hf : ∀ o ∈ ops.toList, Fo cx n o) (hd : DrawOk ops tb) {Q : Exit → Act → World → Prop}
 (hK : ∀ s m a w σ, Q0 s m → RepF cx σ (Nr base ops.size []) s m n a w → Q .normal a w) :
 ∀ (f : Nat) (rem : List Nat) (l : Array Bool) (s : Nat → AV) (m : Mem) (a : Act) (w : World) (σ : Nat → Value), rem.length = f → rem.Pairwise (· < ·) → l.size = ops.size →
   (∀ i, i ∈ rem ↔ i < ops.size ∧ l.getD i false = false) → (∀ i, l.getD i false = true → ∀ e ∈ dirs ops.toList i, l.getD e false = true) →
   seqH T G ops base tb Q0 rem s m → RepF cx σ (Nr base ops.size rem) s m n a w → wpAnyIn F nn P .any ops Q f l a w := by
 have tf : ∀ (l : Array Bool) (i : Nat), l.size = ops.size → i < ops.size → l.getD i true = l.getD i false := fun l i hl hi => by
  simp [Array.getD_eq_getD_getElem?, Array.getElem?_eq_getElem (show i < l.size by omega)]
 intro f
 induction f with
 | zero =>
   intro rem l s m a w σ hlen hsort hsz hmem hdown hseq hr
   have hnil := List.eq_nil_of_length_eq_zero hlen
   subst hnil
   refine ⟨?_, hK s m a w σ hseq hr⟩
   refine List.eq_nil_iff_forall_not_mem.2 fun i hi => ?_
   obtain ⟨h1, o, ho, _⟩ := mem_ready.1 hi
   have hlt : i < ops.size := (Array.getElem?_eq_some_iff.1 ho).1
   have := (hmem i).2 ⟨hlt, by rw [← tf l i hsz hlt]; exact h1⟩
   cases this
 | succ f ih =>
   intro rem l s m a w σ hlen hsort hsz hmem hdown hseq hr
   refine ⟨fun hnil => ?_, fun i hir => ?_⟩
   · exfalso
     cases rem with
     | nil => simp at hlen
     | cons r0 rest =>
       obtain ⟨hlt, hun⟩ := (hmem r0).1 List.mem_cons_self
       have hin : r0 ∈ Region.ready .any ops l := by
        refine mem_ready.2 ⟨by rw [tf l r0 hsz hlt]; exact hun, ops[r0], by simp [hlt], fun e he hb => ?_⟩
        have hlt' := hd.d r0 hlt e.on ((mem_dirs (by simp [hlt])).2 ⟨e, he, hb, rfl⟩)
        cases hl : l.getD e.on false with
        | true => rfl
        | false =>
          have hm := (hmem e.on).2 ⟨by omega, hl⟩
          rcases List.mem_cons.1 hm with h1 | h1
          · omega
          · have := (List.pairwise_cons.1 hsort).1 _ h1; omega
       rw [hnil] at hin
       cases hin
   · obtain ⟨h1, o, ho, hall⟩ := mem_ready.1 hir
     have hlt : i < ops.size := (Array.getElem?_eq_some_iff.1 ho).1
     have hun : l.getD i false = false := by rw [← tf l i hsz hlt]; exact h1
     have hin : i ∈ rem := (hmem i).2 ⟨hlt, hun⟩
     obtain ⟨J, R, rfl⟩ := List.append_of_mem hin
     have hdi : ∀ e ∈ dirs ops.toList i, l.getD e false = true := fun e he => by
      obtain ⟨d, h1, h2, h3⟩ := (mem_dirs ho).1 he
      rw [← h3]; exact hall d h1 h2
     have hps := List.pairwise_append.1 hsort
     have hpc := List.pairwise_cons.1 hps.2.1
     have hap : ∀ j ∈ J, apartB ops.toList tb j i = true := fun j hj => by
      have hji := hps.2.2 j hj i List.mem_cons_self
      rcases hd.a j i hji hlt with h2 | h2
      · have := clos_listed hdown 8 i hdi j h2
        have h3 := ((hmem j).1 (by simp [hj])).2
        rw [this] at h3; cases h3
      · exact h2
     obtain ⟨hp, hu, hky⟩ := seqH_pre ht hG hf ho R J s m a w σ hsort hap hseq hr
     have hfo : Fo cx n o := hf o (by have := Array.mem_of_getElem? ho; simpa using this)
     have hmem' : ∀ j, j ∈ J ++ R ↔ j ∈ J ++ i :: R ∧ j ≠ i := fun j => by
      simp only [List.mem_append, List.mem_cons]
      constructor
      · rintro (h | h)
        · exact ⟨.inl h, fun e => by have := hps.2.2 j h i List.mem_cons_self; omega⟩
        · exact ⟨.inr (.inr h), fun e => by have := hpc.1 j h; omega⟩
      · rintro ⟨h | h | h, hne⟩
        · exact .inl h
        · exact absurd h hne
        · exact .inr h
     refine step_draw hW (rem' := J ++ R) hr ht hG ho hfo hin (fun j hj => (hmem' j).1 hj) hky hp hu (fun a' w' σ' hr' ha => ?_)
     refine ih (J ++ R) (l.setIfInBounds i true) _ _ a' w' σ' (by simp at hlen ⊢; omega) ?_ (by simp [hsz]) (fun j => ?_) (fun j hj e he => ?_) (seqH_first ho R J s m hap hseq hu ha) hr'
     · exact List.pairwise_append.2 ⟨hps.1, hpc.2, fun x hx y hy => hps.2.2 x hx y (List.mem_cons_of_mem _ hy)⟩
     · rw [hmem' j, hmem j]
       by_cases hji : j = i
       · subst hji
         simp [hsz, hlt]
       · rw [getD_set_ne false (fun e => hji e.symm)]
         simp [hji]
     · by_cases hji : j = i
       · subst hji
         exact getD_set_true (hdi e he)
       · rw [getD_set_ne false (fun e => hji e.symm)] at hj
         exact getD_set_true (hdown j hj e he)

/-! ### from the walk -/

theorem step_virt (h : RepF cx σ (From fr) s m n a w) {F : List Nat} (ht : TabOK P T) (hG : EnvD cx.D cx.gv P G) {i : Nat} {o : Oper} (hi : ops[i]? = some o) (hf : Fo cx n o)
 (hp : (stepE T G ops.toList o s (restr F m) fr).pre) (hkey : keysOk F fr (stepE T G ops.toList o s (restr F m) fr).u = true) :
 ∃ a' w' σ', RepF cx σ' (From (fr + 32)) (updS s o.dst (stepE T G ops.toList o s (restr F m) fr).r) (updM m (stepE T G ops.toList o s (restr F m) fr).u) n a' w' ∧ (stepE T G ops.toList o s (restr F m) fr).asm := by
 have hsub : RepF (sub cx σ m w F) σ (From fr) s (restr F m) n a w := ⟨h.mm.sub F, fun i => repA_keep (keeps_sub _) _ _ (h.ss i), h.df, h.sz, h.fx⟩
 have hk : ∀ p ∈ (stepE T G ops.toList o s (restr F m) fr).u, p.1 ∈ F ∨ (fr ≤ p.1 ∧ p.1 < fr + 32) := fun p hp => by
  have := List.all_eq_true.1 hkey p hp
  simp only [Bool.or_eq_true, Bool.and_eq_true, decide_eq_true_eq, List.contains_iff_mem] at this
  exact this
 refine wpOp_ex (K := fun a' w' => ∃ σ', RepF cx σ' (From (fr + 32)) (updS s o.dst (stepE T G ops.toList o s (restr F m) fr).r) (updM m (stepE T G ops.toList o s (restr F m) fr).u) n a' w' ∧ (stepE T G ops.toList o s (restr F m) fr).asm) hi
  (step_sound (F := Fence.wide) (nn := 0) (.inl rfl) hsub (fun id h1 _ => h1) ht hG hi hf hp (fun a' w' σ' h' k ha => ⟨σ', ?_, ha⟩))
 have hdead : ∀ id, From fr id → m id = restr F m id := fun id hn => by
  rw [h.mm.fresh id hn]; unfold restr; split
  · rw [h.mm.fresh id hn]
  · rfl
 have hoff : ∀ id, F.contains id = false → ¬ From fr id → ∀ p ∈ (stepE T G ops.toList o s (restr F m) fr).u, p.1 ≠ id := by
  intro id hs hn p hp e
  rcases hk p hp with h1 | h1
  · rw [e] at h1; rw [List.contains_iff_mem.2 h1] at hs; cases hs
  · exact hn (by rw [← e]; exact h1.1)
 obtain ⟨g1, g2, g3⟩ := h.mm.glue F h'.mm k (fun id hs hn => by
  rw [updM_off _ _ _ (hoff id hs hn)]
  unfold restr; rw [hs]; simp) (updM m (stepE T G ops.toList o s (restr F m) fr).u)
  (fun id hs => updM_at (by unfold restr; rw [if_pos hs]) _) (fun id hn => updM_at (hdead id hn) _) (fun id hs hn => by
    rw [updM_off _ _ _ (hoff id hs hn)])
 have hfin : RepF cx σ' (Nx (From fr) fr) (updS s o.dst (stepE T G ops.toList o s (restr F m) fr).r) (updM m (stepE T G ops.toList o s (restr F m) fr).u) n a' w' :=
  ⟨g1, fun j => repA_keep g3 _ _ (h'.ss j), h'.df, h'.sz, h'.fx⟩
 exact hfin.weaken fun id hid => ⟨by unfold From at *; omega, by unfold From at *; omega⟩

/-- The walk in the text's order, as a run. -/
theorem evD_seq (ht : TabOK P T) (hG : EnvD cx.D cx.gv P G) {all : Array Oper} (hf : ∀ o ∈ all.toList, Fo cx n o) (K : Slots → Heap → List (List Nat × List Nat) → Prop) :
 ∀ (os : List Oper) (i : Nat) (s : Slots) (m : Heap) (acc : List (List Nat × List Nat)) (a : Act) (w : World) (σ : Nat → Value), (∀ j, os[j]? = all[i + j]?) → i + os.length = all.size → acc.length = i →
   evD T G all.toList base i os s m acc K → RepF cx σ (From (base + 32 * i)) (sget s) (mem m) n a w →
   ∃ tl sF mF, K sF mF (acc ++ tl) ∧ ∀ tb, (∀ j, j < os.length → tl[j]? = tb[i + j]?) → seqH T G all base tb (fun s m => s = sget sF ∧ m = mem mF) (List.range' i os.length) (sget s) (mem m)
 | [], i, s, m, acc, a, w, σ, _, _, _, hev, _ => ⟨[], s, m, by rw [List.append_nil]; exact hev, fun tb _ => ⟨rfl, rfl⟩⟩
 | o :: os, i, s, m, acc, a, w, σ, hos, hl, hacc, hev, h => by
   have h0 : all[i]? = some o := by simpa using (hos 0).symm
   obtain ⟨hp, hk, hev'⟩ := hev
   obtain ⟨a', w', σ', h', ha⟩ := step_virt h ht hG h0 (hf o (by have := Array.mem_of_getElem? h0; simpa using this)) hp hk
   rw [← sget_put, ← mem_setMany] at h'
   obtain ⟨tl, sF, mF, hK, hseq⟩ := evD_seq ht hG hf K os (i + 1) _ _ _ a' w' σ' (fun j => by have := hos (j + 1); simpa [Nat.add_assoc, Nat.add_comm 1 j] using this) (by simp at hl; omega)
    (by rw [List.length_append, hacc]; rfl) (hev' ha) h'
   refine ⟨_ :: tl, sF, mF, by rw [List.append_assoc] at hK; exact hK, fun tb htb => ?_⟩
   have e0 := htb 0 (by simp)
   simp only [List.getElem?_cons_zero, Nat.add_zero] at e0
   have ef : fpOf tb i = touchX G o ((opsOf o.op).map (opd (sget s))) (mem m) := by unfold fpOf; rw [List.getD_eq_getElem?_getD, ← e0]; rfl
   have ek : kyOf tb i = (stepE T G all.toList o (sget s) (restr (touchX G o ((opsOf o.op).map (opd (sget s))) (mem m)) (mem m)) (base + 32 * i)).u.map (·.1) := by unfold kyOf; rw [List.getD_eq_getElem?_getD, ← e0]; rfl
   have ee : eff T G all.toList base tb i o (sget s) (mem m) = stepE T G all.toList o (sget s) (restr (touchX G o ((opsOf o.op).map (opd (sget s))) (mem m)) (mem m)) (base + 32 * i) := by unfold eff; rw [ef]
   have hr := hseq tb (fun j hj => by
    have := htb (j + 1) (by simp; omega)
    simp only [List.getElem?_cons_succ] at this
    rw [this]; congr 1; omega)
   refine ⟨o, h0, ?_⟩
   rw [ee, ek, ef]
   refine ⟨hp, rfl, fun k hkk => ?_, fun _ => ?_⟩
   · obtain ⟨p, hp1, hp2⟩ := List.mem_map.1 hkk
     have := List.all_eq_true.1 hk p hp1
     simp only [Bool.or_eq_true, Bool.and_eq_true, decide_eq_true_eq, List.contains_iff_mem] at this
     rw [← hp2]; exact this
   · rw [← sget_put, ← mem_setMany]; exact hr

theorem RepF.drew (h : RepF cx σ N s m n a w) : RepF cx σ N s m n a { w with drawn := w.drawn + 1 } := by
 obtain ⟨h1, k⟩ := h.mm.step (σ' := σ) (N' := N) (m' := m) (w' := { w with drawn := w.drawn + 1 }) (fun _ => False) (fun _ h => h) (fun id hn => h.mm.fresh id hn) (fun _ _ => ⟨rfl, rfl⟩) (fun _ _ => rfl) (fun _ _ _ => rfl) ⟨Nat.le_refl _, Nat.le_succ _⟩ rfl rfl rfl
  (fun _ _ h => h.elim) (fun _ _ _ h => h.elim) (fun _ h => h.elim) (fun _ _ h => h.elim)
 exact ⟨h1, fun i => repA_keep k _ _ (h.ss i), h.df, h.sz, h.fx⟩

theorem draw_sound (hW : WideF F) (ht : TabOK P T) (hG : EnvD cx.D cx.gv P G) (hm : P.follows .mixedOrders = true) (hf : ∀ o ∈ ops.toList, Fo cx n o) {K : Slots → Heap → List (List Nat × List Nat) → Prop} {Q : Exit → Act → World → Prop}
 (hK : ∀ s m a w σ tb, K s m tb → RepF cx σ (From (base + 32 * ops.size)) (sget s) (mem m) n a w → Q .normal a w) {s : Slots} {m : Heap} {a : Act} {w : World} {σ : Nat → Value}
 (hev : evD T G ops.toList base 0 ops.toList s m [] (fun s m tb => drawOk ops.toList tb = true ∧ K s m tb)) (h : RepF cx σ (From base) (sget s) (mem m) n a w) {id : Nat} : (Code.region id ops true).wpIn F nn P Q a w := by
 refine wpIn_region_any hm ?_
 obtain ⟨tb, sF, mF, ⟨hok, hKF⟩, hseq⟩ := evD_seq ht hG hf (fun s m tb => drawOk ops.toList tb = true ∧ K s m tb) ops.toList 0 s m [] a w σ (fun j => by simp) (by simp) rfl hev h
 have hseq' := hseq tb (fun j _ => by simp)
 rw [List.nil_append] at hok hKF
 refine any_sound hW (cx := cx) (Q0 := fun s m => s = sget sF ∧ m = mem mF) ht hG hf (drawOk_spec hok) (fun s m a w σ hQ hr => ?_) ops.size (List.range' 0 ops.size) (Array.replicate ops.size false) (sget s) (mem m) a _ σ (by simp) ?_ (by simp) (fun i => ?_) (fun i hi => ?_) (by simpa using hseq') ?_
 · obtain ⟨rfl, rfl⟩ := hQ
   exact hK sF mF a w σ tb hKF (hr.weaken fun id hid => by unfold From at hid; exact ⟨by omega, .inr (by omega)⟩)
 · exact List.pairwise_lt_range'
 · simp [Array.getD_eq_getD_getElem?, Array.getElem?_replicate]
   intro hi; split <;> simp
 · simp [Array.getD_eq_getD_getElem?, Array.getElem?_replicate] at hi
   split at hi <;> simp at hi
 · exact h.drew.weaken fun id hid => hid.1

end
end Go.Ev
