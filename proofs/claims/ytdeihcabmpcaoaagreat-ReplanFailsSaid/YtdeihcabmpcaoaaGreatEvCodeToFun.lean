/- The walk of a body is sound. -/
import Derived.Test.YtdeihcabmpcaoaaGreatEvEntToRange
import Derived.LoopNIn
set_option linter.unusedSimpArgs false
set_option linter.unusedVariables false
namespace Go.Ev

def Ex.to : Ex → Exit
 | .normal => .normal
 | .ret => .ret
 | .exit id => .exit id

section
variable {cx : Cx} {σ : Nat → Value} {N : Nat → Prop} {n : Nat} {P : Program} {T : Tab} {G : Env} {ks : Nat}

theorem sget_keepL (ks : Nat) : ∀ (s : Slots) (i : Nat), sget (keepL ks s) i = sget s i ∨ sget (keepL ks s) i = .one .undef
 | [], i => .inr rfl
 | (k, v) :: l, i => by
   simp only [keepL]
   by_cases e : k = i
   · subst e
     split
     · exact .inl (by simp [sget, getL])
     · rename_i hc
       refine .inr ?_
       clear v
       induction l with
       | nil => rfl
       | cons p l ih =>
         obtain ⟨j, u⟩ := p
         simp only [keepL]
         split
         · rename_i hj
           have : ¬ j = k := fun e => by subst e; exact hc hj
           simp only [sget, getL, if_neg this]; exact ih
         · exact ih
   · split
     · simp only [sget, getL, if_neg e]; exact sget_keepL ks l i
     · rw [show sget ((k, v) :: l) i = sget l i by simp only [sget, getL, if_neg e]]; exact sget_keepL ks l i

theorem RepF.keepL {s : Slots} {m : Mem} {a : Act} {w : World} (h : RepF cx σ N (sget s) m n a w) : RepF cx σ N (sget (Ev.keepL ks s)) m n a w := by
 refine ⟨h.mm, fun i => ?_, h.df, h.sz, h.fx⟩
 rcases sget_keepL ks s i with e | e
 · rw [e]; exact h.ss i
 · rw [e]; unfold repA repC; trivial

theorem rounds_mono {F : Fence} {nn : Nat} {c : Code} {Q : Exit → Act → World → Prop} : ∀ {k k' : Nat} {a : Act} {w : World}, k ≤ k' → Code.roundsIn F nn P c Q k a w → Code.roundsIn F nn P c Q k' a w
 | 0, _, _, _, _, h => h.elim
 | k + 1, 0, _, _, hl, _ => by omega
 | k + 1, k' + 1, a, w, hl, h => by
   rw [roundsIn_succ] at *
   exact wpIn_mono h (fun e a w q => by
    cases e <;> first
     | exact rounds_mono (by omega) q
     | exact q)

/-- A scope that nobody jumps in. -/
theorem wpIn_scope {F : Fence} {nn : Nat} {c : Code} {Q : Exit → Act → World → Prop} {a : Act} {w : World} (h : c.wpIn F nn P (fun e a w => (∀ l, e ≠ .goto l) ∧ Q e a w) a w) : (Code.scope c).wpIn F nn P Q a w := by
 intro b k cs hro hb hr
 have h0 : (lone (b.atR a (.code (.scope c) :: k)) cs w).fenced P F := fenced_calm hb hr rfl
 have s0 : step P (lone (b.atR a (.code (.scope c) :: k)) cs w) = .next (lone (b.atR a (.code c :: .inScope c :: k)) cs w) := step_lone_go (by simp [stepG, stepG.exec, Frame.atR])
 obtain ⟨e, a₁, w₁, ⟨hg, hq⟩, harr⟩ := h b (.inScope c :: k) cs hro hb hr
 have s1 : step P (lone (b.atR a₁ (.inScope c :: k)) cs w₁) = .next (lone (b.atR a₁ k) cs w₁) := step_lone_go (by simp [stepG, stepG.exec, Frame.atR])
 cases e with
 | normal => exact ⟨.normal, a₁, w₁, hq, .head h0 s0 (StepsIn.trans harr (.one (fenced_calm hb hr rfl) s1))⟩
 | exit id =>
   have hx : exitTo id (.inScope c :: k) = exitTo id k := by simp [exitTo]
   exact ⟨.exit id, a₁, w₁, hq, fun k' hk => .head h0 s0 (harr.1 k' (by rw [hx]; exact hk)),
    fun hr' hk => let ⟨k₁, h1, h2⟩ := harr.2 hr' (by rw [hx]; exact hk); ⟨k₁, h1, .head h0 s0 h2⟩⟩
 | goto l => exact absurd rfl (hg l)
 | ret => exact ⟨_, a₁, w₁, hq, .of_steps (.one h0 s0) harr⟩
 | panic ch => exact ⟨_, a₁, w₁, hq, .of_steps (.one h0 s0) harr⟩
 | outgrown => exact ⟨_, a₁, w₁, hq, .of_steps (.one h0 s0) harr⟩

/-- The marks are new blocks, each met once. -/
def MkOk (cx : Cx) (mk : List Nat) : Prop := mk.Nodup ∧ ∀ D ∈ mk, cx.w0.heap.size ≤ D
/-- Either an activation of a function, or a round that leaves the slots that are fixed alone. -/
def OffOk (F : Fence) (nn : Nat) (cx : Cx) (c : Code) : Prop :=
 (F = Fence.wide ∧ nn = 3 ∧ ∀ d, cx.tm d = none) ∨ (∃ L, offC L c = true ∧ ∀ d v, cx.tm d = some v → d ∈ L)

def EvS (D : Prop) (gv : GVs) (P : Program) (T : Tab) (G : Env) (ks n : Nat) (c : Code) : Prop :=
 ∀ (cx : Cx) (F : Fence) (nn : Nat) (st : St) (K : Ex → St → Prop) (Q : Exit → Act → World → Prop) (a : Act) (w : World) (σ : Nat → Value), (cx.D = D ∧ cx.gv = gv) → cx.np ≤ 32 → WideF F → OffOk F nn cx c → fineC n c = true → MkOk cx cx.mks →
   ev T G ks c st K → RepF cx σ (From st.fr) (sget st.s) (mem st.m) n a w →
   (∀ e st' a' w' σ' mk, K e st' → MkOk cx mk → (F.round = none ∨ mk = cx.mks) → RepF { cx with mks := mk } σ' (From st'.fr) (sget st'.s) (mem st'.m) n a' w' → Q e.to a' w') → c.wpIn F nn P Q a w

theorem fo_of {F : Fence} {nn : Nat} {id : Nat} {ops : Array Oper} {dr : Bool} (h : OffOk F nn cx (.region id ops dr)) (hf : fineC n (.region id ops dr) = true) : ∀ o ∈ ops.toList, Fo cx n o := by
 intro o ho
 refine ⟨List.all_eq_true.1 (by simpa [fineC] using hf) o ho, fun d hd => ?_⟩
 rcases h with ⟨_, _, h⟩ | ⟨L, h1, h2⟩
 · exact h d
 · cases ht : cx.tm d with
   | none => rfl
   | some v =>
     have h3 : offO L o = true := List.all_eq_true.1 (by simpa [offC] using h1) o ho
     have h4 := h2 d v ht
     simp only [offO, hd, Bool.not_eq_true'] at h3
     rw [List.contains_iff_mem.2 h4] at h3; cases h3
theorem OffOk.l {F : Fence} {nn : Nat} {a b : Code} (h : OffOk F nn cx (.seq a b)) : OffOk F nn cx a ∧ OffOk F nn cx b := by
 rcases h with h | ⟨L, h1, h2⟩
 · exact ⟨.inl h, .inl h⟩
 · simp only [offC, Bool.and_eq_true] at h1
   exact ⟨.inr ⟨L, h1.1, h2⟩, .inr ⟨L, h1.2, h2⟩⟩
theorem OffOk.c {F : Fence} {nn : Nat} {x : Operand} {a b : Code} (h : OffOk F nn cx (.cond x a b)) : OffOk F nn cx a ∧ OffOk F nn cx b := by
 rcases h with h | ⟨L, h1, h2⟩
 · exact ⟨.inl h, .inl h⟩
 · simp only [offC, Bool.and_eq_true] at h1
   exact ⟨.inr ⟨L, h1.1, h2⟩, .inr ⟨L, h1.2, h2⟩⟩
theorem OffOk.b {F : Fence} {nn : Nat} {id : Nat} {a : Code} (h : OffOk F nn cx (.block id a)) : OffOk F nn cx a := by
 rcases h with h | ⟨L, h1, h2⟩
 · exact .inl h
 · exact .inr ⟨L, h1, h2⟩
theorem OffOk.lp {F : Fence} {nn : Nat} {a : Code} (h : OffOk F nn cx (.loop a)) : OffOk F nn cx a := by
 rcases h with h | ⟨L, h1, h2⟩
 · exact .inl h
 · exact .inr ⟨L, h1, h2⟩
theorem OffOk.sc {F : Fence} {nn : Nat} {a : Code} (h : OffOk F nn cx (.scope a)) : OffOk F nn cx a := by
 rcases h with h | ⟨L, h1, h2⟩
 · exact .inl h
 · exact .inr ⟨L, h1, h2⟩
theorem OffOk.mk {F : Fence} {nn : Nat} {c : Code} (h : OffOk F nn cx c) (mk : List Nat) : OffOk F nn { cx with mks := mk } c := h

theorem only_at : ∀ (s0 s : Slots) (i : Nat), (i ∈ keysS s0 ∧ sget (only s0 s) i = sget s i) ∨ (i ∉ keysS s0 ∧ sget (only s0 s) i = .one .undef)
 | [], s, i => .inr ⟨by simp [keysS], rfl⟩
 | (k, v) :: r, s, i => by
   by_cases e : k = i
   · subst e
     exact .inl ⟨by simp [keysS], by simp [only, sget, getL]⟩
   · have := only_at r s i
     simp only [keysS, only, List.mem_cons]
     rcases this with ⟨h1, h2⟩ | ⟨h1, h2⟩
     · exact .inl ⟨.inr h1, by simp only [sget, getL, if_neg e]; exact h2⟩
     · exact .inr ⟨fun h => by rcases h with h | h; exact e h.symm; exact h1 h, by simp only [sget, getL, if_neg e]; exact h2⟩
/-- A round's parameters. -/
theorem setMany_rep {x : Rx} : ∀ (ps : List Nat) (as : List AV) (vs : List Value) (s : Slots) (t : Array Value), ps.length = vs.length → repAs x as vs → (∀ p ∈ ps, p < t.size) → (∀ i, repA x (sget s i) (t.getD i undef)) →
 ∀ i, repA x (sget (setMany s (ps.zip as)) i) (((ps.zip vs).foldl (fun t (q : Nat × Value) => t.setIfInBounds q.1 q.2) t).getD i undef)
 | [], as, vs, s, t, _, _, _, h, i => h i
 | p :: ps, as, [], s, t, hl, _, _, _, i => by simp at hl
 | p :: ps, [], v :: vs, s, t, hl, hr, _, _, i => by unfold repAs at hr; cases hr
 | p :: ps, a :: as, v :: vs, s, t, hl, hr, hp, h, i => by
   unfold repAs at hr
   obtain ⟨v', r, e, h1, h2⟩ := hr
   cases e
   simp only [List.zip_cons_cons, setMany, List.foldl_cons]
   refine setMany_rep ps as vs (setL s p a) (t.setIfInBounds p v) (by simpa using hl) h2 (fun q hq => by rw [Array.size_setIfInBounds]; exact hp q (List.mem_cons_of_mem _ hq)) (fun j => ?_) i
   have hg : sget (setL s p a) j = if p = j then a else sget s j := getL_setL _ s p a j
   rw [hg]
   have hpt := hp p List.mem_cons_self
   by_cases e : p = j
   · subst e
     rw [if_pos rfl, Array.getD_eq_getD_getElem?, Array.getElem?_setIfInBounds_self_of_lt hpt]
     exact h1
   · rw [if_neg e, Array.getD_eq_getD_getElem?, Array.getElem?_setIfInBounds_ne e, ← Array.getD_eq_getD_getElem?]
     exact h j
theorem fold_off : ∀ (qs : List (Nat × Value)) (t : Array Value) (i : Nat), (∀ q ∈ qs, q.1 ≠ i) → (qs.foldl (fun t (q : Nat × Value) => t.setIfInBounds q.1 q.2) t).getD i undef = t.getD i undef
 | [], t, i, _ => rfl
 | q :: qs, t, i, h => by
   rw [List.foldl_cons, fold_off qs _ i (fun q' hq => h q' (List.mem_cons_of_mem _ hq)), Array.getD_eq_getD_getElem?, Array.getElem?_setIfInBounds_ne (h q List.mem_cons_self), ← Array.getD_eq_getD_getElem?]
theorem fold_size : ∀ (qs : List (Nat × Value)) (t : Array Value), (qs.foldl (fun t (q : Nat × Value) => t.setIfInBounds q.1 q.2) t).size = t.size
 | [], t => rfl
 | q :: qs, t => by rw [List.foldl_cons, fold_size qs]; exact Array.size_setIfInBounds ..

/-- The context of a part of a call that begins at a world. -/
def at_ (cx : Cx) (σ : Nat → Value) (m : Mem) (w : World) (tm : Nat → Option Value) : Cx := ⟨w, cx.F, fun b => ∃ id, own (m id) = true ∧ hb (σ id) b, cx.np, cx.arg, [], tm, cx.D, cx.gv⟩
theorem RepM.base {m : Mem} {w : World} (h : RepM cx σ N m w) (tm : Nat → Option Value) : RepM (at_ cx σ m w tm) σ N m w :=
 ⟨h.blk, h.fresh, h.inj, h.notF, fun id b h1 h2 => .inr ⟨id, h1, h2⟩, ⟨rfl, rfl, rfl, fun _ => Nat.le_refl _, Nat.le_refl _, fun _ _ _ => rfl⟩, h.hF, h.hone, h.fix, (fun _ h => by cases h), h.gl_next rfl rfl (fun b hb => .inl hb) (fun b hb => hb)⟩
theorem RepM.rebase {m m' : Mem} {w w' : World} {tm : Nat → Option Value} {mk : List Nat} {σ' : Nat → Value} {N' : Nat → Prop} (h : RepM cx σ N m w) (h' : RepM { at_ cx σ m w tm with mks := mk } σ' N' m' w') (mk2 : List Nat) (tm2 : Nat → Option Value) (hmk : ∀ D ∈ mk2, w'.heap[D]? = some (.deferred (some []))) :
 RepM { cx with mks := mk2, tm := tm2 } σ' N' m' w' := by
 refine ⟨h'.blk, h'.fresh, h'.inj, h'.notF, fun id b h1 h2 => ?_, ⟨h'.evo.os.trans h.evo.os, h'.evo.tape.trans h.evo.tape, h'.evo.output.trans h.evo.output, fun d => Nat.le_trans (h.evo.drawn d) (h'.evo.drawn d), Nat.le_trans h.evo.size h'.evo.size, fun b hb hmu => ?_⟩, h'.hF, h'.hone, h'.fix, hmk, h.gl⟩
 · rcases h'.low id b h1 h2 with h3 | ⟨i, h3, h4⟩
   · exact .inl (Nat.le_trans h.evo.size h3)
   · exact h.low i b h3 h4
 · have h1 := h.evo.block b hb hmu
   rw [h'.evo.block b (by have := h.evo.size; exact Nat.lt_of_lt_of_le hb this) ?_]
   · exact h1
   · rintro ⟨i, h3, h4⟩
     rcases h.low i b h3 h4 with h5 | h5
     · simp only at hb; omega
     · exact hmu h5
/-- What is not owned when a part begins, and lies already, is not owned when it ends. -/
theorem RepM.not_own {m m' : Mem} {w w' : World} {tm : Nat → Option Value} {mk : List Nat} {σ' : Nat → Value} {N' : Nat → Prop} (h' : RepM { at_ cx σ m w tm with mks := mk } σ' N' m' w') {b : Nat} (hb : b < w.heap.size) (ho : ¬ Owned cx σ m b) : ¬ Owned cx σ' m' b := by
 rintro (hf | ⟨id, h1, h2⟩)
 · exact ho (.inl hf)
 · rcases h'.low id b h1 h2 with h3 | ⟨i, h3, h4⟩
   · simp only [at_] at h3; omega
   · exact ho (.inr ⟨i, h3, h4⟩)

theorem RepM.growN {m : Mem} {w w' : World} {B : Nat} (h : RepM cx σ N m w) (hg : GrowN B w w') (hB : cx.w0.heap.size ≤ B) (hmk : cx.mks = []) : RepM cx σ N m w' := by
 obtain ⟨row, g1, g2, g3⟩ := hg
 have := h.grow g1 g2 (fun id ho b hb e => by
  obtain ⟨_, o, e1, e2⟩ := g3 b e.symm
  obtain ⟨o', e3, e4⟩ := repB_dat (h.blk id) ho b hb
  have e3 : w.heap[b]? = some o' := e3
  rw [e1] at e3; cases e3; rw [e2] at e4; cases e4) (fun r e => by
   obtain ⟨h1, o, e1, e2⟩ := g3 r e
   exact ⟨Nat.le_trans hB h1, o, e1, by cases o <;> first | rfl | (simp [datB] at e2)⟩) [] (fun _ h => by cases h)
 rw [← hmk] at this
 exact this

/-- A RANGE OVER A FUNCTION. -/
theorem rf_sound (ht : TabOK P T) {D : Prop} {gv : GVs} (hG : EnvD D gv P G) (hcd : cx.D = D ∧ cx.gv = gv) {g : Operand} {ps : Array Tmp} {c b : Code} (hc : EvS D gv P T G ks n c) (hb : EvS D gv P T G ks n b) (st : St) (K : Ex → St → Prop) (Q : Exit → Act → World → Prop) (a : Act) (w : World)
 (hnp : cx.np ≤ 32) (htm : ∀ d, cx.tm d = none) (hf : fineC n (.rangeFunc g ps c b) = true) (hmk : MkOk cx cx.mks) (hev : ev T G ks (.rangeFunc g ps c b) st K) (h : RepF cx σ (From st.fr) (sget st.s) (mem st.m) n a w)
 (hK : ∀ e st' a' w' σ' mk, K e st' → MkOk cx mk → RepF { cx with mks := mk } σ' (From st'.fr) (sget st'.s) (mem st'.m) n a' w' → Q e.to a' w') : (Code.rangeFunc g ps c b).wpIn Fence.wide 3 P Q a w := by
 simp only [fineC, Bool.and_eq_true, List.all_eq_true, decide_eq_true_eq] at hf
 obtain ⟨⟨⟨hfg, hfp⟩, hfc⟩, hfb⟩ := hf
 have hgr := opd_rep h hfg
 unfold ev at hev
 split at hev
 case h_2 => exact hev.elim
 rename_i f caps hopd
 rw [hopd] at hgr
 split at hev
 case h_2 => exact hev.elim
 rename_i I hI
 unfold repA repC at hgr
 obtain ⟨lb, hga, hcaps⟩ := hgr
 obtain ⟨hpre, har, l, ⟨x0, hent⟩, hoffc, hoff, hpk, hround, hend⟩ := hev
 obtain ⟨hit, hhas⟩ := hG.it f I hI
 obtain ⟨vals, bs, hM1, hk1, hvals, hbs, hseq⟩ := hit cx σ (From st.fr) (mem st.m) w caps lb h.mm hcaps hpre
 generalize hE : I caps (mem st.m) = E at *
 obtain ⟨σ1, hM2, hss2, hO2⟩ := hM1.ent hnp hent (fun i => a.tmps.getD i undef) (fun i => repA_keep hk1 _ _ (h.ss i))
 -- the loop's own context
 let tm0 : Nat → Option Value := fun _ => none
 let cxI : Cx := at_ cx σ1 (mem (l.m [] x0)) w tm0
 let a0 : Act := { a with defers := [] }
 have hMI : RepM cxI σ1 (From l.fr) (mem (l.m [] x0)) w := hM2.base tm0
 have hown : ∀ {σ' : Nat → Value} {N' : Nat → Prop} {m' : Mem} {W : World}, RepM cxI σ' N' m' W → ∀ bb, bb < w.heap.size → ¬ Owned cx σ (updM (mem st.m) E.u) bb → ¬ Owned cx σ' m' bb := fun hr bb hb1 hb2 =>
  RepM.not_own (cx := cx) (σ := σ1) (m := mem (l.m [] x0)) (w := w) (tm := tm0) (mk := []) hr hb1 (fun ho => hb2 (hO2 bb ho))
 have hkeepI : ∀ {σ' : Nat → Value} {N' : Nat → Prop} {m' : Mem} {W : World}, RepM cxI σ' N' m' W → Keep w W (Owned cx σ (updM (mem st.m) E.u)) (Owned cx σ' m') := fun hr => .ex fun bb hb1 hb2 =>
  ⟨hown hr bb hb1 hb2, hr.evo.block bb hb1 (fun ⟨i, h3, h4⟩ => hb2 (hO2 bb (.inr ⟨i, h3, h4⟩)))⟩
 let Inv : List Nat → World → Prop := fun p W => ∃ (x : l.X p) (σ' : Nat → Value), RepF cxI σ' (From l.fr) (sget l.s) (mem (l.m p x)) n a0 W
 let Ix : Code → List Nat → World → Prop := fun c p W => ∃ (e : Ex) (st' : St) (σ' : Nat → Value), ((c = .ret ∧ e = Ex.ret) ∨ ∃ id, c = .exit id ∧ e = Ex.exit id) ∧ K e ⟨only l.s st'.s, st'.m, st'.fr⟩ ∧ RepF cxI σ' (From st'.fr) (sget (only l.s st'.s)) (mem st'.m) n a0 W
 have growF : ∀ {σ' : Nat → Value} {N' : Nat → Prop} {s : Slots} {m' : Mem} {A B : World}, RepF cxI σ' N' (sget s) m' n a0 A → GrowN w.heap.size A B → RepF cxI σ' N' (sget s) m' n a0 B := fun {σ' N' s m' A B} hr hg => by
  refine ⟨hr.mm.growN hg (Nat.le_refl _) rfl, fun i => ?_, hr.df, hr.sz, hr.fx⟩
  obtain ⟨row, g1, g2, g3⟩ := hg
  have kk : Rx.Keeps (rx cxI σ' N' m' A) (rx cxI σ' N' m' B) := by
   refine ⟨⟨fun bb hb1 hb2 => ⟨hb2, fun o ho hc => ?_⟩⟩, fun _ _ => rfl, fun _ h => h⟩
   have hb1 : bb < A.heap.size := hb1
   have ho : A.heap[bb]? = some o := ho
   refine (g1.block bb hb1 fun e => ?_).trans ho
   obtain ⟨_, o', e1, e2⟩ := g3 bb e.symm
   rw [ho] at e1; cases e1
   cases o <;> first | (simp [datB] at e2; done) | (simp [Obj.isCells] at hc; done)
  exact repA_keep kk _ _ (hr.ss i)
 refine wpIn_range (gf := f) (lb := lb.toArray) hga (fun args w' => ?_) hseq (fun bb hb => (hbs bb hb).1) (fun p j hp => (hvals p j hp).2.1.trans har) Inv Ix (fun p A B => ?_) (fun c p A B => ?_) ?_ ?_ ?_ ?_
 · obtain ⟨fn, q1, q2, q3⟩ := hhas.ex
   have q2' : ¬ fn.name = "runtime.NumGoroutine" := by simpa using q2
   have q3' : fn.body ≠ none := by intro hh; rw [hh] at q3; cases q3
   simp [callFunc, q1, q2', q3']
 · rintro ⟨x, σ', hr⟩ hg
   exact ⟨x, σ', growF hr hg⟩
 · rintro ⟨e, st', σ', h1, h2, hr⟩ hg
   exact ⟨e, st', σ', h1, h2, growF hr hg⟩
 · exact ⟨x0, σ1, hMI, hss2, rfl, h.sz, fun i v hv => by cases hv⟩
 · -- a round
   rintro lo p j W hp ⟨x, σ', hr⟩ hWs
   obtain ⟨hasm, hvs, hvr⟩ := hvals p j hp
   let tm : Nat → Option Value := fun d => if (keysS l.s).contains d = true then some (a.tmps.getD d undef) else none
   let cxR : Cx := at_ cxI σ' (mem (l.m p x)) W tm
   have hMR : RepM cxR σ' (From l.fr) (mem (l.m p x)) W := hr.mm.base tm
   have hps2 : ps.toList.length = (vals j).toList.length := by rw [Array.length_toList, Array.length_toList, hvs, har]
   have hfold : (ps.zip (vals j)).foldl (fun t (q : Tmp × Value) => t.setIfInBounds q.1 q.2) a.tmps = (ps.toList.zip (vals j).toList).foldl (fun t (q : Nat × Value) => t.setIfInBounds q.1 q.2) a.tmps := by
    rw [← Array.foldl_toList, Array.toList_zip]
   have hpo : ∀ i, i ∈ keysS l.s → ∀ q ∈ ps.toList.zip (vals j).toList, q.1 ≠ i := fun i hi q hq e => by
    have h1 := List.all_eq_true.1 hpk q.1 (List.of_mem_zip hq).1
    rw [e, List.contains_iff_mem.2 hi] at h1; cases h1
   have hRF : RepF cxR σ' (From l.fr) (sget (setMany l.s (ps.toList.zip (E.y j)))) (mem (l.m p x)) n ⟨(ps.zip (vals j)).foldl (fun t (q : Tmp × Value) => t.setIfInBounds q.1 q.2) a.tmps, []⟩ W := by
    rw [hfold]
    refine ⟨hMR, fun i => ?_, rfl, by rw [fold_size]; exact h.sz, fun i v hv => ?_⟩
    · exact setMany_rep ps.toList (E.y j) (vals j).toList l.s a.tmps hps2 (hvr (rx cxR σ' (From l.fr) (mem (l.m p x)) W) (hkeepI hr.mm)) (fun q hq => by rw [h.sz]; exact hfp q hq) hr.ss i
    · show _ = _
      simp only [cxR, at_, tm] at hv
      split at hv
      · rename_i hc
        cases hv
        exact fold_off _ _ i (hpo i (List.contains_iff_mem.1 hc))
      · cases hv
   have htmk : ∀ d v, tm d = some v → d ∈ keysS l.s := fun d v hv => by
    simp only [tm] at hv
    split at hv
    · rename_i hc; exact List.contains_iff_mem.1 hc
    · cases hv
   refine hc cxR (Fence.wide.inRound lo) 1 ⟨setMany l.s (ps.toList.zip (E.y j)), l.m p x, l.fr⟩ _ _ _ W σ' hcd hnp (.inr ⟨lo, rfl⟩) (.inr ⟨keysS l.s, hoffc, htmk⟩) hfc ⟨List.nodup_nil, fun _ h => by cases h⟩ (hround p j x hp hasm) hRF ?_
   intro e0 st1 a1 W1 σa mk1 hK1 _ hmk1 hA
   rcases hmk1 with hmk1 | rfl
   · cases hmk1
   cases e0 with
   | ret => exact hK1.elim
   | exit id => exact hK1.elim
   | normal =>
   have hMA : RepM cxI σa (From st1.fr) (mem st1.m) W1 := RepM.rebase hr.mm hA.mm [] tm0 (fun _ h => by cases h)
   have hkn1 : KeepN W W1 := ⟨hA.mm.evo.size, fun k o hk hd => by
    refine (hA.mm.evo.block k (Array.getElem?_eq_some_iff.1 hk).1 ?_).trans hk
    rintro ⟨i, h3, h4⟩
    obtain ⟨o', e1, e2⟩ := repB_dat (hr.mm.blk i) h3 k h4
    have e1 : W.heap[k]? = some o' := e1
    rw [hk] at e1; cases e1; rw [hd] at e2; cases e2⟩
   have hkp1 : KpB bs W W1 := fun bb hbb => hA.mm.evo.block bb (by have := (hbs bb hbb).1; exact Nat.lt_of_lt_of_le this hWs) (by
    rintro ⟨i, h3, h4⟩
    exact hown hr.mm bb (hbs bb hbb).1 (hbs bb hbb).2 (.inr ⟨i, h3, h4⟩))
   refine ⟨hkn1, hkp1, fun W2 hG2 hz2 => ?_⟩
   have hM2' : RepM cxI σa (From st1.fr) (mem st1.m) W2 := hMA.growN hG2 (Nat.le_refl _) rfl
   let cxB : Cx := at_ cxI σa (mem st1.m) W2 tm
   have hRB : RepF cxB σa (From st1.fr) (sget st1.s) (mem st1.m) n a1 W2 := by
    refine ⟨hM2'.base tm, fun i => ?_, hA.df, hA.sz, hA.fx⟩
    obtain ⟨row, g1, g2, g3⟩ := hG2
    have kk : Rx.Keeps (rx cxI σa (From st1.fr) (mem st1.m) W1) (rx cxB σa (From st1.fr) (mem st1.m) W2) := by
     refine ⟨⟨fun bb hb1 hb2 => ⟨hb2, fun o ho hc => ?_⟩⟩, fun _ _ => rfl, fun _ h => h⟩
     have hb1 : bb < W1.heap.size := hb1
     have ho : W1.heap[bb]? = some o := ho
     refine (g1.block bb hb1 fun e => ?_).trans ho
     obtain ⟨_, o', e1, e2⟩ := g3 bb e.symm
     rw [ho] at e1; cases e1
     cases o <;> first | (simp [datB] at e2; done) | (simp [Obj.isCells] at hc; done)
    exact repA_keep kk _ _ (hA.ss i)
   have hWs2 : w.heap.size ≤ W2.heap.size := by rw [hz2]; exact Nat.le_trans hWs hkn1.size
   refine hb cxB (Fence.wide.inRound lo) 1 st1 _ (rPost bs Inv Ix (p ++ [j]) W2) _ W2 σa hcd hnp (.inr ⟨lo, rfl⟩) (.inr ⟨keysS l.s, hoff, htmk⟩) hfb ⟨List.nodup_nil, fun _ h => by cases h⟩ hK1 hRB ?_
   · intro e st' a' W' σ2 mk2 hKe hmk2 _ h'
     have hMI' : RepM cxI σ2 (From st'.fr) (mem st'.m) W' := RepM.rebase hM2' h'.mm [] tm0 (fun _ h => by cases h)
     have hkn : KeepN W2 W' := ⟨h'.mm.evo.size, fun k o hk hd => by
      refine (h'.mm.evo.block k (Array.getElem?_eq_some_iff.1 hk).1 ?_).trans hk
      rintro ⟨i, h3, h4⟩
      obtain ⟨o', e1, e2⟩ := repB_dat (hM2'.blk i) h3 k h4
      have e1 : W2.heap[k]? = some o' := e1
      rw [hk] at e1; cases e1; rw [hd] at e2; cases e2⟩
     have hkp : KpB bs W2 W' := fun bb hbb => h'.mm.evo.block bb (by have := (hbs bb hbb).1; exact Nat.lt_of_lt_of_le this hWs2) (by
      rintro ⟨i, h3, h4⟩
      exact hown hM2' bb (hbs bb hbb).1 (hbs bb hbb).2 (.inr ⟨i, h3, h4⟩))
     have hout : RepF cxI σ2 (From st'.fr) (sget (only l.s st'.s)) (mem st'.m) n a0 W' := by
      refine ⟨hMI', fun i => ?_, rfl, h.sz, fun i v hv => by cases hv⟩
      rcases only_at l.s st'.s i with ⟨h1, h2⟩ | ⟨h1, h2⟩
      · rw [h2]
        have := h'.fx i (a.tmps.getD i undef) (by simp only [cxB, at_, tm]; rw [if_pos (List.contains_iff_mem.2 h1)])
        have h3 := h'.ss i
        rw [this] at h3
        exact h3
      · rw [h2]; unfold repA repC; trivial
     cases e with
     | normal =>
       obtain ⟨y, hy⟩ := hKe
       obtain ⟨σ3, h3⟩ := hout.ent hnp hy
       exact ⟨hkn, hkp, y, σ3, h3⟩
     | ret => exact ⟨hkn, .ret, st', σ2, .inl ⟨rfl, rfl⟩, hKe, hout⟩
     | exit id => exact ⟨hkn, .exit id, st', σ2, .inr ⟨id, rfl, rfl⟩, hKe, hout⟩
 · -- all have come
   rintro D p W hD hp ⟨x, σ', hr⟩ hDW
   have hold : ∀ D', D' ∈ cx.mks → W.heap[D']? = some (.deferred (some [])) ∧ D' < w.heap.size := fun D' hD' => by
    have h1 := h.mm.mks D' hD'
    have hlt := (Array.getElem?_eq_some_iff.1 h1).1
    refine ⟨(hr.mm.evo.block D' hlt ?_).trans h1, hlt⟩
    rintro ⟨i, h3, h4⟩
    obtain ⟨o', e1, e2⟩ := repB_dat (hMI.blk i) h3 D' h4
    have e1 : w.heap[D']? = some o' := e1
    rw [h1] at e1; cases e1; cases e2
   refine hK .normal ⟨l.s, l.m p x, l.fr⟩ _ W σ' (D :: cx.mks) (hend p x hp) ⟨List.nodup_cons.2 ⟨fun hm => by have := (hold D hm).2; omega, hmk.1⟩, fun D' hD' => ?_⟩ ⟨RepM.rebase (mk := []) hM2 hr.mm (D :: cx.mks) cx.tm (fun D' hD' => ?_), hr.ss, ?_, h.sz, fun i v hv => ?_⟩
   · rcases List.mem_cons.1 hD' with e | e
     · rw [e]; exact Nat.le_trans h.mm.evo.size hD
     · exact hmk.2 D' e
   · rcases List.mem_cons.1 hD' with e | e
     · rw [e]; exact hDW
     · exact (hold D' e).1
   · show _ = _
     simp only [List.map_cons, h.df]
   · rw [htm] at hv; cases hv
 · -- a round has left
   rintro D c p W hD hp ⟨e, st', σ', hc, hKe, hr⟩ hDW
   have hold : ∀ D', D' ∈ cx.mks → W.heap[D']? = some (.deferred (some [])) ∧ D' < w.heap.size := fun D' hD' => by
    have h1 := h.mm.mks D' hD'
    have hlt := (Array.getElem?_eq_some_iff.1 h1).1
    refine ⟨(hr.mm.evo.block D' hlt ?_).trans h1, hlt⟩
    rintro ⟨i, h3, h4⟩
    obtain ⟨o', e1, e2⟩ := repB_dat (hMI.blk i) h3 D' h4
    have e1 : w.heap[D']? = some o' := e1
    rw [h1] at e1; cases e1; cases e2
   have hQ : Q e.to { a with defers := markD D :: a.defers } W := by
    refine hK e ⟨only l.s st'.s, st'.m, st'.fr⟩ _ W σ' (D :: cx.mks) hKe ⟨List.nodup_cons.2 ⟨fun hm => by have := (hold D hm).2; omega, hmk.1⟩, fun D' hD' => ?_⟩ ⟨RepM.rebase (mk := []) hM2 hr.mm (D :: cx.mks) cx.tm (fun D' hD' => ?_), hr.ss, ?_, h.sz, fun i v hv => ?_⟩
    · rcases List.mem_cons.1 hD' with e | e
      · rw [e]; exact Nat.le_trans h.mm.evo.size hD
      · exact hmk.2 D' e
    · rcases List.mem_cons.1 hD' with e | e
      · rw [e]; exact hDW
      · exact (hold D' e).1
    · show _ = _
      simp only [List.map_cons, h.df]
    · rw [htm] at hv; cases hv
   rcases hc with ⟨rfl, rfl⟩ | ⟨id, rfl, rfl⟩
   · exact wpIn_ret hQ
   · exact wpIn_exit hQ

theorem ev_sound (ht : TabOK P T) {D : Prop} {gv : GVs} (hG : EnvD D gv P G) (hm : P.follows .mixedOrders = true) : ∀ (c : Code), EvS D gv P T G ks n c
 | .skip => fun cx F nn st K Q a w σ hcd hnp hW hoff hf hmk hev h hK => wpIn_skip (hK .normal st a w σ cx.mks hev hmk (.inr rfl) h)
 | .ret => fun cx F nn st K Q a w σ hcd hnp hW hoff hf hmk hev h hK => wpIn_ret (hK .ret st a w σ cx.mks hev hmk (.inr rfl) h)
 | .exit id => fun cx F nn st K Q a w σ hcd hnp hW hoff hf hmk hev h hK => wpIn_exit (hK (.exit id) st a w σ cx.mks hev hmk (.inr rfl) h)
 | .region _ ops false => fun cx F nn st K Q a w σ hcd hnp hW hoff hf hmk hev h hK =>
   region_sound hW ht (hcd.1.symm ▸ hcd.2.symm ▸ hG) (fo_of hoff hf) (fun s m a' w' σ' hk h' => hK .normal ⟨Ev.keepL ks s, m, st.fr + 32 * ops.size⟩ a' w' σ' cx.mks hk hmk (.inr rfl) h'.keepL) hev h
 | .region _ ops true => fun cx F nn st K Q a w σ hcd hnp hW hoff hf hmk hev h hK =>
   draw_sound hW (K := fun s m _ => K .normal ⟨Ev.keepL ks s, m, st.fr + 32 * ops.size⟩) ht (hcd.1.symm ▸ hcd.2.symm ▸ hG) hm (fo_of hoff hf) (fun s m a' w' σ' tb hk h' => hK .normal ⟨Ev.keepL ks s, m, st.fr + 32 * ops.size⟩ a' w' σ' cx.mks hk hmk (.inr rfl) h'.keepL) hev h
 | .seq x y => fun cx F nn st K Q a w σ hcd hnp hW hoff hf hmk hev h hK => by
   simp only [fineC, Bool.and_eq_true] at hf
   refine wpIn_seq (ev_sound ht hG hm x cx F nn st _ _ a w σ hcd hnp hW hoff.l.1 hf.1 hmk hev h (fun e st' a' w' σ' mk hk hmk' hq h' => ?_))
   cases e with
   | normal => exact ev_sound ht hG hm y { cx with mks := mk } F nn st' K Q a' w' σ' hcd hnp hW hoff.l.2 hf.2 hmk' hk h' (fun e st2 a2 w2 σ2 mk2 hk2 hm2 hq2 h2 => hK e st2 a2 w2 σ2 mk2 hk2 hm2 (hq.elim .inl (fun e1 => hq2.elim .inl (fun e2 => .inr (e2.trans e1)))) h2)
   | ret => exact hK .ret st' a' w' σ' mk hk hmk' hq h'
   | exit id => exact hK (.exit id) st' a' w' σ' mk hk hmk' hq h'
 | .cond c x y => fun cx F nn st K Q a w σ hcd hnp hW hoff hf hmk hev h hK => by
   simp only [fineC, Bool.and_eq_true] at hf
   have hc := opd_rep h hf.1.1
   simp only [ev] at hev
   split at hev
   · rename_i e he
     rw [he] at hc
     exact wpIn_cond_split (of_bool hc) (fun ht' => ev_sound ht hG hm x cx F nn st K Q a w σ hcd hnp hW hoff.c.1 hf.1.2 hmk (hev.1 ht') h hK) (fun hf' => ev_sound ht hG hm y cx F nn st K Q a w σ hcd hnp hW hoff.c.2 hf.2 hmk (hev.2 hf') h hK)
   · exact hev.elim
 | .block id b => fun cx F nn st K Q a w σ hcd hnp hW hoff hf hmk hev h hK => by
   simp only [fineC] at hf
   refine wpIn_block (ev_sound ht hG hm b cx F nn st _ _ a w σ hcd hnp hW hoff.b hf hmk hev h (fun e st' a' w' σ' mk hk hmk' hq h' => ?_))
   cases e with
   | normal => exact hK .normal st' a' w' σ' mk hk hmk' hq h'
   | ret => exact hK .ret st' a' w' σ' mk hk hmk' hq h'
   | exit j =>
     simp only at hk
     simp only [Ex.to, Exit.inBlock]
     split at hk
     · rename_i e; rw [if_pos e]; exact hK .normal st' a' w' σ' mk hk hmk' hq h'
     · rename_i e; rw [if_neg e]; exact hK (.exit j) st' a' w' σ' mk hk hmk' hq h'
 | .loop b => fun cx F nn st K Q a w σ hcd hnp hW hoff hf hmk hev h hK => by
   simp only [fineC] at hf
   obtain ⟨l, ⟨gs, x, hx⟩, hround⟩ := hev
   obtain ⟨σ0, h0⟩ := (h.seals gs).ent hnp hx
   have key : ∀ (k : Nat) (x : l.X) (a : Act) (w : World) (σ : Nat → Value) (mk : List Nat), MkOk cx mk → (F.round = none ∨ mk = cx.mks) → l.mu x = k → RepF { cx with mks := mk } σ (From l.fr) (sget (l.s x)) (mem (l.m x)) n a w → Code.roundsIn F nn P b Q (k + 1) a w := by
    intro k
    induction k using Nat.strongRecOn with
    | _ k ih =>
      intro x a w σ mk hmk hq0 hx h
      refine ev_sound ht hG hm b { cx with mks := mk } F nn ⟨l.s x, l.m x, l.fr⟩ _ _ a w σ hcd hnp hW hoff.lp hf hmk (hround x) h (fun e st' a' w' σ' mk' hk hmk' hq h' => ?_)
      have hq' : F.round = none ∨ mk' = cx.mks := hq.elim .inl (fun e1 => hq0.elim .inl (fun e2 => .inr (e1.trans e2)))
      cases e with
      | normal =>
        obtain ⟨y, hy, hlt⟩ := hk
        obtain ⟨σ2, h2⟩ := h'.ent hnp hy
        have := ih (l.mu y) (by omega) y a' w' σ2 mk' hmk' hq' rfl h2
        simp only [Ex.to, Exit.then]
        exact rounds_mono (by omega) this
      | ret => exact hK .ret st' a' w' σ' mk' hk hmk' hq' h'
      | exit j => exact hK (.exit j) st' a' w' σ' mk' hk hmk' hq' h'
   exact wpIn_loop_rounds _ (key (l.mu x) x a w σ0 cx.mks hmk (.inr rfl) rfl h0)
 | .goto _ => fun cx F nn st K Q a w σ hcd hnp hW hoff hf hmk hev h hK => hev.elim
 | .label _ => fun cx F nn st K Q a w σ hcd hnp hW hoff hf hmk hev h hK => wpIn_label (hK .normal st a w σ cx.mks hev hmk (.inr rfl) h)
 | .refuse _ => fun cx F nn st K Q a w σ hcd hnp hW hoff hf hmk hev h hK => hev.elim
 | .scope b => fun cx F nn st K Q a w σ hcd hnp hW hoff hf hmk hev h hK => wpIn_scope (ev_sound ht hG hm b cx F nn st K _ a w σ hcd hnp hW hoff.sc hf hmk hev h (fun e st' a' w' σ' mk h1 h2 h3 h4 => ⟨fun l => by cases e <;> (intro q; cases q), hK e st' a' w' σ' mk h1 h2 h3 h4⟩))
 | .rangeFunc g ps c b => fun cx F nn st K Q a w σ hcd hnp hW hoff hf hmk hev h hK => by
   rcases hoff with ⟨rfl, rfl, htm⟩ | ⟨L, h1, _⟩
   · exact rf_sound ht hG hcd (ev_sound ht hG hm c) (ev_sound ht hG hm b) st K Q a w hnp htm hf hmk hev h (fun e st' a' w' σ' mk h1 h2 h3 => hK e st' a' w' σ' mk h1 h2 (.inl rfl) h3)
   · simp [offC] at h1

end
end Go.Ev

/- The walk, in the form in which it is reckoned: a stack of what is left; each effect is reckoned before it is used. -/
set_option linter.unusedSimpArgs false
set_option linter.unusedVariables false
namespace Go.Ev

/-- What a walk is about. -/
structure Wk where
 T : Tab
 G : Env
 ks : Nat
 K : Ex → St → Prop

inductive Itm where
 | seq (c : Code) | blk (id : Nat) | lp (l : LSpec) (x : l.X) | rf (l : RSpec) (q : List Nat) | sq (c : Code)

def kont (X : Wk) : List Itm → Ex → St → Prop
 | [], e, st => X.K e st
 | .seq c :: r, .normal, st => ev X.T X.G X.ks c st (kont X r)
 | .seq _ :: r, e, st => kont X r e st
 | .blk id :: r, .exit j, st => if j = id then kont X r .normal st else kont X r (.exit j) st
 | .blk _ :: r, e, st => kont X r e st
 | .lp l x :: _, .normal, st => ∃ y, ent st.s (mem st.m) l.fr (l.s y) (l.m y) ∧ l.mu y < l.mu x
 | .lp _ _ :: r, e, st => kont X r e st
 | .rf l q :: _, .normal, st => ∃ y : l.X q, ent (only l.s st.s) (mem st.m) l.fr l.s (l.m q y)
 | .rf l _ :: r, e, st => kont X r e ⟨only l.s st.s, st.m, st.fr⟩
 | .sq c :: r, .normal, st => ev X.T X.G X.ks c st (kont X r)
 | .sq _ :: _, _, _ => False

def evk (X : Wk) (c : Code) (s : Slots) (m : Heap) (fr : Nat) (k : List Itm) : Prop := ev X.T X.G X.ks c ⟨s, m, fr⟩ (kont X k)
def fin (X : Wk) (e : Ex) (s : Slots) (m : Heap) (fr : Nat) (k : List Itm) : Prop := kont X k e ⟨s, m, fr⟩
def evO (X : Wk) (all os : List Oper) (s : Slots) (m : Heap) (fr : Nat) (k : List Itm) : Prop :=
 evOps X.T X.G all fr 0 os s m (fun s m => fin X .normal (keepL X.ks s) m (fr + 32 * os.length) k)
def stX (X : Wk) (all os : List Oper) (o : Oper) (s : Slots) (m : Heap) (fr : Nat) (k : List Itm) : Option Chc → Prop
 | some C => C.pre ∧ ∀ a, C.asm a → evO X all os (putS s o.dst (C.r a)) (setMany m (C.u a)) (fr + 32) k
 | none => let E := stepE X.T X.G all o (sget s) (mem m) fr
   E.pre ∧ (E.asm → evO X all os (putS s o.dst E.r) (setMany m E.u) (fr + 32) k)
def stE (X : Wk) (all os : List Oper) (dst : Option Nat) (s : Slots) (m : Heap) (fr : Nat) (k : List Itm) (E : Eff) : Prop :=
 E.pre ∧ (E.asm → evO X all os (putS s dst E.r) (setMany m E.u) (fr + 32) k)
def evR (X : Wk) (all os : List Oper) (s : Slots) (m : Heap) (fr : Nat) (i : Nat) (acc : List (List Nat × List Nat)) (k : List Itm) : Prop :=
 evD X.T X.G all fr 0 os s m acc (fun s m tb => drawOk all tb = true ∧ fin X .normal (keepL X.ks s) m (fr + 32 * os.length) k)
def stR (X : Wk) (all os : List Oper) (dst : Option Nat) (s : Slots) (m : Heap) (fr : Nat) (i : Nat) (acc : List (List Nat × List Nat)) (k : List Itm) (F : List Nat) (E : Eff) : Prop :=
 E.pre ∧ keysOk F fr E.u = true ∧ (E.asm → evR X all os (putS s dst E.r) (setMany m E.u) (fr + 32) (i + 1) (acc ++ [(F, E.u.map (·.1))]) k)
def cnd (X : Wk) (a b : Code) (s : Slots) (m : Heap) (fr : Nat) (k : List Itm) : AV → Prop
 | .one (.bool e) => (e = true → evk X a s m fr k) ∧ (e = false → evk X b s m fr k)
 | _ => False

section
variable {X : Wk} {s : Slots} {m : Heap} {fr : Nat} {k : List Itm}

theorem evk_skip : evk X .skip s m fr k = fin X .normal s m fr k := rfl
theorem evk_label {l : Nat} : evk X (.label l) s m fr k = fin X .normal s m fr k := rfl
theorem evk_scope {b : Code} : evk X (.scope b) s m fr k = evk X b s m fr k := rfl
theorem evk_ret : evk X .ret s m fr k = fin X .ret s m fr k := rfl
theorem evk_exit {id : Nat} : evk X (.exit id) s m fr k = fin X (.exit id) s m fr k := rfl
theorem evk_seq {a b : Code} : evk X (.seq a b) s m fr k = evk X a s m fr (.seq b :: k) := by
 unfold evk
 show ev _ _ _ a _ _ = ev _ _ _ a _ _
 congr 1
 funext e st
 cases e <;> rfl
theorem evk_block {id : Nat} {b : Code} : evk X (.block id b) s m fr k = evk X b s m fr (.blk id :: k) := by
 unfold evk
 show ev _ _ _ b _ _ = ev _ _ _ b _ _
 congr 1
 funext e st
 cases e <;> rfl
theorem evk_cond {c : Operand} {a b : Code} : evk X (.cond c a b) s m fr k = cnd X a b s m fr k (opd (sget s) c) := by
 unfold evk
 simp only [ev]
 generalize opd (sget s) c = v
 cases v with
 | one c => cases c <;> rfl
 | _ => rfl
theorem evk_region {id : Nat} {ops : Array Oper} : evk X (.region id ops false) s m fr k = evO X ops.toList ops.toList s m fr k := by
 unfold evk evO fin; simp only [ev, Array.length_toList]
theorem evk_draw {id : Nat} {ops : Array Oper} : evk X (.region id ops true) s m fr k = evR X ops.toList ops.toList s m fr 0 [] k := by
 unfold evk evR fin; simp only [ev, Array.length_toList]

theorem evOps_shift {T : Tab} {G : Env} {all : List Oper} {K : Slots → Heap → Prop} : ∀ (os : List Oper) (base i : Nat) (s : Slots) (m : Heap), evOps T G all base (i + 1) os s m K = evOps T G all (base + 32) i os s m K
 | [], _, _, _, _ => rfl
 | o :: os, base, i, s, m => by
   have e : base + 32 * (i + 1) = base + 32 + 32 * i := by omega
   simp only [evOps, e, evOps_shift os]
theorem evD_shift {T : Tab} {G : Env} {all : List Oper} {K : Slots → Heap → List (List Nat × List Nat) → Prop} : ∀ (os : List Oper) (base i : Nat) (s : Slots) (m : Heap) (acc : List (List Nat × List Nat)), evD T G all base (i + 1) os s m acc K = evD T G all (base + 32) i os s m acc K
 | [], _, _, _, _, _ => rfl
 | o :: os, base, i, s, m, acc => by
   have e : base + 32 * (i + 1) = base + 32 + 32 * i := by omega
   simp only [evD, e, evD_shift os]

theorem evO_nil {all : List Oper} : evO X all [] s m fr k = fin X .normal (keepL X.ks s) m fr k := rfl
theorem evO_cons {all os : List Oper} {o : Oper} : evO X all (o :: os) s m fr k = stX X all os o s m fr k (altO X.T X.G all o (sget s) (mem m) fr) := by
 unfold evO stX evO
 simp only [evOps, evOps_shift, List.length_cons, Nat.mul_zero, Nat.add_zero]
 rw [show fr + 32 * (os.length + 1) = fr + 32 + 32 * os.length by omega]
 cases altO X.T X.G all o (sget s) (mem m) fr <;> rfl
theorem stX_none {all os : List Oper} {o : Oper} : stX X all os o s m fr k none = stE X all os o.dst s m fr k (stepE X.T X.G all o (sget s) (mem m) fr) := rfl
theorem stX_some {all os : List Oper} {o : Oper} {C : Chc} : stX X all os o s m fr k (some C) = (C.pre ∧ ∀ a, C.asm a → evO X all os (putS s o.dst (C.r a)) (setMany m (C.u a)) (fr + 32) k) := rfl
theorem stE_mk {all os : List Oper} {dst : Option Nat} {p q : Prop} {r : AV} {u : Heap} : stE X all os dst s m fr k ⟨p, r, u, q⟩ = (p ∧ (q → evO X all os (putS s dst r) (setMany m u) (fr + 32) k)) := rfl
theorem evR_nil {all : List Oper} {i : Nat} {acc : List (List Nat × List Nat)} : evR X all [] s m fr i acc k = (drawOk all acc = true ∧ fin X .normal (keepL X.ks s) m fr k) := rfl
theorem evR_cons {all os : List Oper} {o : Oper} {i : Nat} {acc : List (List Nat × List Nat)} : evR X all (o :: os) s m fr i acc k =
 stR X all os o.dst s m fr i acc k (touchX X.G o ((opsOf o.op).map (opd (sget s))) (mem m)) (stepE X.T X.G all o (sget s) (restr (touchX X.G o ((opsOf o.op).map (opd (sget s))) (mem m)) (mem m)) fr) := by
 unfold evR stR evR
 simp only [evD, evD_shift, List.length_cons, Nat.mul_zero, Nat.add_zero]
 rw [show fr + 32 * (os.length + 1) = fr + 32 + 32 * os.length by omega]
theorem stR_mk {all os : List Oper} {dst : Option Nat} {p q : Prop} {r : AV} {u : Heap} {i : Nat} {acc : List (List Nat × List Nat)} {F : List Nat} : stR X all os dst s m fr i acc k F ⟨p, r, u, q⟩ = (p ∧ keysOk F fr u = true ∧ (q → evR X all os (putS s dst r) (setMany m u) (fr + 32) (i + 1) (acc ++ [(F, u.map (·.1))]) k)) := rfl

theorem cnd_bool {a b : Code} {e : Bool} : cnd X a b s m fr k (.one (.bool e)) = ((e = true → evk X a s m fr k) ∧ (e = false → evk X b s m fr k)) := rfl
theorem fin_seq {c : Code} : fin X .normal s m fr (.seq c :: k) = evk X c s m fr k := rfl
theorem fin_seq_ret {c : Code} : fin X .ret s m fr (.seq c :: k) = fin X .ret s m fr k := rfl
theorem fin_seq_exit {c : Code} {id : Nat} : fin X (.exit id) s m fr (.seq c :: k) = fin X (.exit id) s m fr k := rfl
theorem fin_blk {id : Nat} : fin X .normal s m fr (.blk id :: k) = fin X .normal s m fr k := rfl
theorem fin_blk_ret {id : Nat} : fin X .ret s m fr (.blk id :: k) = fin X .ret s m fr k := rfl
theorem fin_blk_exit {id j : Nat} : fin X (.exit j) s m fr (.blk id :: k) = if j = id then fin X .normal s m fr k else fin X (.exit j) s m fr k := rfl
theorem fin_lp_ret {l : LSpec} {x : l.X} : fin X .ret s m fr (.lp l x :: k) = fin X .ret s m fr k := rfl
theorem fin_lp_exit {l : LSpec} {x : l.X} {id : Nat} : fin X (.exit id) s m fr (.lp l x :: k) = fin X (.exit id) s m fr k := rfl
theorem fin_nil {e : Ex} : fin X e s m fr [] = X.K e ⟨s, m, fr⟩ := rfl

/-- A loop: its states, a measure; what a round does; the rows with rows that turn into data ahead of it. -/
theorem evk_loopG {b : Code} (gs : List Nat) (l : LSpec) (x : l.X) (h0 : ent s (sealM gs (mem m)) l.fr (l.s x) (l.m x)) (h : ∀ x, evk X b (l.s x) (l.m x) l.fr (.lp l x :: k)) : evk X (.loop b) s m fr k := by
 refine ⟨l, ⟨gs, x, h0⟩, fun x => ?_⟩
 have := h x
 unfold evk at this
 have e : (fun (e : Ex) (st' : St) => match e with
  | .normal => ∃ y, ent st'.s (mem st'.m) l.fr (l.s y) (l.m y) ∧ l.mu y < l.mu x
  | .ret => kont X k .ret st'
  | .exit j => kont X k (.exit j) st') = kont X (.lp l x :: k) := by
  funext e st
  cases e <;> rfl
 rw [← e] at this
 exact this
theorem evk_loop {b : Code} (l : LSpec) (x : l.X) (h0 : ent s (mem m) l.fr (l.s x) (l.m x)) (h : ∀ x, evk X b (l.s x) (l.m x) l.fr (.lp l x :: k)) : evk X (.loop b) s m fr k := evk_loopG [] l x h0 h
theorem fin_lp {l : LSpec} {x : l.X} (y : l.X) (h : ent s (mem m) l.fr (l.s y) (l.m y)) (hm : l.mu y < l.mu x) : fin X .normal s m fr (.lp l x :: k) := ⟨y, h, hm⟩

theorem fin_sq {c : Code} : fin X .normal s m fr (.sq c :: k) = evk X c s m fr k := rfl
theorem fin_rf_ret {l : RSpec} {q : List Nat} : fin X .ret s m fr (.rf l q :: k) = fin X .ret (only l.s s) m fr k := rfl
theorem fin_rf_exit {l : RSpec} {q : List Nat} {id : Nat} : fin X (.exit id) s m fr (.rf l q :: k) = fin X (.exit id) (only l.s s) m fr k := rfl
end
end Go.Ev

/- Functions: what a call reads and gives, as plain data; a body's walk gives a contract. -/
set_option linter.unusedSimpArgs false
set_option linter.unusedVariables false
namespace Go.Ev

/-- What a closure holds: a variable's box; a box with a plain function; a box that is given away; a box that is told apart (EvBox). -/
inductive CapK where
 | p (e : TypeId) (t : Ty) | fb (e : TypeId) (g : FuncId) | po (e : TypeId) (t : Ty) | bx
/-- What a parameter is: data; a pointer to a struct; a map; a slice that is written in place; one that is given away; a function with what it holds; a nil slice. -/
inductive PK where
 | d (ag : Bool) (t : Ty) | p (e : TypeId) (t : Ty) | mp (kt vt : Ty) (ka va : Bool) | o (e : TypeId) (t : Ty) | oc (e : TypeId) (t : Ty) | cl (g : FuncId) (ks : List CapK) | nl | bx | pm (t kt vt : Ty) (ka va : Bool)
/-- What a result is: data; a new slice; a pointer to a new struct; a new map; a function that holds a new box. -/
inductive RK where
 | d (ag : Bool) (t : Ty) | o (e : TypeId) (t : Ty) | p (e : TypeId) (t : Ty) | mp (kt vt : Ty) (ka va : Bool) | cl (g : FuncId) (e : TypeId) (t : Ty)

@[reducible] def CapK.den : CapK → Type
  | .p _ t => t.den
  | .fb _ _ => Unit
  | .po _ t => t.den
  | .bx => Unit
@[reducible] def cdens : List CapK → Type
  | [] => Unit
  | k :: ks => k.den × cdens ks
@[reducible] def PK.den : PK → Type
  | .d _ t => t.den
  | .p _ t => t.den
  | .mp kt vt _ _ => List (kt.den × vt.den)
  | .o _ t => List t.den
  | .oc _ t => List t.den
  | .cl _ ks => cdens ks
  | .nl => Unit
  | .bx => Unit
  | .pm t kt vt _ _ => t.den × List (kt.den × vt.den)
@[reducible] def RK.den : RK → Type
  | .d _ t => t.den
  | .cl _ _ t => t.den
  | .o _ t => List t.den
  | .p _ t => t.den
  | .mp kt vt _ _ => List (kt.den × vt.den)
@[reducible] def dens : List PK → Type
  | [] => Unit
  | k :: ks => k.den × dens ks
@[reducible] def rdens : List RK → Type
  | [] => Unit
  | k :: ks => k.den × rdens ks

def castMap (kt' vt' kt vt : Ty) (l : List (kt'.den × vt'.den)) : Option (List (kt.den × vt.den)) :=
 if h : kt' = kt ∧ vt' = vt then some (h.1 ▸ h.2 ▸ l) else none

def rdBlk (t : Ty) (e : TypeId) (m : Mem) : Blk → Option t.den
 | .cells e' cs => if e' = e then impl m t cs else none
 | _ => none
def rdMap (kt vt : Ty) (ka va : Bool) : Blk → Option (List (kt.den × vt.den))
 | .mapb kt' vt' ka' va' l => if ka' = ka ∧ va' = va then castMap kt' vt' kt vt l else none
 | _ => none

def rdRow (t : Ty) (e : TypeId) : Blk → Option (List t.den)
 | .row e' u xs => if e' = e then castTy u t xs else none
 | _ => none
def rdFb (e : TypeId) (g : FuncId) : Blk → Option Unit
 | .cells e' [.fn g' []] => if e' = e ∧ g' = g then some () else none
 | _ => none
/-- A box, whatever is in it. -/
def rdBx : Blk → Option Unit
 | .cells _ _ => some ()
 | _ => none
def rdCap (m : Mem) : (k : CapK) → C1 → Option k.den
 | .p e t, .loc id 0 => rdBlk t e m (m id)
 | .fb e g, .loc id 0 => rdFb e g (m id)
 | .po e t, .loc id 0 => rdBlk t e m (m id)
 | .bx, .loc id 0 => rdBx (m id)
 | _, _ => none
def rdCaps (m : Mem) : (ks : List CapK) → List C1 → Option (cdens ks)
 | [], [] => some ()
 | k :: ks, c :: cs => implP (rdCap m k c) (rdCaps m ks cs)
 | _, _ => none

/-- A struct's cells, of which the last one is a map. -/
def splitM : List C1 → Option (List C1 × Nat)
 | [] => none
 | [.map j] => some ([], j)
 | c :: cs => (splitM cs).map fun p => (c :: p.1, p.2)
def rdPm (m : Mem) (t kt vt : Ty) (ka va : Bool) : Option (List C1 × Nat) → Option (t.den × List (kt.den × vt.den))
 | some (ds, j) => implP (impl m t ds) (rdMap kt vt ka va (m j))
 | none => none
def pmId : Option (List C1 × Nat) → List Nat
 | some (_, j) => [j]
 | none => []

/-- An argument, read. -/
def rd (m : Mem) : (k : PK) → AV → Option k.den
 | .d false t, .one c => impl m t [c]
 | .d true t, .agg cs => impl m t cs
 | .p e t, .one (.loc id 0) => rdBlk t e m (m id)
 | .mp kt vt ka va, .one (.map id) => rdMap kt vt ka va (m id)
 | .o e t, .one (.row id) => rdRow t e (m id)
 | .oc e t, .one (.row id) => rdRow t e (m id)
 | .cl g ks, .one (.fn g' caps) => if g' = g then rdCaps m ks caps else none
 | .nl, .one .nilsl => some ()
 | .bx, .one (.loc id 0) => rdBx (m id)
 | .pm t kt vt ka va, .one (.sp cs 0) => rdPm m t kt vt ka va (splitM cs)
 | _, _ => none
def rds (m : Mem) : (ks : List PK) → List AV → Option (dens ks)
 | [], [] => some ()
 | k :: ks, v :: vs => implP (rd m k v) (rds m ks vs)
 | _, _ => none

/-- The ids of what is pointed to. -/
def capIds : List C1 → List Nat
 | [] => []
 | .loc id _ :: cs => id :: capIds cs
 | _ :: cs => capIds cs
def pid (m : Mem) : PK → AV → List Nat
 | .p _ _, .one (.loc id _) => [id]
 | .mp _ _ _ _, .one (.map id) => [id]
 | .o _ _, .one (.row id) => [id]
 | .oc _ _, .one (.row id) => [id]
 | .cl _ _, .one (.fn _ caps) => capIds caps
 | .bx, .one (.loc id _) => [id]
 | .pm _ _ _ _ _, .one (.sp cs _) => pmId (splitM cs)
 | _, _ => []
def pids (m : Mem) : List PK → List AV → List Nat
 | k :: ks, v :: vs => pid m k v ++ pids m ks vs
 | _, _ => []
/-- The rows that are seen as data. -/
def blkRows : Blk → List Nat
 | .cells _ cs => rowsOf cs
 | _ => []
def capRows (m : Mem) : List CapK → List C1 → List Nat
 | .bx :: ks, _ :: cs => capRows m ks cs
 | _ :: ks, .loc id _ :: cs => blkRows (m id) ++ capRows m ks cs
 | _ :: ks, _ :: cs => capRows m ks cs
 | _, _ => []
def rw1 (m : Mem) : PK → AV → List Nat
 | .d _ _, v => rowsOf v.cells
 | .p _ _, .one (.loc id _) => blkRows (m id)
 | .cl _ ks, .one (.fn _ caps) => capRows m ks caps
 | .pm _ _ _ _ _, .one (.sp cs _) => rowsOf cs
 | _, _ => []
def rws (m : Mem) : List PK → List AV → List Nat
 | k :: ks, v :: vs => rw1 m k v ++ rws m ks vs
 | _, _ => []
/-- Nothing is met twice. -/
def okIds (a b : List Nat) : Prop := a.Nodup ∧ (a.all fun i => !b.contains i) = true
instance (a b : List Nat) : Decidable (okIds a b) := by unfold okIds; infer_instance

/-- The callee's ids for what is pointed to. -/
def capCids : Nat → List CapK → List Nat
 | _, [] => []
 | i, .bx :: ks => 31 :: capCids (i + 1) ks
 | i, _ :: ks => i :: capCids (i + 1) ks
def pcid (i : Nat) : PK → List Nat
 | .d _ _ => []
 | .p _ _ | .mp _ _ _ _ | .o _ _ | .oc _ _ => [i]
 | .cl _ ks => capCids (8 + 4 * i) ks
 | .nl => []
 | .bx => [31]
 | .pm _ _ _ _ _ => [i]
def pcids : Nat → List PK → List Nat
 | _, [] => []
 | i, k :: ks => pcid i k ++ pcids (i + 1) ks
def pcOk (ps : List PK) : Bool := decide (pcids 0 ps).Nodup && (pcids 0 ps).all (fun i => decide (i < 32))

/-- The parameter, in the callee's eyes. -/
def capAvs : Nat → List CapK → List C1
 | _, [] => []
 | i, .bx :: ks => .loc 31 0 :: capAvs (i + 1) ks
 | i, _ :: ks => .loc i 0 :: capAvs (i + 1) ks
def pav (i : Nat) : (k : PK) → k.den → AV
 | .d ag t, y => avOf ag (expl t y)
 | .p _ _, _ => .one (.loc i 0)
 | .mp _ _ _ _, _ => .one (.map i)
 | .o _ _, _ => .one (.row i)
 | .oc _ _, _ => .one (.row i)
 | .cl g ks, _ => .one (.fn g (capAvs (8 + 4 * i) ks))
 | .nl, _ => .one .nilsl
 | .bx, _ => .one (.loc 31 0)
 | .pm t _ _ _ _, y => .one (.sp (expl t y.1 ++ [.map i]) 0)
def capBlk : (k : CapK) → k.den → Blk
 | .p e t, y => .cells e (expl t y)
 | .fb e g, _ => .cells e [.fn g []]
 | .po e t, y => .cells e (expl t y)
 | .bx, _ => .dead
def capBlks : (ks : List CapK) → cdens ks → List Blk
 | [], _ => []
 | k :: ks, x => capBlk k x.1 :: capBlks ks x.2
def capNb : (k : CapK) → k.den → Blk
 | .po _ _, _ => .dead
 | .bx, _ => .dead
 | k, y => capBlk k y
def capNbs : (ks : List CapK) → cdens ks → List Blk
 | [], _ => []
 | k :: ks, x => capNb k x.1 :: capNbs ks x.2
/-- The blocks, as they come in and as they are left. -/
def pbl : (k : PK) → k.den → List Blk
 | .d _ _, _ => []
 | .p e t, y => [.cells e (expl t y)]
 | .mp kt vt ka va, l => [.mapb kt vt ka va l]
 | .o e t, xs => [.row e t xs]
 | .oc e t, xs => [.row e t xs]
 | .cl _ ks, x => capBlks ks x
 | .nl, _ => []
 | .bx, _ => [.dead]
 | .pm _ kt vt ka va, y => [.mapb kt vt ka va y.2]
def nbl : (k : PK) → k.den → List Blk
 | .oc _ _, _ => [.dead]
 | .cl _ ks, x => capNbs ks x
 | k, y => pbl k y
def pslots : Nat → (ks : List PK) → dens ks → Slots
 | _, [], _ => []
 | i, k :: ks, x => (i, pav i k x.1) :: pslots (i + 1) ks x.2
def pheapB (B : (k : PK) → k.den → List Blk) : Nat → (ks : List PK) → dens ks → Heap
 | _, [], _ => []
 | i, k :: ks, x => (pcid i k).zip (B k x.1) ++ pheapB B (i + 1) ks x.2
def pheap : Nat → (ks : List PK) → dens ks → Heap := pheapB pbl
def nheap : Nat → (ks : List PK) → dens ks → Heap := pheapB nbl
/-- The caller's blocks, as they are behind the call. -/
def pupd (m : Mem) : (ks : List PK) → List AV → dens ks → Heap
 | [], _, _ => []
 | _ :: _, [], _ => []
 | k :: ks, v :: vs, x => (pid m k v).zip (nbl k x.1) ++ pupd m ks vs x.2

/-- A result; its block. -/
def rav (j : Nat) : (k : RK) → k.den → AV
 | .d ag t, y => avOf ag (expl t y)
 | .o _ _, _ => .one (.row j)
 | .p _ _, _ => .one (.loc j 0)
 | .mp _ _ _ _, _ => .one (.map j)
 | .cl g _ _, _ => .one (.fn g [.loc j 0])
def rblk : (k : RK) → k.den → Option Blk
 | .d _ _, _ => none
 | .o e t, xs => some (.row e t xs)
 | .p e t, y => some (.cells e (expl t y))
 | .mp kt vt ka va, l => some (.mapb kt vt ka va l)
 | .cl _ e t, y => some (.cells e (expl t y))
def ravs : Nat → (ks : List RK) → rdens ks → List AV
 | _, [], _ => []
 | j, k :: ks, x => rav j k x.1 :: ravs (j + 1) ks x.2
def rslots : Nat → Nat → (ks : List RK) → rdens ks → Slots
 | _, _, [], _ => []
 | i, j, k :: ks, x => (i, rav j k x.1) :: rslots (i + 1) (j + 1) ks x.2
def rheap : Nat → (ks : List RK) → rdens ks → Heap
 | _, [], _ => []
 | j, k :: ks, x => match rblk k x.1 with | some b => (j, b) :: rheap (j + 1) ks x.2 | none => rheap (j + 1) ks x.2
def rwf1 : (k : RK) → k.den → Prop
 | .d _ t, y => Wf t y
 | .o _ t, xs => Wf (.sl t) xs
 | .p _ t, y => Wf t y
 | .mp _ _ _ _, _ => True
 | .cl _ _ t, y => Wf t y
def rwf : (ks : List RK) → rdens ks → Prop
 | [], _ => True
 | k :: ks, x => rwf1 k x.1 ∧ rwf ks x.2
def cwf : (ks : List CapK) → cdens ks → Prop
 | [], _ => True
 | .p _ t :: ks, x => Wf t x.1 ∧ cwf ks x.2
 | .fb _ _ :: ks, x => cwf ks x.2
 | .po _ t :: ks, x => Wf t x.1 ∧ cwf ks x.2
 | .bx :: ks, x => cwf ks x.2
def pwf1 : (k : PK) → k.den → Prop
 | .d _ t, y => Wf t y
 | .p _ t, y => Wf t y
 | .o _ t, y => Wf (.sl t) y
 | .oc _ t, y => Wf (.sl t) y
 | .cl _ ks, x => cwf ks x
 | .pm t _ _ _ _, y => Wf t y.1
 | _, _ => True
def pwf : (ks : List PK) → dens ks → Prop
 | [], _ => True
 | k :: ks, x => pwf1 k x.1 ∧ pwf ks x.2

/-- No memory behind it. -/
def flat : Ty → Bool
 | .sl _ => false
 | .pair a b => flat a && flat b
 | _ => true
def rflat : RK → Bool
 | .d _ t | .o _ t | .p _ t | .cl _ _ t => flat t
 | .mp kt vt _ _ => flat kt && flat vt
def cflat : CapK → Bool
 | .p _ t => flat t
 | _ => true
def pflat : PK → Bool
 | .p _ t | .o _ t => flat t
 | .mp kt vt _ _ => flat kt && flat vt
 | .pm _ kt vt _ _ => flat kt && flat vt
 | .cl _ ks => ks.all cflat
 | _ => true

def pack : List AV → AV
 | [v] => v
 | vs => .tup vs

/-- A contract on plain data: what is asked; what may come out: the results, the parameters' new contents. -/
structure RCon where
 ps : List PK
 rs : List RK
 pre : dens ps → Prop
 rel : dens ps → rdens rs → dens ps → Prop
structure Con where
 ps : List PK
 rs : List RK
 pre : dens ps → Prop
 out : dens ps → rdens rs
 nw : dens ps → dens ps

/-- What a call writes. -/
def updC (ps : List PK) (rs : List RK) (avs : List AV) (m : Mem) (fr : Nat) (y : rdens rs) (z : dens ps) : Heap :=
 (if rs.all rflat && ps.all pflat then [] else (rws m ps avs).map (settle m)) ++ (pupd m ps avs z ++ rheap fr rs y)

def Con.eff (C : Con) (avs : List AV) (m : Mem) (fr : Nat) (x : dens C.ps) : Eff :=
 ⟨C.pre x, pack (ravs fr C.rs (C.out x)), updC C.ps C.rs avs m fr (C.out x) (C.nw x), rwf C.rs (C.out x)⟩

def Con.effO (C : Con) (avs : List AV) (m : Mem) (fr : Nat) : Option (dens C.ps) → Eff
 | some x => if okIds (pids m C.ps avs) (rws m C.ps avs) then C.eff avs m fr x else bad
 | none => bad

def Con.ctr (C : Con) : Ctr := fun avs m fr => C.effO avs m fr (rds m C.ps avs)

def Chc.bad : Chc := ⟨Unit, False, fun _ => .one .undef, fun _ => [], fun _ => True⟩
def RCon.chc (C : RCon) (avs : List AV) (m : Mem) (fr : Nat) (x : dens C.ps) : Chc :=
 ⟨rdens C.rs × dens C.ps, C.pre x, fun a => pack (ravs fr C.rs a.1), fun a => updC C.ps C.rs avs m fr a.1 a.2, fun a => C.rel x a.1 a.2 ∧ rwf C.rs a.1⟩
def RCon.chcO (C : RCon) (avs : List AV) (m : Mem) (fr : Nat) : Option (dens C.ps) → Chc
 | some x => if okIds (pids m C.ps avs) (rws m C.ps avs) then C.chc avs m fr x else Chc.bad
 | none => Chc.bad
def RCon.rctr (C : RCon) : RCtr := fun avs m fr => C.chcO avs m fr (rds m C.ps avs)

def rvL (m : Mem) (ti : TI) : AV → Eff
 | .one (.loc id off) => loadE m ti (.loc id off)
 | _ => bad
def rvE (T : Tab) (s : Slots) (m : Mem) : ResultVar → Eff
 | .tmp t => okr (sget s t)
 | .cell a t => rvL m (TI.of T t) (sget s a)
def rvP (T : Tab) (s : Slots) (m : Mem) : List ResultVar → Prop
 | [] => True
 | r :: rs => (rvE T s m r).pre ∧ rvP T s m rs
def rvS (T : Tab) (s : Slots) (m : Mem) : Nat → List ResultVar → Slots
 | _, [] => []
 | i, r :: rs => (i, (rvE T s m r).r) :: rvS T s m (i + 1) rs

/-- What is asked at a body's end. -/
def entR (ps : List PK) (rs : List RK) (T : Tab) (rv : List ResultVar) (st : St) (y : rdens rs) (z : dens ps) : Prop :=
 ent (rvS T st.s (mem st.m) 0 rv) (mem st.m) 64 (rslots 0 32 rs y) (nheap 0 ps z ++ rheap 32 rs y)
def postR (ps : List PK) (rs : List RK) (T : Tab) (rv : List ResultVar) (Φ : rdens rs → dens ps → Prop) : Ex → St → Prop := fun e st =>
 match e with
 | .exit _ => False
 | _ => rvP T st.s (mem st.m) rv ∧ ∃ y z, Φ y z ∧ entR ps rs T rv st y z
def Con.post (C : Con) (T : Tab) (rv : List ResultVar) (x : dens C.ps) : Ex → St → Prop := fun e st =>
 match e with
 | .exit _ => False
 | _ => rvP T st.s (mem st.m) rv ∧ entR C.ps C.rs T rv st (C.out x) (C.nw x)
def RCon.post (C : RCon) (T : Tab) (rv : List ResultVar) (x : dens C.ps) : Ex → St → Prop := postR C.ps C.rs T rv (C.rel x)

end Go.Ev
