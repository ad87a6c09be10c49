/- A frame, its operands; a region whose operations go in order. -/
import Derived.Test.YtdmgmdppejopcaaEvFrame
set_option linter.unusedSimpArgs false
set_option linter.unusedVariables false
namespace Go.Ev

section
variable {cx : Cx} {σ : Nat → Value} {N : Nat → Prop} {s : Nat → AV} {m : Mem} {n : Nat} {a : Act} {w : World} {P : Program} {T : Tab} {G : Env}

structure RepF (cx : Cx) (σ : Nat → Value) (N : Nat → Prop) (s : Nat → AV) (m : Mem) (n : Nat) (a : Act) (w : World) : Prop where
  mm : RepM cx σ N m w
  ss : ∀ i, repA (rx cx σ N m w) (s i) (a.tmps.getD i undef)
  df : a.defers = []
  sz : a.tmps.size = n

theorem const1_rep {x : Rx} {v : Value} (h : fineV1 v = true) : repC x (constC v) v := by
  cases v with
  | int k q => unfold constC repC; exact ⟨rfl, by unfold InR; simpa [fineV1] using h⟩
  | bool b => unfold constC repC; rfl
  | string s =>
    unfold constC repC
    refine ⟨rfl, ?_⟩
    have : s.size ≤ 1048576 := by simpa [fineV1] using h
    simp only [maxLen]; omega
  | slice ad l c =>
    cases ad with
    | none =>
      have : l = 0 ∧ c = 0 := by simpa [fineV1] using h
      rw [this.1, this.2]; unfold constC repC; rfl
    | some _ => unfold constC repC; trivial
  | pointer ad => cases ad <;> (unfold constC repC; first | rfl | trivial)
  | nilFunc => unfold constC repC; rfl
  | _ => unfold constC repC; trivial

theorem const1s_rep {x : Rx} : ∀ vs : List Value, vs.all fineV1 = true → repCs x (vs.map constC) vs
  | [], _ => repCs_nil.2 rfl
  | v :: vs, h => by
    simp only [List.all_cons, Bool.and_eq_true] at h
    exact repCs_cons.2 ⟨v, vs, rfl, const1_rep h.1, const1s_rep vs h.2⟩

theorem opd_rep (h : RepF cx σ N s m n a w) {y : Operand} (hy : fineX y = true) : repA (rx cx σ N m w) (opd s y) (a.eval y) := by
  cases y with
  | tmp t => exact h.ss t
  | const v =>
    show repA _ (constAV v) v
    have hv : fineV v = true := hy
    cases v with
    | agg cs =>
      unfold constAV repA
      exact ⟨cs.toList, by simp, const1s_rep _ hv⟩
    | _ => unfold constAV repA; exact const1_rep hv
  | global g => unfold opd repA repC; trivial
  | func f => unfold opd repA repC; exact ⟨[], rfl, repCs_nil.2 rfl⟩

def updS (s : Nat → AV) (dst : Option Nat) (v : AV) : Nat → AV :=
  match dst with
  | some d => fun i => if d = i then v else s i
  | none => s

theorem sget_put (s : Slots) (dst : Option Nat) (v : AV) : sget (putS s dst v) = updS (sget s) dst v := by
  cases dst with
  | none => rfl
  | some d =>
    funext i
    exact getL_setL _ s d v i

theorem RepF.put {σ' : Nat → Value} {N' : Nat → Prop} {m' : Mem} {w' : World} (h : RepF cx σ N s m n a w) (h1 : RepM cx σ' N' m' w') (k : Rx.Keeps (rx cx σ N m w) (rx cx σ' N' m' w')) {dst : Option Nat} {r : AV} {v : Value} (hv : repA (rx cx σ' N' m' w') r v)
    (hd : ∀ d, dst = some d → d < n) : RepF cx σ' N' (updS s dst r) m' n (a.put dst v) w' := by
  refine ⟨h1, fun i => ?_, ?_, ?_⟩
  · cases dst with
    | none => exact repA_keep k _ _ (h.ss i)
    | some d =>
      have hlt : d < a.tmps.size := by rw [h.sz]; exact hd d rfl
      by_cases e : d = i
      · subst e
        simp only [updS, if_true, Act.put]
        rw [Array.getD_eq_getD_getElem?, Array.getElem?_setIfInBounds_self_of_lt hlt]
        exact hv
      · simp only [updS, if_neg e, Act.put]
        rw [Array.getD_eq_getD_getElem?, Array.getElem?_setIfInBounds_ne e, ← Array.getD_eq_getD_getElem?]
        exact repA_keep k _ _ (h.ss i)
  · cases dst <;> exact h.df
  · cases dst with
    | none => exact h.sz
    | some d => simp only [Act.put, Array.size_setIfInBounds]; exact h.sz

theorem fineO_dst {o : Oper} (h : fineO n o = true) : ∀ d, o.dst = some d → d < n := by
  intro d hd
  simp only [fineO, hd, Bool.and_eq_true, decide_eq_true_eq] at h
  exact h.1.1
theorem fineO_ops {o : Oper} (h : fineO n o = true) : ∀ y ∈ opsOf o.op, fineX y = true := by
  simp only [fineO, Bool.and_eq_true] at h
  exact List.all_eq_true.1 h.1.2
theorem fineO_sel {o : Oper} (h : fineO n o = true) : ∀ cs b, o.op ≠ .select cs b := by
  intro cs b e
  simp only [fineO, e, Bool.and_false, Bool.false_eq_true] at h

theorem allP_mem : ∀ (ps : List Prop), allP ps → ∀ p ∈ ps, p
  | p :: ps, h, q, hq => by
    cases List.mem_cons.1 hq with
    | inl e => rw [e]; exact h.1
    | inr e => exact allP_mem ps h.2 q e

/-- What the guard's slot says. -/
theorem guard_wanted (h : RepF cx σ N s m n a w) {ops : Array Oper} {j : Nat} {b : Bool} (hok : guardOk ops.toList s j) : (yielded ops a.tmps j == some b) = guardC ops.toList s j b := by
  unfold guardOk at hok
  unfold guardC yielded
  have e : ops.toList[j]? = ops[j]? := by simp
  rw [e] at hok ⊢
  cases hd : (ops[j]?).bind (·.dst) with
  | none => rw [hd] at hok; exact hok.elim
  | some d =>
    rw [hd] at hok
    simp only [Option.bind_some] at hok ⊢
    have hs := h.ss d
    split at hok
    · rename_i q hq
      rw [hq] at hs
      try simp only [hq]
      have := of_bool hs
      have ht : a.tmps[d]? = some (.bool q) := by
        rw [Array.getD_eq_getD_getElem?] at this
        cases hg : a.tmps[d]? with
        | none => rw [hg] at this; simp [undef] at this
        | some v => rw [hg] at this; simpa using this
      rw [ht]
      cases q <;> cases b <;> rfl
    · rename_i c q hq
      rw [hq] at hs
      try simp only [hq]
      unfold repA at hs
      cases c with
      | true =>
        have := of_bool (hs.1 rfl)
        have ht : a.tmps[d]? = some (.bool q) := by
          rw [Array.getD_eq_getD_getElem?] at this
          cases hg : a.tmps[d]? with
          | none => rw [hg] at this; simp [undef] at this
          | some v => rw [hg] at this; simpa using this
        rw [ht]
        cases q <;> cases b <;> rfl
      | false =>
        have := hs.2 rfl
        rw [Array.getD_eq_getD_getElem?] at this
        cases hg : a.tmps[d]? with
        | none => simp
        | some v =>
          rw [hg] at this
          simp at this
          subst this
          simp [undef]
    · exact hok.elim

/-- An id is let go. -/
theorem RepM.drop (h : RepM cx σ N m w) (i : Nat) : RepM cx σ N (updM m [(i, .dead)]) w ∧ Rx.Keeps (rx cx σ N m w) (rx cx σ N (updM m [(i, .dead)]) w) := by
  have hu : ∀ id, updM m [(i, .dead)] id = if i = id then .dead else m id := fun id => rfl
  refine h.step (fun id => id = i) (fun _ h => h) (fun id hn => ?_) (fun id hn => ⟨by rw [hu, if_neg (fun e => hn e.symm)], rfl⟩) (fun _ _ => rfl) (fun _ _ _ => rfl) ⟨Nat.le_refl _, Nat.le_refl _⟩ rfl rfl rfl
    (fun id b hi ho hb => ?_) (fun id id' b hi hi' ho ho' hb hb' => ?_) (fun id _ => h.hone id) (fun hk id hi => ?_)
  · rw [hu]; split
    · rfl
    · exact h.fresh id hn
  · subst hi; rw [hu, if_pos rfl] at ho; cases ho
  · rw [hi, hi']
  · subst hi; rw [hu, if_pos rfl]; trivial

theorem dem_pre {fr : Nat} {E : Eff} : (dem fr E).pre = E.pre := by
  unfold dem
  split
  · split <;> rfl
  · rfl

theorem dem_res {fr : Nat} {E : Eff} {v : Value} {w' : World} (hd : m fr = .dead) (h : Res cx σ N m w fr E v w') : Res cx σ N m w fr (dem fr E) v w' := by
  unfold dem
  split
  · rename_i k e t xs k' hu hr
    split
    · rename_i hk
      obtain ⟨rfl, rfl⟩ := hk
      obtain ⟨σ', h1, hkp, h2, h3⟩ := h
      rw [hu] at h1 hkp h2
      rw [hr] at h2
      obtain ⟨g1, g2⟩ := h1.settles [k']
      obtain ⟨g3, g4⟩ := g1.drop k'
      have hrow : updM m [(k', .row e t xs)] k' = .row e t xs := by simp [updM]
      have hset : updM (updM m [(k', .row e t xs)]) ([k'].map (settle (updM m [(k', .row e t xs)]))) k' = .settled t xs := by
        simp [updM, settle]
      have hb := g1.blk k'
      rw [hset] at hb
      have he : updM (updM (updM m [(k', .row e t xs)]) ([k'].map (settle (updM m [(k', .row e t xs)])))) [(k', .dead)] = m := by
        funext i
        by_cases q : k' = i
        · subst q; simp [updM, hd]
        · simp [updM, settle, q]
      rw [he] at g3 g4
      have hsub : ∀ b, Owned cx σ' m b → Owned cx σ' (updM m [(k', .row e t xs)]) b := by
        rintro b (hf | ⟨i, ho, hbi⟩)
        · exact .inl hf
        · refine .inr ⟨i, ?_, hbi⟩
          have hne : k' ≠ i := fun q => by subst q; rw [hd] at ho; cases ho
          have : updM m [(k', .row e t xs)] i = m i := by simp [updM, hne]
          rw [this]; exact ho
      have hk2 : Rx.Keeps (rx cx σ N m w) (rx cx σ' (Nx N k') m w') := ⟨⟨fun b hb hn => ⟨fun q => (hkp.k.blk b hb hn).1 (hsub b q), (hkp.k.blk b hb hn).2⟩⟩, hkp.σ, hkp.N⟩
      refine ⟨σ', g3, hk2, ?_, h3⟩
      have hv : v = σ' k' := by unfold repA repC at h2; exact h2.2
      subst hv
      refine repA_keep g4 (.one (.sl t xs false)) _ ?_
      unfold repA repC
      exact ⟨hb, fun q => by cases q⟩
    · exact h
  · exact h

/-- ONE OPERATION. -/
theorem step_sound (h : RepF cx σ N s m n a w) {fr : Nat} (hfr : ∀ id, fr ≤ id → id < fr + 32 → N id) (ht : TabOK P T) (hG : EnvOk P G) {ops : Array Oper} {i : Nat} {o : Oper} (hi : ops[i]? = some o) (hf : fineO n o = true)
    (hp : (stepE T G ops.toList o s m fr).pre) {K : Act → World → Prop} {Q : Exit → Act → World → Prop}
    (hK : ∀ a' w' σ', RepF cx σ' (Nx N fr) (updS s o.dst (stepE T G ops.toList o s m fr).r) (updM m (stepE T G ops.toList o s m fr).u) n a' w' → Rx.Keeps (rx cx σ N m w) (rx cx σ' (Nx N fr) (updM m (stepE T G ops.toList o s m fr).u) w') → (stepE T G ops.toList o s m fr).asm → K a' w') :
    wpOp P ops Q i K a w := by
  unfold wpOp
  simp only [hi]
  cases hg : o.guard with
  | none =>
    have hw : Region.wanted o (yielded ops a.tmps) = true := by simp [Region.wanted, hg]
    rw [if_pos hw]
    left
    simp only [stepE, hg] at hp hK
    refine (opEff_sound (ρ := a.eval) (av := opd s) h.mm hfr ht hG (fun y hy => opd_rep h (fineO_ops hf y hy)) (fun v => rfl) hp).wp (fun v w' hres => ?_)
    obtain ⟨σ', h1, k, hr, ha⟩ := hres
    exact hK _ _ σ' (h.put h1 k hr (fineO_dst hf)) k ha
  | some jb =>
    obtain ⟨j, b⟩ := jb
    simp only [stepE, hg] at hp hK
    obtain ⟨hok, hst, hpre, hu⟩ := hp
    have hw : Region.wanted o (yielded ops a.tmps) = guardC ops.toList s j b := by
      simp only [Region.wanted, hg]
      exact guard_wanted h hok
    rw [hw]
    cases hc : guardC ops.toList s j b with
    | true =>
      rw [hc] at hst hpre hK hu
      rw [if_pos rfl]
      left
      cases hpk : isPk o.op with
      | true =>
        rw [hpk] at hpre hK hu
        refine (opEff_sound (ρ := a.eval) (av := opd s) h.mm hfr ht hG (fun y hy => opd_rep h (fineO_ops hf y hy)) (fun v => rfl) (dem_pre ▸ hpre rfl)).wp (fun v w' hres => ?_)
        obtain ⟨σ', h1, k, hr, ha⟩ := dem_res (h.mm.fresh fr (hfr fr (Nat.le_refl fr) (by omega))) hres
        have hu2 := noop_upd (hu rfl)
        simp only [gAvs] at hu2
        rw [hu2] at h1 k hr
        refine hK _ _ σ' (h.put h1 k ?_ (fineO_dst hf)) k (fun _ => ha)
        unfold repA
        exact ⟨fun _ => hr, (fun e => by cases e)⟩
      | false =>
        rw [hpk] at hst hpre hK hu
        simp only [gAvs, gPre] at hst hpre hK hu
        have hmap : ((opsOf o.op).map (opd s)).map stripV = (opsOf o.op).map (fun y => stripV (opd s y)) := by simp
        rw [hmap] at hpre hK hu
        refine (opEff_sound (ρ := a.eval) (av := fun y => stripV (opd s y)) h.mm hfr ht hG (fun y hy => ?_) (fun v => rfl) (dem_pre ▸ hpre trivial)).wp (fun v w' hres => ?_)
        · have hr := opd_rep h (fineO_ops hf y hy)
          cases hav : opd s y with
          | ifd c' v' =>
            rw [hav] at hr
            have := allP_mem _ hst (stripP true (opd s y)) (by
              rw [List.map_map]
              exact List.mem_map.2 ⟨y, hy, rfl⟩)
            rw [hav] at this
            unfold repA at hr
            exact hr.1 (this rfl)
          | one c => rw [hav] at hr; exact hr
          | agg c => rw [hav] at hr; exact hr
          | tup c => rw [hav] at hr; exact hr
        · obtain ⟨σ', h1, k, hr, ha⟩ := dem_res (h.mm.fresh fr (hfr fr (Nat.le_refl fr) (by omega))) hres
          rw [noop_upd (hu trivial)] at h1 k hr
          refine hK _ _ σ' (h.put h1 k ?_ (fineO_dst hf)) k (fun _ => ha)
          unfold repA
          exact ⟨fun _ => hr, (fun e => by cases e)⟩
    | false =>
      rw [hc] at hK
      rw [if_neg (by simp)]
      obtain ⟨h1, k⟩ := h.mm.weaken (N' := Nx N fr) (fun _ k => k.1)
      refine hK _ _ σ (h.put h1 k ?_ (fineO_dst hf)) k (fun e => by cases e)
      unfold repA
      exact ⟨(fun e => by cases e), fun _ => rfl⟩

theorem RepF.weaken (h : RepF cx σ N s m n a w) {N' : Nat → Prop} (hN : ∀ id, N' id → N id) : RepF cx σ N' s m n a w := by
  obtain ⟨h1, k⟩ := h.mm.weaken hN
  exact ⟨h1, fun i => repA_keep k _ _ (h.ss i), h.df, h.sz⟩

/-- Ids from a number on are free. -/
def From (fr : Nat) : Nat → Prop := fun id => fr ≤ id

/-- ONE OPERATION that comes to one of several effects. -/
theorem alt_sound (h : RepF cx σ N s m n a w) {fr : Nat} (hfr : ∀ id, fr ≤ id → id < fr + 32 → N id) (ht : TabOK P T) (hG : EnvOk P G) {ops : Array Oper} {i : Nat} {o : Oper} (hi : ops[i]? = some o) (hf : fineO n o = true)
    {C : Chc} (hC : altO T G ops.toList o s m fr = some C) (hp : C.pre) {K : Act → World → Prop} {Q : Exit → Act → World → Prop}
    (hK : ∀ a' w' σ' k, RepF cx σ' (Nx N fr) (updS s o.dst (C.r k)) (updM m (C.u k)) n a' w' → C.asm k → K a' w') :
    wpOp P ops Q i K a w := by
  unfold wpOp
  simp only [hi]
  unfold altO at hC
  cases hg : o.guard with
  | some jb => rw [hg] at hC; cases hC
  | none =>
    rw [hg] at hC
    have hw : Region.wanted o (yielded ops a.tmps) = true := by simp [Region.wanted, hg]
    rw [if_pos hw]
    left
    simp only at hC
    split at hC
    · rename_i hsl
      refine (s_slice_chk (ρ := a.eval) (av := opd s) h.mm (hfr fr (by omega) (by omega)) hsl ht (fun y hy => opd_rep h (fineO_ops hf y hy)) hC hp).wp (fun v w' hres => ?_)
      obtain ⟨k, σ', h1, kk, hr, ha⟩ := hres
      exact hK _ _ σ' k (h.put h1 kk hr (fineO_dst hf)) ha
    · refine (altE_sound (ρ := a.eval) (av := opd s) h.mm hfr ht hG (fun y hy => opd_rep h (fineO_ops hf y hy)) (fun v => rfl) hC hp).wp (fun v w' hres => ?_)
      obtain ⟨k, σ', h1, kk, hr, ha⟩ := hres
      exact hK _ _ σ' k (h.put h1 kk hr (fineO_dst hf)) ha

theorem evOps_sound (ht : TabOK P T) (hG : EnvOk P G) {ops : Array Oper} (hf : ∀ o ∈ ops.toList, fineO n o = true) {base : Nat} {K : Slots → Heap → Prop} {Q : Exit → Act → World → Prop}
    (hK : ∀ s m a w σ, K s m → RepF cx σ (From (base + 32 * ops.size)) (sget s) (mem m) n a w → Q .normal a w) :
    ∀ (os : List Oper) (i : Nat) (s : Slots) (m : Heap) (a : Act) (w : World) (σ : Nat → Value), (∀ j, os[j]? = ops[i + j]?) → i + os.length = ops.size → evOps T G ops.toList base i os s m K → RepF cx σ (From (base + 32 * i)) (sget s) (mem m) n a w →
      wpOps P ops Q (List.range' i os.length) a w
  | [], i, s, m, a, w, σ, _, hl, hev, h => by
    simp only [List.length_nil, List.range'_zero, wpOps]
    simp only [List.length_nil, Nat.add_zero] at hl
    exact hK s m a w σ hev (by rw [← hl]; exact h)
  | o :: os, i, s, m, a, w, σ, hos, hl, hev, h => by
    have h0 : ops[i]? = some o := by simpa using (hos 0).symm
    simp only [List.length_cons, List.range'_succ]
    rw [wpOps_cons]
    have hmem := hf o (by have := Array.mem_of_getElem? h0; simpa using this)
    have next : ∀ a' w' σ' dst r u, RepF cx σ' (Nx (From (base + 32 * i)) (base + 32 * i)) (updS (sget s) dst r) (updM (mem m) u) n a' w' → evOps T G ops.toList base (i + 1) os (putS s dst r) (setMany m u) K → wpOps P ops Q (List.range' (i + 1) os.length) a' w' := by
      intro a' w' σ' dst r u h' hev'
      have h'' := h'.weaken (N' := From (base + 32 * (i + 1))) (fun id hid => ⟨by unfold From at *; omega, by unfold From at *; omega⟩)
      rw [← sget_put, ← mem_setMany] at h''
      exact evOps_sound ht hG hf hK os (i + 1) _ _ a' w' σ' (fun j => by have := hos (j + 1); simpa [Nat.add_assoc, Nat.add_comm 1 j] using this) (by simp at hl; omega) hev' h''
    simp only [evOps] at hev
    split at hev
    · rename_i C hC
      exact alt_sound h (fun id h1 h2 => h1) ht hG h0 hmem hC hev.1 (fun a' w' σ' k h' ha => next a' w' σ' _ _ _ h' (hev.2 k ha))
    · exact step_sound h (fun id h1 h2 => h1) ht hG h0 hmem hev.1 (fun a' w' σ' h' k ha => next a' w' σ' _ _ _ h' (hev.2 ha))

theorem region_sound (ht : TabOK P T) (hG : EnvOk P G) {ops : Array Oper} (hf : ∀ o ∈ ops.toList, fineO n o = true) {base : Nat} {K : Slots → Heap → Prop} {Q : Exit → Act → World → Prop}
    (hK : ∀ s m a w σ, K s m → RepF cx σ (From (base + 32 * ops.size)) (sget s) (mem m) n a w → Q .normal a w) {s : Slots} {m : Heap} {a : Act} {w : World} {σ : Nat → Value}
    (hev : evOps T G ops.toList base 0 ops.toList s m K) (h : RepF cx σ (From base) (sget s) (mem m) n a w) {id : Nat} : (Code.region id ops false).wp P Q a w := by
  refine wp_region ?_
  have := evOps_sound ht hG hf hK ops.toList 0 s m a w σ (fun j => by simp) (by simp) hev h
  rwa [Array.length_toList, ← List.range_eq_range'] at this

end
end Go.Ev
