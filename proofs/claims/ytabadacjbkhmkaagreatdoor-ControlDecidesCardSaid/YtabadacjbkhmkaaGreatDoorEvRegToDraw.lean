/- Part. -/
import Derived.Test.YtabadacjbkhmkaaGreatDoorEvOps12ToFrame
import Derived.OrdersIn
set_option linter.all false
namespace Go.Ev
section
variable {F : Fence} {nn : Nat} {cx : Cx} {σ : Nat → Value} {N : Nat → Prop} {s : Nat → AV} {m : Mem} {n : Nat} {a : Act} {w : World} {P : Program} {T : Tab} {G : Env}
def markD (D : Nat) : Deferred := { target := .collected D, args := #[] }
structure RepF (cx : Cx) (σ : Nat → Value) (N : Nat → Prop) (s : Nat → AV) (m : Mem) (n : Nat) (a : Act) (w : World) : Prop where
 mm : RepM cx σ N m w
 ss : ∀ i, repA (rx cx σ N m w) (s i) (a.tmps.getD i undef)
 df : a.defers = cx.mks.map markD
 sz : a.tmps.size = n
 fx : ∀ i v, cx.tm i = some v → a.tmps.getD i undef = v
theorem RepM.sealB {cx : Cx} {σ : Nat → Value} {N : Nat → Prop} {m : Mem} {w : World} (h : RepM cx σ N m w) (id : Nat) : RepM cx σ N (sealB m id (m id) (m (fidOf (m id)))) w ∧ Rx.Keeps (rx cx σ N m w) (rx cx σ N (sealB m id (m id) (m (fidOf (m id)))) w) := by
 have k0 : Rx.Keeps (rx cx σ N m w) (rx cx σ N m w) := ⟨Keep.refl _ _, fun _ _ => rfl, fun _ h => h⟩; unfold Go.Ev.sealB; split
 · rename_i e t p fid xs e2 u xss hm hf; rw [hm] at hf; simp only [fidOf] at hf; split
   · rename_i ht; have hn : ¬ N id := fun k => by rw [h.fresh id k] at hm; cases hm
     exact bB3 h hn hm hf ht
   · exact ⟨h, k0⟩
 · exact ⟨h, k0⟩
theorem RepM.seals {cx : Cx} {σ : Nat → Value} {N : Nat → Prop} {w : World} : ∀ (gs : List Nat) {m : Mem}, RepM cx σ N m w → RepM cx σ N (sealM gs m) w ∧ Rx.Keeps (rx cx σ N m w) (rx cx σ N (sealM gs m) w)
 | [], _, h => ⟨h, ⟨Keep.refl _ _, fun _ _ => rfl, fun _ h => h⟩⟩
 | id :: gs, m, h => by
   obtain ⟨h1, h2⟩ := h.sealB id; obtain ⟨h3, h4⟩ := RepM.seals gs h1; exact ⟨h3, ⟨h2.k.trans h4.k (Nat.le_refl _), fun _ _ => rfl, fun _ h => h⟩⟩
theorem RepF.seals {cx : Cx} {σ : Nat → Value} {N : Nat → Prop} {s : Nat → AV} {m : Mem} {n : Nat} {a : Act} {w : World} (h : RepF cx σ N s m n a w) (gs : List Nat) : RepF cx σ N s (sealM gs m) n a w := by
 obtain ⟨h1, h2⟩ := h.mm.seals gs; exact ⟨h1, fun i => pA0 h2 _ _ (h.ss i), h.df, h.sz, h.fx⟩
theorem fB0 {x : Rx} {v : Value} (h : fineV1 v = true) : repC x (constC v) v := by
 cases v with
 | int k q => unfold constC repC; exact ⟨rfl, by unfold InR; simpa [fineV1] using h⟩
 | bool b => unfold constC repC; rfl
 | string s =>
   unfold constC repC; refine ⟨rfl, ?_⟩; have : s.size ≤ 1048576 := by simpa [fineV1] using h
   simp only [maxLen]; omega
 | slice ad l c =>
   cases ad with
   | none =>
     have : l = 0 ∧ c = 0 := by simpa [fineV1] using h
     rw [this.1, this.2]; unfold constC repC; rfl
   | some _ => unfold constC repC; trivial
 | pointer ad => cases ad <;> (unfold constC repC; first | rfl | trivial)
 | nilFunc => unfold constC repC; rfl
 | _ => unfold constC repC; trivial
theorem uA7 {x : Rx} : ∀ vs : List Value, vs.all fineV1 = true → repCs x (vs.map constC) vs
 | [], _ => repCs_nil.2 rfl
 | v :: vs, h => by
   simp only [List.all_cons, Bool.and_eq_true] at h; exact repCs_cons.2 ⟨v, vs, rfl, fB0 h.1, uA7 vs h.2⟩
theorem sA4 (h : RepF cx σ N s m n a w) {y : Operand} (hy : fineX y = true) : repA (rx cx σ N m w) (opd s y) (a.eval y) := by
 cases y with
 | tmp t => exact h.ss t
 | const v =>
   show repA _ (constAV v) v; have hv : fineV v = true := hy
   cases v with
   | agg cs =>
     unfold constAV repA
     exact ⟨cs.toList, by simp, uA7 _ hv⟩
   | _ => unfold constAV repA; exact fB0 hv
 | global g => unfold opd repA repC; trivial
 | func f => unfold opd repA repC; exact ⟨[], rfl, repCs_nil.2 rfl⟩
def updS (s : Nat → AV) (dst : Option Nat) (v : AV) : Nat → AV :=
 match dst with
 | some d => fun i => if d = i then v else s i
 | none => s
theorem wB1 (s : Slots) (dst : Option Nat) (v : AV) : sget (putS s dst v) = updS (sget s) dst v := by
 cases dst with
 | none => rfl
 | some d =>
   funext i; exact qB2 _ s d v i
theorem RepF.put {σ' : Nat → Value} {N' : Nat → Prop} {m' : Mem} {w' : World} (h : RepF cx σ N s m n a w) (h1 : RepM cx σ' N' m' w') (k : Rx.Keeps (rx cx σ N m w) (rx cx σ' N' m' w')) {dst : Option Nat} {r : AV} {v : Value} (hv : repA (rx cx σ' N' m' w') r v)
 (hd : ∀ d, dst = some d → d < n ∧ cx.tm d = none) : RepF cx σ' N' (updS s dst r) m' n (a.put dst v) w' := by
 refine ⟨h1, fun i => ?_, ?_, ?_, fun i u hu => ?_⟩
 · cases dst with
   | none => exact pA0 k _ _ (h.ss i)
   | some d =>
     have hlt : d < a.tmps.size := by rw [h.sz]; exact (hd d rfl).1
     by_cases e : d = i
     · subst e; simp only [updS, if_true, Act.put]; rw [Array.getD_eq_getD_getElem?, Array.getElem?_setIfInBounds_self_of_lt hlt]; exact hv
     · simp only [updS, if_neg e, Act.put]; rw [Array.getD_eq_getD_getElem?, Array.getElem?_setIfInBounds_ne e, ← Array.getD_eq_getD_getElem?]; exact pA0 k _ _ (h.ss i)
 · cases dst <;> exact h.df
 · cases dst with
   | none => exact h.sz
   | some d => simp only [Act.put, Array.size_setIfInBounds]; exact h.sz
 · cases dst with
   | none => exact h.fx i u hu
   | some d =>
     have hne : d ≠ i := fun e => by rw [e] at hd; rw [(hd i rfl).2] at hu; cases hu
     simp only [Act.put]; rw [Array.getD_eq_getD_getElem?, Array.getElem?_setIfInBounds_ne hne, ← Array.getD_eq_getD_getElem?]; exact h.fx i u hu
def Fo (cx : Cx) (n : Nat) (o : Oper) : Prop := fineO n o = true ∧ ∀ d, o.dst = some d → cx.tm d = none
theorem pA2 {o : Oper} (h : Fo cx n o) : ∀ d, o.dst = some d → d < n ∧ cx.tm d = none := by
 intro d hd; refine ⟨?_, h.2 d hd⟩; have h := h.1; simp only [fineO, hd, Bool.and_eq_true, decide_eq_true_eq] at h; exact h.1.1
theorem xA2 {o : Oper} (h : Fo cx n o) : ∀ c, o.op ≠ .defer c := by
 intro c e; have h := h.1; simp only [fineO, e, Bool.and_false, Bool.false_eq_true] at h
theorem yA2 {o : Oper} (h : Fo cx n o) : ∀ y ∈ opsOf o.op, fineX y = true := by
 have h := h.1; simp only [fineO, Bool.and_eq_true] at h; exact List.all_eq_true.1 h.1.2
theorem pB0 : ∀ (ps : List Prop), allP ps → ∀ p ∈ ps, p
 | p :: ps, h, q, hq => by
   cases List.mem_cons.1 hq with
   | inl e => rw [e]; exact h.1
   | inr e => exact pB0 ps h.2 q e
theorem pA6 (h : RepF cx σ N s m n a w) {ops : Array Oper} {j : Nat} {b : Bool} (hok : guardOk ops.toList s j) : (yielded ops a.tmps j == some b) = guardC ops.toList s j b := by
 unfold guardOk at hok; unfold guardC yielded; have e : ops.toList[j]? = ops[j]? := by simp
 rw [e] at hok ⊢
 cases hd : (ops[j]?).bind (·.dst) with
 | none => rw [hd] at hok; exact hok.elim
 | some d =>
   rw [hd] at hok; simp only [Option.bind_some] at hok ⊢; have hs := h.ss d; split at hok
   · rename_i q hq; rw [hq] at hs
     try simp only [hq]
     have := wA3 hs; have ht : a.tmps[d]? = some (.bool q) := by
      rw [Array.getD_eq_getD_getElem?] at this
      cases hg : a.tmps[d]? with
      | none => rw [hg] at this; simp [undef] at this
      | some v => rw [hg] at this; simpa using this
     rw [ht]; cases q <;> cases b <;> rfl
   · rename_i c q hq; rw [hq] at hs
     try simp only [hq]
     unfold repA at hs
     cases c with
     | true =>
       have := wA3 (hs.1 rfl); have ht : a.tmps[d]? = some (.bool q) := by
        rw [Array.getD_eq_getD_getElem?] at this
        cases hg : a.tmps[d]? with
        | none => rw [hg] at this; simp [undef] at this
        | some v => rw [hg] at this; simpa using this
       rw [ht]
       cases q <;> cases b <;> rfl
     | false =>
       have := hs.2 rfl; rw [Array.getD_eq_getD_getElem?] at this
       cases hg : a.tmps[d]? with
       | none => simp
       | some v =>
         rw [hg] at this; simp at this; subst this; simp [undef]
   · exact hok.elim
theorem RepM.drop (h : RepM cx σ N m w) (i : Nat) : RepM cx σ N (updM m [(i, .dead)]) w ∧ Rx.Keeps (rx cx σ N m w) (rx cx σ N (updM m [(i, .dead)]) w) := by
 have hu : ∀ id, updM m [(i, .dead)] id = if i = id then .dead else m id := fun id => rfl
 refine h.step (fun id => id = i) (fun _ h => h) (fun id hn => ?_) (fun id hn => ⟨by rw [hu, if_neg (fun e => hn e.symm)], rfl⟩) (fun _ _ => rfl) (fun _ _ _ => rfl) ⟨Nat.le_refl _, Nat.le_refl _⟩ rfl rfl rfl
  (fun id b hi ho hb => ?_) (fun id id' b hi hi' ho ho' hb hb' => ?_) (fun id _ => h.hone id) (fun hk id hi => ?_)
 · rw [hu]; split
   · rfl
   · exact h.fresh id hn
 · subst hi; rw [hu, if_pos rfl] at ho; cases ho
 · rw [hi, hi']
 · subst hi; rw [hu, if_pos rfl]; trivial
theorem jC1 {fr : Nat} {E : Eff} : (dem fr E).pre = E.pre := by
 unfold dem; split
 · split <;> rfl
 · rfl
theorem uC1 {fr : Nat} {E : Eff} {v : Value} {w' : World} (hd : m fr = .dead) (h : Res cx σ N m w fr E v w') : Res cx σ N m w fr (dem fr E) v w' := by
 unfold dem; split
 · rename_i k e t xs k' hu hr; split
   · rename_i hk; obtain ⟨rfl, rfl⟩ := hk; obtain ⟨σ', h1, hkp, h2, h3⟩ := h; rw [hu] at h1 hkp h2; rw [hr] at h2; obtain ⟨g1, g2⟩ := h1.settles [k']; obtain ⟨g3, g4⟩ := g1.drop k'; have hrow : updM m [(k', .row e t xs)] k' = .row e t xs := by simp [updM]
     have hset : updM (updM m [(k', .row e t xs)]) ([k'].map (settle (updM m [(k', .row e t xs)]))) k' = .settled t xs := by
      simp [updM, settle]
     have hb := g1.blk k'; rw [hset] at hb; have he : updM (updM (updM m [(k', .row e t xs)]) ([k'].map (settle (updM m [(k', .row e t xs)])))) [(k', .dead)] = m := by
      funext i; by_cases q : k' = i
      · subst q; simp [updM, hd]
      · simp [updM, settle, q]
     rw [he] at g3 g4; have hsub : ∀ b, Owned cx σ' m b → Owned cx σ' (updM m [(k', .row e t xs)]) b := by
      rintro b (hf | ⟨i, ho, hbi⟩)
      · exact .inl hf
      · refine .inr ⟨i, ?_, hbi⟩; have hne : k' ≠ i := fun q => by subst q; rw [hd] at ho; cases ho
        have : updM m [(k', .row e t xs)] i = m i := by simp [updM, hne]
        rw [this]; exact ho
     have hk2 : Rx.Keeps (rx cx σ N m w) (rx cx σ' (Nx N k') m w') := ⟨⟨fun b hb hn => ⟨fun q => (hkp.k.blk b hb hn).1 (hsub b q), (hkp.k.blk b hb hn).2⟩⟩, hkp.σ, hkp.N⟩; refine ⟨σ', g3, hk2, ?_, h3⟩; have hv : v = σ' k' := by unfold repA repC at h2; exact h2.2
     subst hv; refine pA0 g4 (.one (.sl t xs false)) _ ?_; unfold repA repC; exact ⟨hb, fun q => by cases q⟩
   · exact h
 · exact h
theorem eA6 (hW : WideF F) (h : RepF cx σ N s m n a w) {fr : Nat} (hfr : ∀ id, fr ≤ id → id < fr + 32 → N id) (ht : TabOK P T) (hG : EnvD cx.D cx.gv P G) {ops : Array Oper} {i : Nat} {o : Oper} (hi : ops[i]? = some o) (hf : Fo cx n o)
 (hp : (stepE T G ops.toList o s m fr).pre) {K : Act → World → Prop} {Q : Exit → Act → World → Prop}
 (hK : ∀ a' w' σ', RepF cx σ' (Nx N fr) (updS s o.dst (stepE T G ops.toList o s m fr).r) (updM m (stepE T G ops.toList o s m fr).u) n a' w' → Rx.Keeps (rx cx σ N m w) (rx cx σ' (Nx N fr) (updM m (stepE T G ops.toList o s m fr).u) w') → (stepE T G ops.toList o s m fr).asm → K a' w') :
 wpOpIn F nn P ops Q i K a w := by
 unfold wpOpIn; simp only [hi]
 cases hg : o.guard with
 | none =>
   have hw : Region.wanted o (yielded ops a.tmps) = true := by simp [Region.wanted, hg]
   rw [if_pos hw]; simp only [stepE, hg] at hp hK; refine (dA3 (ρ := a.eval) (av := opd s) h.mm hfr ht hG (fun y hy => sA4 h (yA2 hf y hy)) (fun v => rfl) hp).wpIn hW (xA2 hf) (fun v w' hres => ?_); obtain ⟨σ', h1, k, hr, ha⟩ := hres
   exact hK _ _ σ' (h.put h1 k hr (pA2 hf)) k ha
 | some jb =>
   obtain ⟨j, b⟩ := jb; simp only [stepE, hg] at hp hK; obtain ⟨hok, hst, hpre, hu⟩ := hp; have hw : Region.wanted o (yielded ops a.tmps) = guardC ops.toList s j b := by
    simp only [Region.wanted, hg]; exact pA6 h hok
   rw [hw]
   cases hc : guardC ops.toList s j b with
   | true =>
     rw [hc] at hst hpre hK hu; rw [if_pos rfl]
     cases hpk : isPk o.op with
     | true =>
       rw [hpk] at hpre hK hu; refine (dA3 (ρ := a.eval) (av := opd s) h.mm hfr ht hG (fun y hy => sA4 h (yA2 hf y hy)) (fun v => rfl) (jC1 ▸ hpre rfl)).wpIn hW (xA2 hf) (fun v w' hres => ?_); obtain ⟨σ', h1, k, hr, ha⟩ := uC1 (h.mm.fresh fr (hfr fr (Nat.le_refl fr) (by omega))) hres; have hu2 := rB1 (hu rfl); simp only [gAvs] at hu2; rw [hu2] at h1 k hr; refine hK _ _ σ' (h.put h1 k ?_ (pA2 hf)) k (fun _ => ha); unfold repA
       exact ⟨fun _ => hr, (fun e => by cases e)⟩
     | false =>
       rw [hpk] at hst hpre hK hu; simp only [gAvs, gPre] at hst hpre hK hu; have hmap : ((opsOf o.op).map (opd s)).map stripV = (opsOf o.op).map (fun y => stripV (opd s y)) := by simp
       rw [hmap] at hpre hK hu; refine (dA3 (ρ := a.eval) (av := fun y => stripV (opd s y)) h.mm hfr ht hG (fun y hy => ?_) (fun v => rfl) (jC1 ▸ hpre trivial)).wpIn hW (xA2 hf) (fun v w' hres => ?_)
       · have hr := sA4 h (yA2 hf y hy)
         cases hav : opd s y with
         | ifd c' v' =>
           rw [hav] at hr; have := pB0 _ hst (stripP true (opd s y)) (by
            rw [List.map_map]; exact List.mem_map.2 ⟨y, hy, rfl⟩)
           rw [hav] at this; unfold repA at hr
           exact hr.1 (this rfl)
         | one c => rw [hav] at hr; exact hr
         | agg c => rw [hav] at hr; exact hr
         | tup c => rw [hav] at hr; exact hr
       · obtain ⟨σ', h1, k, hr, ha⟩ := uC1 (h.mm.fresh fr (hfr fr (Nat.le_refl fr) (by omega))) hres; rw [rB1 (hu trivial)] at h1 k hr; refine hK _ _ σ' (h.put h1 k ?_ (pA2 hf)) k (fun _ => ha); unfold repA
         exact ⟨fun _ => hr, (fun e => by cases e)⟩
   | false =>
     rw [hc] at hK; rw [if_neg (by simp)]; obtain ⟨h1, k⟩ := h.mm.weaken (N' := Nx N fr) (fun _ k => k.1); refine ⟨fun f _ => hW.fn f, ?_⟩; refine hK _ _ σ (h.put h1 k ?_ (pA2 hf)) k (fun e => by cases e); unfold repA; exact ⟨(fun e => by cases e), fun _ => rfl⟩
theorem RepF.weaken (h : RepF cx σ N s m n a w) {N' : Nat → Prop} (hN : ∀ id, N' id → N id) : RepF cx σ N' s m n a w := by
 obtain ⟨h1, k⟩ := h.mm.weaken hN; exact ⟨h1, fun i => pA0 k _ _ (h.ss i), h.df, h.sz, h.fx⟩
def From (fr : Nat) : Nat → Prop := fun id => fr ≤ id
theorem nC2 (hW : WideF F) (h : RepF cx σ N s m n a w) {fr : Nat} (hfr : ∀ id, fr ≤ id → id < fr + 32 → N id) (ht : TabOK P T) (hG : EnvD cx.D cx.gv P G) {ops : Array Oper} {i : Nat} {o : Oper} (hi : ops[i]? = some o) (hf : Fo cx n o)
 {C : Chc} (hC : altO T G ops.toList o s m fr = some C) (hp : C.pre) {K : Act → World → Prop} {Q : Exit → Act → World → Prop}
 (hK : ∀ a' w' σ' k, RepF cx σ' (Nx N fr) (updS s o.dst (C.r k)) (updM m (C.u k)) n a' w' → C.asm k → K a' w') :
 wpOpIn F nn P ops Q i K a w := by
 unfold wpOpIn; simp only [hi]; unfold altO at hC
 cases hg : o.guard with
 | some jb =>
   obtain ⟨j, b⟩ := jb; rw [hg] at hC; simp only at hC; split at hC
   case isFalse => cases hC
   cases hC; obtain ⟨hok, hst, hpre⟩ := hp; have hw : Region.wanted o (yielded ops a.tmps) = guardC ops.toList s j b := by
    simp only [Region.wanted, hg]; exact pA6 h hok
   rw [hw]
   cases hc : guardC ops.toList s j b with
   | true =>
     rw [hc] at hst hpre; rw [if_pos rfl]; have fin : ∀ {E : Eff} {v : Value} {w' : World}, Res cx σ N m w fr E v w' → E = opEff T G o (gAvs (isPk o.op) ((opsOf o.op).map (opd s))) m fr → K (a.put o.dst v) w' := by
      intro E v w' ⟨σ', h1, k, hr, ha⟩ hE; subst hE; refine hK _ _ σ' Two.y (h.put h1 k ?_ (pA2 hf)) ⟨hc, ha⟩; unfold repA; exact ⟨fun _ => hr, (fun e => by cases e)⟩
     cases hpk : isPk o.op with
     | true =>
       rw [hpk] at hpre fin
       exact (dA3 (ρ := a.eval) (av := opd s) h.mm hfr ht hG (fun y hy => sA4 h (yA2 hf y hy)) (fun v => rfl) (hpre rfl)).wpIn hW (xA2 hf) (fun v w' hres => fin hres rfl)
     | false =>
       rw [hpk] at hst hpre fin; simp only [gAvs, gPre] at hst hpre fin; have hmap : ((opsOf o.op).map (opd s)).map stripV = (opsOf o.op).map (fun y => stripV (opd s y)) := by simp
       rw [hmap] at hpre fin; refine (dA3 (ρ := a.eval) (av := fun y => stripV (opd s y)) h.mm hfr ht hG (fun y hy => ?_) (fun v => rfl) (hpre trivial)).wpIn hW (xA2 hf) (fun v w' hres => fin hres rfl); have hr := sA4 h (yA2 hf y hy)
       cases hav : opd s y with
       | ifd c' v' =>
         rw [hav] at hr; have := pB0 _ hst (stripP true (opd s y)) (by
          rw [List.map_map]; exact List.mem_map.2 ⟨y, hy, rfl⟩)
         rw [hav] at this; unfold repA at hr
         exact hr.1 (this rfl)
       | one c => rw [hav] at hr; exact hr
       | agg c => rw [hav] at hr; exact hr
       | tup c => rw [hav] at hr; exact hr
   | false =>
     rw [if_neg (by simp)]; obtain ⟨h1, k⟩ := h.mm.weaken (N' := Nx N fr) (fun _ k => k.1); refine ⟨fun f _ => hW.fn f, ?_⟩; refine hK _ _ σ Two.n (h.put h1 k ?_ (pA2 hf)) hc; show repA _ (.ifd false _) _; unfold repA
     exact ⟨(fun e => by cases e), fun _ => rfl⟩
 | none =>
   rw [hg] at hC; have hw : Region.wanted o (yielded ops a.tmps) = true := by simp [Region.wanted, hg]
   rw [if_pos hw]; simp only at hC; split at hC
   · rename_i hsl; refine (gB6 (ρ := a.eval) (av := opd s) h.mm (hfr fr (by omega) (by omega)) hsl ht (fun y hy => sA4 h (yA2 hf y hy)) hC hp).wpIn hW (xA2 hf) (fun v w' hres => ?_); obtain ⟨k, σ', h1, kk, hr, ha⟩ := hres; exact hK _ _ σ' k (h.put h1 kk hr (pA2 hf)) ha
   · have hq : altE T G o.op ((opsOf o.op).map (opd s)) m fr = some C := by
      unfold queX at hC; split at hC
      · rename_i c ho; split at hC
        · cases hC
        · rw [← ho] at hC; exact hC
      · exact hC
     refine (yB8 (ρ := a.eval) (av := opd s) h.mm hfr ht hG (fun y hy => sA4 h (yA2 hf y hy)) (fun v => rfl) hq hp).wpIn hW (xA2 hf) (fun v w' hres => ?_); obtain ⟨k, σ', h1, kk, hr, ha⟩ := hres; exact hK _ _ σ' k (h.put h1 kk hr (pA2 hf)) ha
theorem rA8 (hW : WideF F) (ht : TabOK P T) (hG : EnvD cx.D cx.gv P G) {ops : Array Oper} (hf : ∀ o ∈ ops.toList, Fo cx n o) {base : Nat} {K : Slots → Heap → Prop} {Q : Exit → Act → World → Prop}
 (hK : ∀ s m a w σ, K s m → RepF cx σ (From (base + 32 * ops.size)) (sget s) (mem m) n a w → Q .normal a w) :
 ∀ (os : List Oper) (i : Nat) (s : Slots) (m : Heap) (a : Act) (w : World) (σ : Nat → Value), (∀ j, os[j]? = ops[i + j]?) → i + os.length = ops.size → evOps T G ops.toList base i os s m K → RepF cx σ (From (base + 32 * i)) (sget s) (mem m) n a w →
   wpOpsIn F nn P ops Q (List.range' i os.length) a w
 | [], i, s, m, a, w, σ, _, hl, hev, h => by
   simp only [List.length_nil, List.range'_zero, wpOpsIn]; simp only [List.length_nil, Nat.add_zero] at hl
   exact hK s m a w σ hev (by rw [← hl]; exact h)
 | o :: os, i, s, m, a, w, σ, hos, hl, hev, h => by
   have h0 : ops[i]? = some o := by simpa using (hos 0).symm
   simp only [List.length_cons, List.range'_succ]; rw [wpOpsIn_cons]; have hmem := hf o (by have := Array.mem_of_getElem? h0; simpa using this); have next : ∀ a' w' σ' dst r u, RepF cx σ' (Nx (From (base + 32 * i)) (base + 32 * i)) (updS (sget s) dst r) (updM (mem m) u) n a' w' → evOps T G ops.toList base (i + 1) os (putS s dst r) (setMany m u) K → wpOpsIn F nn P ops Q (List.range' (i + 1) os.length) a' w' := by
    intro a' w' σ' dst r u h' hev'; have h'' := h'.weaken (N' := From (base + 32 * (i + 1))) (fun id hid => ⟨by unfold From at *; omega, by unfold From at *; omega⟩); rw [← wB1, ← cA4] at h''; exact rA8 hW ht hG hf hK os (i + 1) _ _ a' w' σ' (fun j => by have := hos (j + 1); simpa [Nat.add_assoc, Nat.add_comm 1 j] using this) (by simp at hl; omega) hev' h''
   simp only [evOps] at hev; split at hev
   · rename_i C hC; exact nC2 hW h (fun id h1 h2 => h1) ht hG h0 hmem hC hev.1 (fun a' w' σ' k h' ha => next a' w' σ' _ _ _ h' (hev.2 k ha))
   · exact eA6 hW h (fun id h1 h2 => h1) ht hG h0 hmem hev.1 (fun a' w' σ' h' k ha => next a' w' σ' _ _ _ h' (hev.2 ha))
theorem xB3 (hW : WideF F) (ht : TabOK P T) (hG : EnvD cx.D cx.gv P G) {ops : Array Oper} (hf : ∀ o ∈ ops.toList, Fo cx n o) {base : Nat} {K : Slots → Heap → Prop} {Q : Exit → Act → World → Prop}
 (hK : ∀ s m a w σ, K s m → RepF cx σ (From (base + 32 * ops.size)) (sget s) (mem m) n a w → Q .normal a w) {s : Slots} {m : Heap} {a : Act} {w : World} {σ : Nat → Value}
 (hev : evOps T G ops.toList base 0 ops.toList s m K) (h : RepF cx σ (From base) (sget s) (mem m) n a w) {id : Nat} : (Code.region id ops false).wpIn F nn P Q a w := by
 refine wpIn_region ?_; have := rA8 (nn := nn) hW ht hG hf hK ops.toList 0 s m a w σ (fun j => by simp) (by simp) hev h
 rwa [Array.length_toList, ← List.range_eq_range'] at this
end
end Go.Ev

namespace Go.Ev
section
variable {F : Fence} {nn : Nat} {cx : Cx} {σ : Nat → Value} {N : Nat → Prop} {s : Nat → AV} {m : Mem} {n : Nat} {a : Act} {w : World} {P : Program} {T : Tab} {G : Env} {ops : Array Oper} {base fr : Nat} {tb : List (List Nat × List Nat)}
theorem wC1 {i : Nat} {o : Oper} {K : Act → World → Prop} (hi : ops[i]? = some o) (h : wpOpIn Fence.wide nn P ops (fun _ _ _ => False) i K a w) : ∃ a' w', K a' w' := by
 unfold wpOpIn at h; simp only [hi] at h; split at h
 · unfold Oper.wpIn at h; obtain ⟨_, h⟩ := h; generalize (o.semAt Fence.wide.round a.eval).run P w = r at h
   cases r with
   | ok q w' =>
     cases q <;> simp only [Oper.uponIn] at h
     case value v => exact ⟨_, _, h⟩
     case skip => exact ⟨_, _, h⟩
     case defer d => exact ⟨_, _, h⟩
     case enter f args =>
      obtain ⟨e, w'', _, hR, _⟩ := h.2.2 [] (room_wide _)
      cases e with
      | returned v => exact ⟨_, _, hR⟩
      | panicked c => exact hR.elim
      | outgrown => obtain ⟨_, _, h⟩ := hR; exact h.elim
     case row row args =>
      obtain ⟨v, w', r, _⟩ := h.2 default [] (room_wide _); exact ⟨_, _, r⟩
     case round l f tmps assign body =>
      obtain ⟨e, w'', hR, _⟩ := h.2.2 default [] (room_wide _)
      cases e with
      | returned v => exact ⟨_, _, hR⟩
      | panicked c => exact hR.elim
      | outgrown => obtain ⟨_, _, h⟩ := hR; exact h.elim
   | halt x w' => cases x <;> simp only [Oper.uponIn] at h
 · exact ⟨_, _, h.2⟩
def eff (T : Tab) (G : Env) (ops : List Oper) (base : Nat) (tb : List (List Nat × List Nat)) (i : Nat) (o : Oper) (s : Nat → AV) (m : Mem) : Eff := stepE T G ops o s (restr (fpOf tb i) m) (base + 32 * i)
def seqH (T : Tab) (G : Env) (ops : Array Oper) (base : Nat) (tb : List (List Nat × List Nat)) (Q : (Nat → AV) → Mem → Prop) : List Nat → (Nat → AV) → Mem → Prop
 | [], s, m => Q s m
 | i :: r, s, m => ∃ o, ops[i]? = some o ∧ (eff T G ops.toList base tb i o s m).pre ∧ (eff T G ops.toList base tb i o s m).u.map (·.1) = kyOf tb i ∧ (∀ k ∈ kyOf tb i, k ∈ fpOf tb i ∨ (base + 32 * i ≤ k ∧ k < base + 32 * i + 32)) ∧
     ((eff T G ops.toList base tb i o s m).asm → seqH T G ops base tb Q r (updS s o.dst (eff T G ops.toList base tb i o s m).r) (updM m (eff T G ops.toList base tb i o s m).u))
def Nr (base sz : Nat) (rem : List Nat) : Nat → Prop := fun id => base ≤ id ∧ ((id - base) / 32 ∈ rem ∨ sz ≤ (id - base) / 32)
theorem yA5 {m m' : Mem} {id : Nat} (h : m id = m' id) : ∀ u : Heap, updM m u id = updM m' u id := by
 intro u
 induction u generalizing m m' with
 | nil => exact h
 | cons p u ih =>
   obtain ⟨k, b⟩ := p; simp only [updM]; exact ih (by by_cases e : k = id <;> simp [e, h])
theorem tB2 (hW : WideF F) {rem rem' : List Nat} (h : RepF cx σ (Nr base ops.size rem) s m n a w) (ht : TabOK P T) (hG : EnvD cx.D cx.gv P G) {i : Nat} {o : Oper} (hi : ops[i]? = some o) (hf : Fo cx n o)
 (hin : i ∈ rem) (hrem : ∀ j ∈ rem', j ∈ rem ∧ j ≠ i)
 (hky : ∀ k ∈ kyOf tb i, k ∈ fpOf tb i ∨ (base + 32 * i ≤ k ∧ k < base + 32 * i + 32)) (hp : (eff T G ops.toList base tb i o s m).pre) (hu : (eff T G ops.toList base tb i o s m).u.map (·.1) = kyOf tb i)
 {K : Act → World → Prop} {Q : Exit → Act → World → Prop}
 (hK : ∀ a' w' σ', RepF cx σ' (Nr base ops.size rem') (updS s o.dst (eff T G ops.toList base tb i o s m).r) (updM m (eff T G ops.toList base tb i o s m).u) n a' w' → (eff T G ops.toList base tb i o s m).asm → K a' w') :
 wpOpIn F nn P ops Q i K a w := by
 have hi' : i < ops.size := (Array.getElem?_eq_some_iff.1 hi).1; have hfr : ∀ id, base + 32 * i ≤ id → id < base + 32 * i + 32 → Nr base ops.size rem id := fun id h1 h2 => ⟨by omega, .inl (by rw [show (id - base) / 32 = i by omega]; exact hin)⟩; have hsub : RepF (sub cx σ m w (fpOf tb i)) σ (Nr base ops.size rem) s (restr (fpOf tb i) m) n a w := ⟨h.mm.sub (fpOf tb i), fun i => pA0 (eA8 _) _ _ (h.ss i), h.df, h.sz, h.fx⟩; have hkey : ∀ p ∈ (eff T G ops.toList base tb i o s m).u, p.1 ∈ fpOf tb i ∨ (base + 32 * i ≤ p.1 ∧ p.1 < base + 32 * i + 32) := fun p hp => hky p.1 (by rw [← hu]; exact List.mem_map.2 ⟨p, hp, rfl⟩); refine eA6 hW hsub hfr ht hG hi hf hp (fun a' w' σ' h' k ha => ?_); have hdead : ∀ id, Nr base ops.size rem id → m id = restr (fpOf tb i) m id := fun id hn => by
  rw [h.mm.fresh id hn]; unfold restr; split
  · rw [h.mm.fresh id hn]
  · rfl
 obtain ⟨g1, g2, g3⟩ := h.mm.glue (fpOf tb i) h'.mm k (fun id hs hn => by
  rw [uA0]
  · unfold restr; rw [hs]; simp
  · intro p hp e
    rcases hkey p hp with h1 | h1
    · rw [e] at h1; rw [List.contains_iff_mem.2 h1] at hs; cases hs
    · exact hn (by rw [← e]; exact hfr _ h1.1 h1.2)) (updM m (eff T G ops.toList base tb i o s m).u)
  (fun id hs => yA5 (by unfold restr; rw [if_pos hs]) _) (fun id hn => yA5 (hdead id hn) _) (fun id hs hn => by
    rw [uA0]; intro p hp e
    rcases hkey p hp with h1 | h1
    · rw [e] at h1; rw [List.contains_iff_mem.2 h1] at hs; cases hs
    · exact hn (by rw [← e]; exact hfr _ h1.1 h1.2))
 have hfin : RepF cx σ' (Nx (Nr base ops.size rem) (base + 32 * i)) (updS s o.dst (eff T G ops.toList base tb i o s m).r) (updM m (eff T G ops.toList base tb i o s m).u) n a' w' :=
  ⟨g1, fun j => pA0 g3 _ _ (h'.ss j), h'.df, h'.sz, h'.fx⟩
 refine hK a' w' σ' (hfin.weaken fun id hid => ?_) ha; obtain ⟨h1, h2⟩ := hid; refine ⟨⟨h1, h2.imp (fun hm => (hrem _ hm).1) (fun q => q)⟩, fun hr => ?_⟩; have e : (id - base) / 32 = i := by omega
 rcases h2 with h2 | h2
 · exact (hrem _ h2).2 e
 · omega
/-! ### what an operation looks at -/
theorem dB5 {ops : List Oper} {o : Oper} {t : Tmp} (h : .tmp t ∈ opsOf o.op) : t ∈ looks ops o := by
 unfold looks; rw [List.mem_append]; exact .inl (List.mem_filterMap.2 ⟨_, h, rfl⟩)
theorem lC1 {s s' : Nat → AV} {x : Operand} (h : ∀ t, x = .tmp t → s t = s' t) : opd s x = opd s' x := by
 cases x with
 | tmp t => exact h t rfl
 | _ => rfl
theorem fB6 {ops : List Oper} {o : Oper} {s s' : Nat → AV} {m : Mem} {fr : Nat} (h : ∀ t ∈ looks ops o, s t = s' t) : stepE T G ops o s m fr = stepE T G ops o s' m fr := by
 have e1 : (opsOf o.op).map (opd s) = (opsOf o.op).map (opd s') := List.map_congr_left fun x hx => lC1 fun t e => h t (dB5 (e ▸ hx)); unfold stepE
 cases hg : o.guard with
 | none => simp only [e1]
 | some jb =>
   obtain ⟨j, b⟩ := jb; have e2 : guardC ops s j b = guardC ops s' j b := by
    unfold guardC
    cases hd : (ops[j]?).bind (·.dst) with
    | none => rfl
    | some d =>
      have : s d = s' d := h d (by unfold looks; rw [List.mem_append]; right; simp [hg, hd]); simp only [this]
   have e3 : guardOk ops s j = guardOk ops s' j := by
    unfold guardOk
    cases hd : (ops[j]?).bind (·.dst) with
    | none => rfl
    | some d =>
      have : s d = s' d := h d (by unfold looks; rw [List.mem_append]; right; simp [hg, hd]); simp only [this]
   simp only [e1, e2, e3]
theorem lA8 {ops : List Oper} {o : Oper} {i : Nat} {s s' : Nat → AV} {m m' : Mem} (h : ∀ t ∈ looks ops o, s t = s' t) (hm : ∀ id ∈ fpOf tb i, m id = m' id) : eff T G ops base tb i o s m = eff T G ops base tb i o s' m' := by
 unfold eff; have : restr (fpOf tb i) m = restr (fpOf tb i) m' := by
  funext id; unfold restr; split
  · rename_i hc; exact hm id (List.contains_iff_mem.1 hc)
  · rfl
 rw [this]; exact fB6 h
theorem tC3 {s : Nat → AV} {d e : Option Nat} {x y : AV} (h : ∀ i j, d = some i → e = some j → i ≠ j) : updS (updS s d x) e y = updS (updS s e y) d x := by
 cases d with
 | none => rfl
 | some i =>
   cases e with
   | none => rfl
   | some j =>
     have := h i j rfl rfl; funext q; simp only [updS]; by_cases e1 : i = q <;> by_cases e2 : j = q <;> simp [e1, e2]
     subst e1; subst e2; exact absurd rfl this
theorem eC2 {m : Mem} {u v : Heap} (h : ∀ p ∈ u, ∀ q ∈ v, p.1 ≠ q.1) : updM (updM m u) v = updM (updM m v) u := by
 funext id; by_cases hu : ∃ p ∈ u, p.1 = id
 · obtain ⟨p, hp, e⟩ := hu; rw [uA0 _ v id (fun q hq e' => h p hp q hq (e.trans e'.symm))]; exact yA5 (uA0 _ v id (fun q hq e' => h p hp q hq (e.trans e'.symm))).symm u
 · have : ∀ p ∈ u, p.1 ≠ id := fun p hp e => hu ⟨p, hp, e⟩; rw [uA0 _ u id this]; exact yA5 (uA0 _ u id this) v
/-! ### a look into a map to numbers, and an entry for a key -/
def Sft (M M' : Mem) : Prop := ∀ i, M' i = M i ∨ ∃ kt ik ka l k, M i = .mapb kt (.int ik) ka false l ∧ M' i = .mapb kt (.int ik) ka false (kadd l k 0)
theorem gB3 {kt : Ty} {β : Type} (k k' : kt.den) (z : β) : ∀ l : List (kt.den × β), (mget (l ++ [(k, z)]) k').getD z = (mget l k').getD z
 | [] => by
   show (if keyEq kt k' k then some z else none).getD z = z
   split <;> rfl
 | (a, u) :: r => by
   show (if keyEq kt k' a then some u else mget (r ++ [(k, z)]) k').getD z = (if keyEq kt k' a then some u else mget r k').getD z; split
   · rfl
   · exact gB3 k k' z r
theorem hC4 {kt : Ty} {β : Type} (l : List (kt.den × β)) (k k' : kt.den) (z : β) : (mget (kadd l k z) k').getD z = (mget l k').getD z := by
 unfold kadd; split
 · rfl
 · exact gB3 k k' z l
theorem jC6 {M M' : Mem} (h : Sft M M') (t : Ty) (c : C1) : view M' t c = view M t c := by
 cases c with
 | row id =>
   unfold view
   rcases h id with e | ⟨_, _, _, _, _, e1, e2⟩
   · simp only [e]
   · simp only [e1, e2]
 | win id sz lo len =>
   unfold view
   rcases h id with e | ⟨_, _, _, _, _, e1, e2⟩
   · simp only [e]
   · simp only [e1, e2]
 | _ => rfl
theorem eA7 {M M' : Mem} (h : Sft M M') : ∀ (t : Ty) (cs : List C1), impl M' t cs = impl M t cs
 | .int _, _ => rfl
 | .bool, _ => rfl
 | .str, _ => rfl
 | .unit, _ => rfl
 | .sl t, cs => by
   unfold impl implL; split
   · exact jC6 h t _
   · rfl
 | .pair a b, cs => by
   unfold impl; rw [eA7 h a, eA7 h b]
theorem lB8 {M M' : Mem} (h : Sft M M') {o : Oper} {t : TypeId} {a b : Operand} (ho : o.op = .lookup t a b false) {avs : List AV} {fr : Nat} : opEff T G o avs M' fr = opEff T G o avs M fr := by
 simp only [opEff, ho]; split
 · rename_i kT eT id k _; by_cases hw : wfOf G o.dst = 3
   · rw [if_pos hw, if_pos hw]
   · rw [if_neg hw, if_neg hw]
     rcases h id with e | ⟨kt, ik, ka, l, k0, e1, e2⟩
     · rw [e]
       cases hm : M id with
       | mapb kt vt ka va l =>
         dsimp only
         rw [eA7 h]
       | _ => rfl
     · rw [e1, e2]; dsimp only; rw [eA7 h]
       cases impl M kt k.cells with
       | none => rfl
       | some k' =>
         have hg : (mget (kadd l k0 0) k').getD (Ty.int ik).dflt = (mget l k').getD (Ty.int ik).dflt := hC4 l k0 k' (0 : Int); simp only [hg, Bool.false_eq_true, if_false]
 · rfl
theorem mC2 {ops : List Oper} {o : Oper} {t : TypeId} {a b : Operand} (ho : o.op = .mapEntry t a b) (hg : o.guard = none) {s : Nat → AV} {M m : Mem} {fr : Nat} (hm : ∀ i, M i = m i ∨ M i = .dead)
 (hl : (stepE T G ops o s M fr).u.length = 1) : Sft m (updM m (stepE T G ops o s M fr).u) := by
 unfold stepE at hl ⊢; simp only [hg] at hl ⊢; generalize (opsOf o.op).map (opd s) = avs at hl ⊢; simp only [opEff, ho] at hl ⊢; exact absurd hl (by simp [bad])
structure Apart (ops : List Oper) (tb : List (List Nat × List Nat)) (i j : Nat) (x y : Oper) : Prop where
 xd : ∀ d, x.dst = some d → d ∉ looks ops y ∧ y.dst ≠ some d
 yd : ∀ d, y.dst = some d → d ∉ looks ops x
 f1 : ∀ k ∈ kyOf tb i, k ∉ fpOf tb j
 f2 : (∀ k ∈ kyOf tb j, k ∉ fpOf tb i) ∨ (x.guard = none ∧ y.guard = none ∧ (∃ t a b, x.op = .lookup t a b false) ∧ (∃ t a b, y.op = .mapEntry t a b) ∧ (kyOf tb j).length = 1)
 kk : ∀ k ∈ kyOf tb i, k ∉ kyOf tb j
theorem aA9 {ops : List Oper} {i j : Nat} {x y : Oper} (hi : ops[i]? = some x) (hj : ops[j]? = some y) (h : apartB ops tb i j = true) : Apart ops tb i j x y := by
 unfold apartB at h; simp only [hi, hj, Bool.and_eq_true, Bool.or_eq_true, apartO, disj, List.all_eq_true] at h; obtain ⟨⟨⟨⟨h1, h2⟩, h3⟩, h4⟩, h5⟩ := h; refine ⟨fun d hd => ?_, fun d hd => ?_, fun k hk hm => ?_, h4.imp (fun h4 k hk hm => ?_) (fun h4 => ?_), fun k hk hm => ?_⟩
 · rw [hd] at h1; simp only [Bool.and_eq_true, Bool.not_eq_true', bne_iff_ne] at h1; exact ⟨fun hc => by have := h1.1; simp at this; exact this hc, h1.2⟩
 · rw [hd] at h2; simp at h2; exact h2
 · have := h3 k hk; simp at this; exact this hm
 · have := h4 k hk; simp at this; exact this hm
 · unfold softB at h4; split at h4
   · rename_i g1 g2 g3 g4; exact ⟨g1, g2, ⟨_, _, _, g3⟩, ⟨_, _, _, g4⟩, of_decide_eq_true h4⟩
   · cases h4
 · have := h5 k hk; simp at this; exact this hm
theorem pB1 {s : Nat → AV} {d : Option Nat} {x : AV} {t : Nat} (h : ∀ e, d = some e → e ≠ t) : updS s d x t = s t := by
 cases d with
 | none => rfl
 | some e => simp only [updS, if_neg (h e rfl)]
theorem Apart.eff_second {i j : Nat} {x y : Oper} (h : Apart ops.toList tb i j x y) (hu : (eff T G ops.toList base tb i x s m).u.map (·.1) = kyOf tb i) :
 eff T G ops.toList base tb j y (updS s x.dst (eff T G ops.toList base tb i x s m).r) (updM m (eff T G ops.toList base tb i x s m).u) = eff T G ops.toList base tb j y s m := by
 refine lA8 (fun t ht => pB1 fun e he eq => (h.xd e he).1 (eq ▸ ht)) (fun id hid => uA0 _ _ _ fun p hp eq => h.f1 p.1 ?_ (eq ▸ hid)); rw [← hu]; exact List.mem_map.2 ⟨p, hp, rfl⟩
theorem Apart.eff_first {i j : Nat} {x y : Oper} (h : Apart ops.toList tb i j x y) (hu : (eff T G ops.toList base tb j y s m).u.map (·.1) = kyOf tb j) :
 eff T G ops.toList base tb i x (updS s y.dst (eff T G ops.toList base tb j y s m).r) (updM m (eff T G ops.toList base tb j y s m).u) = eff T G ops.toList base tb i x s m := by
 rcases h.f2 with f2 | ⟨g1, g2, ⟨t, a, b, g3⟩, ⟨t', a', b', g4⟩, hl⟩
 · refine lA8 (fun t ht => pB1 fun e he eq => h.yd e he (eq ▸ ht)) (fun id hid => uA0 _ _ _ fun p hp eq => f2 p.1 ?_ (eq ▸ hid)); rw [← hu]; exact List.mem_map.2 ⟨p, hp, rfl⟩
 · have hs : Sft m (updM m (eff T G ops.toList base tb j y s m).u) := mC2 g4 g2 (fun i => by
    unfold restr; split
    · exact .inl rfl
    · exact .inr rfl) (by
    have := congrArg List.length hu; rw [List.length_map, hl] at this; exact this)
   generalize updM m (eff T G ops.toList base tb j y s m).u = m' at hs ⊢; have hs2 : Sft (restr (fpOf tb i) m) (restr (fpOf tb i) m') := fun k => by
    unfold restr; split
    · exact hs k
    · exact .inl rfl
   have e1 : eff T G ops.toList base tb i x (updS s y.dst (eff T G ops.toList base tb j y s m).r) m' = eff T G ops.toList base tb i x s m' :=
    lA8 (fun t ht => pB1 fun e he eq => h.yd e he (eq ▸ ht)) (fun _ _ => rfl)
   rw [e1]; unfold eff stepE; simp only [g1]; exact lB8 hs2 g3
variable {Q0 : (Nat → AV) → Mem → Prop}
theorem xA9 {i : Nat} {o : Oper} (hi : ops[i]? = some o) (R : List Nat) : ∀ (J : List Nat) (s : Nat → AV) (m : Mem), (∀ j ∈ J, apartB ops.toList tb j i = true) → seqH T G ops base tb Q0 (J ++ i :: R) s m →
 (eff T G ops.toList base tb i o s m).u.map (·.1) = kyOf tb i → (eff T G ops.toList base tb i o s m).asm →
 seqH T G ops base tb Q0 (J ++ R) (updS s o.dst (eff T G ops.toList base tb i o s m).r) (updM m (eff T G ops.toList base tb i o s m).u)
 | [], s, m, _, h, _, ha => by
   obtain ⟨o', ho', h1, h2, _, h3⟩ := h; rw [hi] at ho'; cases ho'
   exact h3 ha
 | j :: J, s, m, hap, h, hu, ha => by
   obtain ⟨x, hx, h1, h2, hk, h3⟩ := h; have hA := aA9 (ops := ops.toList) (tb := tb) (x := x) (y := o) (by simpa using hx) (by simpa using hi) (hap j List.mem_cons_self); have e1 := hA.eff_first (T := T) (G := G) (base := base) (s := s) (m := m) hu; have e2 := hA.eff_second (T := T) (G := G) (base := base) (s := s) (m := m) h2; refine ⟨x, hx, by rw [e1]; exact h1, by rw [e1]; exact h2, hk, fun hasm => ?_⟩; rw [e1] at hasm ⊢; have := xA9 hi R J _ _ (fun q hq => hap q (List.mem_cons_of_mem _ hq)) (h3 hasm) (by rw [e2]; exact hu) (by rw [e2]; exact ha); rw [e2] at this; rw [tC3 (fun p q hp hq e => (hA.xd p hp).2 (e ▸ hq)), eC2 (u := (eff T G ops.toList base tb j x s m).u)] at this
   · exact this
   · intro p hp q hq e; refine hA.kk p.1 ?_ ?_
     · rw [← h2]; exact List.mem_map.2 ⟨p, hp, rfl⟩
     · rw [e, ← hu]; exact List.mem_map.2 ⟨q, hq, rfl⟩
structure DrawOk (ops : Array Oper) (tb : List (List Nat × List Nat)) : Prop where
 d : ∀ i, i < ops.size → ∀ e ∈ dirs ops.toList i, e < i
 a : ∀ i j, i < j → j < ops.size → i ∈ clos ops.toList 8 j ∨ apartB ops.toList tb i j = true
theorem pB5 (h : drawOk ops.toList tb = true) : DrawOk ops tb := by
 unfold drawOk at h; simp only [List.all_eq_true, List.mem_range, Bool.and_eq_true, Bool.or_eq_true, decide_eq_true_eq, List.contains_iff_mem, Array.length_toList] at h; refine ⟨fun i hi => (h i hi).1, fun i j hij hj => ?_⟩
 rcases (h i (by omega)).2 j hj with (h1 | h1) | h1
 · omega
 · exact .inl h1
 · exact .inr h1
theorem kB7 (ht : TabOK P T) (hG : EnvD cx.D cx.gv P G) (hf : ∀ o ∈ ops.toList, Fo cx n o) {i : Nat} {o : Oper} (hi : ops[i]? = some o) (R : List Nat) :
 ∀ (J : List Nat) (s : Nat → AV) (m : Mem) (a : Act) (w : World) (σ : Nat → Value), (J ++ i :: R).Pairwise (· < ·) → (∀ j ∈ J, apartB ops.toList tb j i = true) → seqH T G ops base tb Q0 (J ++ i :: R) s m →
 RepF cx σ (Nr base ops.size (J ++ i :: R)) s m n a w → (eff T G ops.toList base tb i o s m).pre ∧ (eff T G ops.toList base tb i o s m).u.map (·.1) = kyOf tb i ∧ ∀ k ∈ kyOf tb i, k ∈ fpOf tb i ∨ (base + 32 * i ≤ k ∧ k < base + 32 * i + 32)
 | [], s, m, a, w, σ, _, _, h, _ => by
   obtain ⟨o', ho', h1, h2, h3, _⟩ := h; rw [hi] at ho'; cases ho'
   exact ⟨h1, h2, h3⟩
 | j :: J, s, m, a, w, σ, hsort, hap, h, hr => by
   obtain ⟨x, hx, h1, h2, hk, h3⟩ := h; have hA := aA9 (ops := ops.toList) (tb := tb) (x := x) (y := o) (by simpa using hx) (by simpa using hi) (hap j List.mem_cons_self); have e2 := hA.eff_second (T := T) (G := G) (base := base) (s := s) (m := m) h2; have hlt : j < ops.size := (Array.getElem?_eq_some_iff.1 hx).1; have hs' := List.pairwise_cons.1 hsort; have hw := tB2 (F := Fence.wide) (nn := 0) (.inl rfl) (rem' := J ++ i :: R) (Q := fun _ _ _ => False) (K := fun a' w' => ∃ σ', RepF cx σ' (Nr base ops.size (J ++ i :: R)) (updS s x.dst (eff T G ops.toList base tb j x s m).r) (updM m (eff T G ops.toList base tb j x s m).u) n a' w' ∧ (eff T G ops.toList base tb j x s m).asm)
    hr ht hG hx (hf x (by have := Array.mem_of_getElem? hx; simpa using this)) (by simp) (fun q hq => ⟨List.mem_cons_of_mem _ hq, fun e => by have := hs'.1 q hq; omega⟩) hk h1 h2 (fun a' w' σ' h ha => ⟨σ', h, ha⟩)
   obtain ⟨a', w', σ', hr', ha⟩ := wC1 hx hw; have := kB7 ht hG hf hi R J _ _ a' w' σ' hs'.2 (fun q hq => hap q (List.mem_cons_of_mem _ hq)) (h3 ha) hr'; rw [e2] at this; exact this
theorem aA8 {ops : List Oper} {l : Array Bool} (hdown : ∀ i, l.getD i false = true → ∀ e ∈ dirs ops i, l.getD e false = true) : ∀ (f j : Nat), (∀ e ∈ dirs ops j, l.getD e false = true) → ∀ i ∈ clos ops f j, l.getD i false = true
 | 0, _, _, i, hi => by simp [clos] at hi
 | f + 1, j, h, i, hi => by
   simp only [clos, List.mem_eraseDups, List.mem_append, List.mem_flatMap] at hi
   rcases hi with hi | ⟨e, he, hi⟩
   · exact h i hi
   · exact aA8 hdown f e (fun q hq => hdown e (h e he) q hq) i hi
theorem iB7 {i e : Nat} {o : Oper} (hi : ops[i]? = some o) : e ∈ dirs ops.toList i ↔ ∃ d ∈ o.after, Region.binds .any d = true ∧ d.on = e := by
 unfold dirs; have : ops.toList[i]? = some o := by simpa using hi
 rw [this]; simp only [List.mem_map, List.mem_filter, Array.mem_toList_iff]; constructor
 · rintro ⟨d, ⟨h1, h2⟩, h3⟩; exact ⟨d, h1, h2, h3⟩
 · rintro ⟨d, h1, h2, h3⟩; exact ⟨d, ⟨h1, h2⟩, h3⟩
theorem lC2 (hW : WideF F) (ht : TabOK P T) (hG : EnvD cx.D cx.gv P G) (hf : ∀ o ∈ ops.toList, Fo cx n o) (hd : DrawOk ops tb) {Q : Exit → Act → World → Prop}
 (hK : ∀ s m a w σ, Q0 s m → RepF cx σ (Nr base ops.size []) s m n a w → Q .normal a w) :
 ∀ (f : Nat) (rem : List Nat) (l : Array Bool) (s : Nat → AV) (m : Mem) (a : Act) (w : World) (σ : Nat → Value), rem.length = f → rem.Pairwise (· < ·) → l.size = ops.size →
   (∀ i, i ∈ rem ↔ i < ops.size ∧ l.getD i false = false) → (∀ i, l.getD i false = true → ∀ e ∈ dirs ops.toList i, l.getD e false = true) →
   seqH T G ops base tb Q0 rem s m → RepF cx σ (Nr base ops.size rem) s m n a w → wpAnyIn F nn P .any ops Q f l a w := by
 have tf : ∀ (l : Array Bool) (i : Nat), l.size = ops.size → i < ops.size → l.getD i true = l.getD i false := fun l i hl hi => by
  simp [Array.getD_eq_getD_getElem?, Array.getElem?_eq_getElem (show i < l.size by omega)]
 intro f
 induction f with
 | zero =>
   intro rem l s m a w σ hlen hsort hsz hmem hdown hseq hr; have hnil := List.eq_nil_of_length_eq_zero hlen; subst hnil; refine ⟨?_, hK s m a w σ hseq hr⟩; refine List.eq_nil_iff_forall_not_mem.2 fun i hi => ?_; obtain ⟨h1, o, ho, _⟩ := mem_ready.1 hi; have hlt : i < ops.size := (Array.getElem?_eq_some_iff.1 ho).1; have := (hmem i).2 ⟨hlt, by rw [← tf l i hsz hlt]; exact h1⟩
   cases this
 | succ f ih =>
   intro rem l s m a w σ hlen hsort hsz hmem hdown hseq hr; refine ⟨fun hnil => ?_, fun i hir => ?_⟩
   · exfalso
     cases rem with
     | nil => simp at hlen
     | cons r0 rest =>
       obtain ⟨hlt, hun⟩ := (hmem r0).1 List.mem_cons_self; have hin : r0 ∈ Region.ready .any ops l := by
        refine mem_ready.2 ⟨by rw [tf l r0 hsz hlt]; exact hun, ops[r0], by simp [hlt], fun e he hb => ?_⟩; have hlt' := hd.d r0 hlt e.on ((iB7 (by simp [hlt])).2 ⟨e, he, hb, rfl⟩)
        cases hl : l.getD e.on false with
        | true => rfl
        | false =>
          have hm := (hmem e.on).2 ⟨by omega, hl⟩
          rcases List.mem_cons.1 hm with h1 | h1
          · omega
          · have := (List.pairwise_cons.1 hsort).1 _ h1; omega
       rw [hnil] at hin; cases hin
   · obtain ⟨h1, o, ho, hall⟩ := mem_ready.1 hir; have hlt : i < ops.size := (Array.getElem?_eq_some_iff.1 ho).1; have hun : l.getD i false = false := by rw [← tf l i hsz hlt]; exact h1
     have hin : i ∈ rem := (hmem i).2 ⟨hlt, hun⟩; obtain ⟨J, R, rfl⟩ := List.append_of_mem hin; have hdi : ∀ e ∈ dirs ops.toList i, l.getD e false = true := fun e he => by
      obtain ⟨d, h1, h2, h3⟩ := (iB7 ho).1 he; rw [← h3]; exact hall d h1 h2
     have hps := List.pairwise_append.1 hsort; have hpc := List.pairwise_cons.1 hps.2.1; have hap : ∀ j ∈ J, apartB ops.toList tb j i = true := fun j hj => by
      have hji := hps.2.2 j hj i List.mem_cons_self
      rcases hd.a j i hji hlt with h2 | h2
      · have := aA8 hdown 8 i hdi j h2; have h3 := ((hmem j).1 (by simp [hj])).2; rw [this] at h3; cases h3
      · exact h2
     obtain ⟨hp, hu, hky⟩ := kB7 ht hG hf ho R J s m a w σ hsort hap hseq hr; have hfo : Fo cx n o := hf o (by have := Array.mem_of_getElem? ho; simpa using this); have hmem' : ∀ j, j ∈ J ++ R ↔ j ∈ J ++ i :: R ∧ j ≠ i := fun j => by
      simp only [List.mem_append, List.mem_cons]; constructor
      · rintro (h | h)
        · exact ⟨.inl h, fun e => by have := hps.2.2 j h i List.mem_cons_self; omega⟩
        · exact ⟨.inr (.inr h), fun e => by have := hpc.1 j h; omega⟩
      · rintro ⟨h | h | h, hne⟩
        · exact .inl h
        · exact absurd h hne
        · exact .inr h
     refine tB2 hW (rem' := J ++ R) hr ht hG ho hfo hin (fun j hj => (hmem' j).1 hj) hky hp hu (fun a' w' σ' hr' ha => ?_); refine ih (J ++ R) (l.setIfInBounds i true) _ _ a' w' σ' (by simp at hlen ⊢; omega) ?_ (by simp [hsz]) (fun j => ?_) (fun j hj e he => ?_) (xA9 ho R J s m hap hseq hu ha) hr'
     · exact List.pairwise_append.2 ⟨hps.1, hpc.2, fun x hx y hy => hps.2.2 x hx y (List.mem_cons_of_mem _ hy)⟩
     · rw [hmem' j, hmem j]; by_cases hji : j = i
       · subst hji; simp [hsz, hlt]
       · rw [getD_set_ne false (fun e => hji e.symm)]; simp [hji]
     · by_cases hji : j = i
       · subst hji; exact getD_set_true (hdi e he)
       · rw [getD_set_ne false (fun e => hji e.symm)] at hj; exact getD_set_true (hdown j hj e he)
/-! ### from the walk -/
theorem nC3 (h : RepF cx σ (From fr) s m n a w) {F : List Nat} (ht : TabOK P T) (hG : EnvD cx.D cx.gv P G) {i : Nat} {o : Oper} (hi : ops[i]? = some o) (hf : Fo cx n o)
 (hp : (stepE T G ops.toList o s (restr F m) fr).pre) (hkey : keysOk F fr (stepE T G ops.toList o s (restr F m) fr).u = true) :
 ∃ a' w' σ', RepF cx σ' (From (fr + 32)) (updS s o.dst (stepE T G ops.toList o s (restr F m) fr).r) (updM m (stepE T G ops.toList o s (restr F m) fr).u) n a' w' ∧ (stepE T G ops.toList o s (restr F m) fr).asm := by
 have hsub : RepF (sub cx σ m w F) σ (From fr) s (restr F m) n a w := ⟨h.mm.sub F, fun i => pA0 (eA8 _) _ _ (h.ss i), h.df, h.sz, h.fx⟩; have hk : ∀ p ∈ (stepE T G ops.toList o s (restr F m) fr).u, p.1 ∈ F ∨ (fr ≤ p.1 ∧ p.1 < fr + 32) := fun p hp => by
  have := List.all_eq_true.1 hkey p hp; simp only [Bool.or_eq_true, Bool.and_eq_true, decide_eq_true_eq, List.contains_iff_mem] at this; exact this
 refine wC1 (K := fun a' w' => ∃ σ', RepF cx σ' (From (fr + 32)) (updS s o.dst (stepE T G ops.toList o s (restr F m) fr).r) (updM m (stepE T G ops.toList o s (restr F m) fr).u) n a' w' ∧ (stepE T G ops.toList o s (restr F m) fr).asm) hi
  (eA6 (F := Fence.wide) (nn := 0) (.inl rfl) hsub (fun id h1 _ => h1) ht hG hi hf hp (fun a' w' σ' h' k ha => ⟨σ', ?_, ha⟩))
 have hdead : ∀ id, From fr id → m id = restr F m id := fun id hn => by
  rw [h.mm.fresh id hn]; unfold restr; split
  · rw [h.mm.fresh id hn]
  · rfl
 have hoff : ∀ id, F.contains id = false → ¬ From fr id → ∀ p ∈ (stepE T G ops.toList o s (restr F m) fr).u, p.1 ≠ id := by
  intro id hs hn p hp e
  rcases hk p hp with h1 | h1
  · rw [e] at h1; rw [List.contains_iff_mem.2 h1] at hs; cases hs
  · exact hn (by rw [← e]; exact h1.1)
 obtain ⟨g1, g2, g3⟩ := h.mm.glue F h'.mm k (fun id hs hn => by
  rw [uA0 _ _ _ (hoff id hs hn)]; unfold restr; rw [hs]; simp) (updM m (stepE T G ops.toList o s (restr F m) fr).u)
  (fun id hs => yA5 (by unfold restr; rw [if_pos hs]) _) (fun id hn => yA5 (hdead id hn) _) (fun id hs hn => by
    rw [uA0 _ _ _ (hoff id hs hn)])
 have hfin : RepF cx σ' (Nx (From fr) fr) (updS s o.dst (stepE T G ops.toList o s (restr F m) fr).r) (updM m (stepE T G ops.toList o s (restr F m) fr).u) n a' w' :=
  ⟨g1, fun j => pA0 g3 _ _ (h'.ss j), h'.df, h'.sz, h'.fx⟩
 exact hfin.weaken fun id hid => ⟨by unfold From at *; omega, by unfold From at *; omega⟩
theorem eC3 (ht : TabOK P T) (hG : EnvD cx.D cx.gv P G) {all : Array Oper} (hf : ∀ o ∈ all.toList, Fo cx n o) (K : Slots → Heap → List (List Nat × List Nat) → Prop) :
 ∀ (os : List Oper) (i : Nat) (s : Slots) (m : Heap) (acc : List (List Nat × List Nat)) (a : Act) (w : World) (σ : Nat → Value), (∀ j, os[j]? = all[i + j]?) → i + os.length = all.size → acc.length = i →
   evD T G all.toList base i os s m acc K → RepF cx σ (From (base + 32 * i)) (sget s) (mem m) n a w →
   ∃ tl sF mF, K sF mF (acc ++ tl) ∧ ∀ tb, (∀ j, j < os.length → tl[j]? = tb[i + j]?) → seqH T G all base tb (fun s m => s = sget sF ∧ m = mem mF) (List.range' i os.length) (sget s) (mem m)
 | [], i, s, m, acc, a, w, σ, _, _, _, hev, _ => ⟨[], s, m, by rw [List.append_nil]; exact hev, fun tb _ => ⟨rfl, rfl⟩⟩
 | o :: os, i, s, m, acc, a, w, σ, hos, hl, hacc, hev, h => by
   have h0 : all[i]? = some o := by simpa using (hos 0).symm
   obtain ⟨hp, hk, hev'⟩ := hev; obtain ⟨a', w', σ', h', ha⟩ := nC3 h ht hG h0 (hf o (by have := Array.mem_of_getElem? h0; simpa using this)) hp hk; rw [← wB1, ← cA4] at h'; obtain ⟨tl, sF, mF, hK, hseq⟩ := eC3 ht hG hf K os (i + 1) _ _ _ a' w' σ' (fun j => by have := hos (j + 1); simpa [Nat.add_assoc, Nat.add_comm 1 j] using this) (by simp at hl; omega)
    (by rw [List.length_append, hacc]; rfl) (hev' ha) h'
   refine ⟨_ :: tl, sF, mF, by rw [List.append_assoc] at hK; exact hK, fun tb htb => ?_⟩; have e0 := htb 0 (by simp); simp only [List.getElem?_cons_zero, Nat.add_zero] at e0; have ef : fpOf tb i = touchX G o ((opsOf o.op).map (opd (sget s))) (mem m) := by unfold fpOf; rw [List.getD_eq_getElem?_getD, ← e0]; rfl
   have ek : kyOf tb i = (stepE T G all.toList o (sget s) (restr (touchX G o ((opsOf o.op).map (opd (sget s))) (mem m)) (mem m)) (base + 32 * i)).u.map (·.1) := by unfold kyOf; rw [List.getD_eq_getElem?_getD, ← e0]; rfl
   have ee : eff T G all.toList base tb i o (sget s) (mem m) = stepE T G all.toList o (sget s) (restr (touchX G o ((opsOf o.op).map (opd (sget s))) (mem m)) (mem m)) (base + 32 * i) := by unfold eff; rw [ef]
   have hr := hseq tb (fun j hj => by
    have := htb (j + 1) (by simp; omega); simp only [List.getElem?_cons_succ] at this; rw [this]; congr 1; omega)
   refine ⟨o, h0, ?_⟩; rw [ee, ek, ef]; refine ⟨hp, rfl, fun k hkk => ?_, fun _ => ?_⟩
   · obtain ⟨p, hp1, hp2⟩ := List.mem_map.1 hkk; have := List.all_eq_true.1 hk p hp1; simp only [Bool.or_eq_true, Bool.and_eq_true, decide_eq_true_eq, List.contains_iff_mem] at this; rw [← hp2]; exact this
   · rw [← wB1, ← cA4]; exact hr
theorem RepF.drew (h : RepF cx σ N s m n a w) : RepF cx σ N s m n a { w with drawn := w.drawn + 1 } := by
 obtain ⟨h1, k⟩ := h.mm.step (σ' := σ) (N' := N) (m' := m) (w' := { w with drawn := w.drawn + 1 }) (fun _ => False) (fun _ h => h) (fun id hn => h.mm.fresh id hn) (fun _ _ => ⟨rfl, rfl⟩) (fun _ _ => rfl) (fun _ _ _ => rfl) ⟨Nat.le_refl _, Nat.le_succ _⟩ rfl rfl rfl
  (fun _ _ h => h.elim) (fun _ _ _ h => h.elim) (fun _ h => h.elim) (fun _ _ h => h.elim)
 exact ⟨h1, fun i => pA0 k _ _ (h.ss i), h.df, h.sz, h.fx⟩
theorem yB9 (hW : WideF F) (ht : TabOK P T) (hG : EnvD cx.D cx.gv P G) (hm : P.follows .mixedOrders = true) (hf : ∀ o ∈ ops.toList, Fo cx n o) {K : Slots → Heap → List (List Nat × List Nat) → Prop} {Q : Exit → Act → World → Prop}
 (hK : ∀ s m a w σ tb, K s m tb → RepF cx σ (From (base + 32 * ops.size)) (sget s) (mem m) n a w → Q .normal a w) {s : Slots} {m : Heap} {a : Act} {w : World} {σ : Nat → Value}
 (hev : evD T G ops.toList base 0 ops.toList s m [] (fun s m tb => drawOk ops.toList tb = true ∧ K s m tb)) (h : RepF cx σ (From base) (sget s) (mem m) n a w) {id : Nat} : (Code.region id ops true).wpIn F nn P Q a w := by
 refine wpIn_region_any hm ?_; obtain ⟨tb, sF, mF, ⟨hok, hKF⟩, hseq⟩ := eC3 ht hG hf (fun s m tb => drawOk ops.toList tb = true ∧ K s m tb) ops.toList 0 s m [] a w σ (fun j => by simp) (by simp) rfl hev h; have hseq' := hseq tb (fun j _ => by simp); rw [List.nil_append] at hok hKF; refine lC2 hW (cx := cx) (Q0 := fun s m => s = sget sF ∧ m = mem mF) ht hG hf (pB5 hok) (fun s m a w σ hQ hr => ?_) ops.size (List.range' 0 ops.size) (Array.replicate ops.size false) (sget s) (mem m) a _ σ (by simp) ?_ (by simp) (fun i => ?_) (fun i hi => ?_) (by simpa using hseq') ?_
 · obtain ⟨rfl, rfl⟩ := hQ; exact hK sF mF a w σ tb hKF (hr.weaken fun id hid => by unfold From at hid; exact ⟨by omega, .inr (by omega)⟩)
 · exact List.pairwise_lt_range'
 · simp [Array.getD_eq_getD_getElem?, Array.getElem?_replicate]; intro hi; split <;> simp
 · simp [Array.getD_eq_getD_getElem?, Array.getElem?_replicate] at hi; split at hi <;> simp at hi
 · exact h.drew.weaken fun id hid => hid.1
end
end Go.Ev
