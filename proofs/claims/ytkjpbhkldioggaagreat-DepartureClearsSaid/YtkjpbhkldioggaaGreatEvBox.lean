/- Part. -/
import Derived.Test.YtkjpbhkldioggaaGreatEvFun5
namespace Go.Ev
inductive IK where
 | row (e : TypeId) (t : Ty) | map (kt vt : Ty) (ka va : Bool)
@[reducible] def IK.den : IK → Type
  | .row _ t => List t.den
  | .map kt vt _ _ => List (kt.den × vt.den)
def IK.blk : (k : IK) → k.den → Blk
 | .row e t, xs => .row e t xs
 | .map kt vt ka va, l => .mapb kt vt ka va l
def IK.c : IK → Nat → C1
 | .row _ _, i => .row i
 | .map _ _ _ _, i => .map i
def IK.rd : (k : IK) → Blk → Option k.den
 | .row e t, b => rdRow t e b
 | .map kt vt ka va, b => rdMap kt vt ka va b
def IK.fl : IK → Bool
 | .row _ t => flat t
 | .map kt vt _ _ => flat kt && flat vt
def IK.inn : IK → C1 → Option Nat
 | .row _ _, .row r => some r
 | .map _ _ _ _, .map r => some r
 | _, _ => none
def inB (k : IK) (e : TypeId) : Blk → Option Nat
 | .cells e' [c] => if e' = e then k.inn c else none
 | _ => none
def bxC : List CapK → List C1 → Option Nat
 | .bx :: _, .loc id 0 :: _ => some id
 | _ :: ks, _ :: cs => bxC ks cs
 | _, _ => none
def bxA : PK → AV → Option Nat
 | .bx, .one (.loc id 0) => some id
 | .cl _ ks, .one (.fn _ caps) => bxC ks caps
 | _, _ => none
def bxO : Option Nat → Option Nat → Option Nat
 | some i, _ => some i
 | none, o => o
def bxs : List PK → List AV → Option Nat
 | k :: ks, v :: vs => bxO (bxA k v) (bxs ks vs)
 | _, _ => none
structure BCon where
 ps : List PK
 rs : List RK
 e : TypeId
 k : IK
 pre : dens ps → k.den → Prop
 out : dens ps → k.den → rdens rs
 nw : dens ps → k.den → dens ps
 nx : dens ps → k.den → k.den
def updX (k : IK) (ps : List PK) (rs : List RK) (avs : List AV) (m : Mem) (fr : Nat) (y : rdens rs) (z : dens ps) : Heap :=
 (if (rs.all rflat && ps.all pflat) && k.fl then [] else (rws m ps avs).map (settle m)) ++ (pupd ps avs z ++ rheap fr rs y)
def updB (k : IK) (e : TypeId) (ps : List PK) (rs : List RK) (avs : List AV) (m : Mem) (fr : Nat) (b r : Nat) (y : rdens rs) (z : dens ps) (q : k.den) : Heap :=
 updX k ps rs avs m fr y z ++ [(r, .dead), (b, .cells e [k.c (fr + 16)]), (fr + 16, k.blk q)]
def BCon.eff (C : BCon) (avs : List AV) (m : Mem) (fr b r : Nat) (x : dens C.ps) (z : C.k.den) : Eff :=
 ⟨C.pre x z, pack (ravs fr C.rs (C.out x z)), updB C.k C.e C.ps C.rs avs m fr b r (C.out x z) (C.nw x z) (C.nx x z), rwf C.rs (C.out x z)⟩
def BCon.effZ (C : BCon) (avs : List AV) (m : Mem) (fr b r : Nat) : Option C.k.den → Option (dens C.ps) → Eff
 | some z, some x => if okIds (r :: pids C.ps avs) (rws m C.ps avs) then C.eff avs m fr b r x z else bad
 | _, _ => bad
def BCon.effR (C : BCon) (avs : List AV) (m : Mem) (fr b : Nat) : Option Nat → Eff
 | some r => C.effZ avs m fr b r (C.k.rd (m r)) (rds m C.ps avs)
 | none => bad
def BCon.effB (C : BCon) (avs : List AV) (m : Mem) (fr : Nat) : Option Nat → Eff
 | some b => C.effR avs m fr b (inB C.k C.e (m b))
 | none => bad
def BCon.ctr (C : BCon) : Ctr := fun avs m fr => C.effB avs m fr (bxs C.ps avs)
def bheap (k : IK) (e : TypeId) (z : k.den) (ps : List PK) (x : dens ps) : Heap := (31, .cells e [k.c 32]) :: (32, k.blk z) :: pheap 0 ps x
def bnheap (k : IK) (e : TypeId) (z : k.den) (ps : List PK) (rs : List RK) (y : rdens rs) (x : dens ps) : Heap := (31, .cells e [k.c 48]) :: (48, k.blk z) :: (nheap 0 ps x ++ rheap 32 rs y)
def entB (k : IK) (e : TypeId) (ps : List PK) (rs : List RK) (T : Tab) (rv : List ResultVar) (st : St) (y : rdens rs) (x : dens ps) (z : k.den) : Prop :=
 ent (rvS T st.s (mem st.m) 0 rv) (mem st.m) 64 (rslots 0 32 rs y) (bnheap k e z ps rs y x)
def BCon.post (C : BCon) (T : Tab) (rv : List ResultVar) (x : dens C.ps) (z : C.k.den) : Ex → St → Prop := fun e st =>
 match e with
 | .exit _ => False
 | _ => rvP T st.s (mem st.m) rv ∧ entB C.k C.e C.ps C.rs T rv st (C.out x z) (C.nw x z) (C.nx x z)
inductive BR (k : IK) (fl : Bool) (fr : Nat) : Blk → Blk → Prop
 | same (B : Blk) (h : B ≠ .dead → Good fl B) : BR k fl fr B B
 | box (e : TypeId) : BR k fl fr (.cells e [k.c 48]) (.cells e [k.c (fr + 16)])
theorem BR.own {k : IK} {fl : Bool} {fr : Nat} {A B : Blk} (h : BR k fl fr A B) : Ev.own A = Ev.own B := by cases h <;> rfl
theorem IK.inn_some {k : IK} {c : C1} {r : Nat} (h : k.inn c = some r) : c = k.c r := by
 cases k <;> cases c <;> simp only [IK.inn] at h <;> cases h <;> rfl
theorem inB_some {k : IK} {e : TypeId} {B : Blk} {r : Nat} (h : inB k e B = some r) : B = .cells e [k.c r] := by
 unfold inB at h; split at h
 · split at h
   · rename_i e2; subst e2; rw [IK.inn_some h]
   · cases h
 · cases h
theorem IK.rd_some {k : IK} {B : Blk} {z : k.den} (h : k.rd B = some z) : B = k.blk z := by
 cases k with
 | row e t => exact rdRow_some h
 | map kt vt ka va => exact rdMap_some h
theorem IK.blk_own {k : IK} {z : k.den} : own (k.blk z) = true := by cases k <;> rfl
theorem IK.blk_good {k : IK} {z : k.den} {fl : Bool} (h : fl = true → k.fl = true) : Good fl (k.blk z) := by
 cases k with
 | row e t => exact .row e t z h
 | map kt vt ka va => exact .mapb kt vt ka va z fun q => by simpa [IK.fl] using h q
theorem IK.c_rep {k : IK} {x : Rx} {i : Nat} {v : Value} : repC x (k.c i) v ↔ ¬ x.N i ∧ v = x.σ i := by
 cases k <;> (unfold IK.c repC; exact Iff.rfl)
theorem bxC_ptr : ∀ (ks : List CapK) (cs : List C1) (i b : Nat), bxC ks cs = some b → ∀ {m : Mem} {y : cdens ks}, rdCaps m ks cs = some y → (31, b) ∈ (capCids i ks).zip (capIds cs)
 | [], _, _, _, h, _, _, _ => by unfold bxC at h; cases h
 | _ :: _, [], _, _, h, _, _, _ => by
   simp [bxC] at h
 | k :: ks, c :: cs, i, b, h, m, y, hr => by
   obtain ⟨h1, h2⟩ := implP_some hr; obtain ⟨id, rfl, hm⟩ := rdCap_some h1; rw [capCids_cons]; simp only [capIds, List.zip_cons_cons]
   cases k with
   | bx =>
     simp only [bxC, Option.some.injEq] at h; subst h
     exact List.mem_cons_self
   | _ => exact List.mem_cons_of_mem _ (bxC_ptr ks cs (i + 1) b (by simpa only [bxC] using h) h2)
theorem bxs_ptr {m : Mem} : ∀ (ks : List PK) (vs : List AV) (i b : Nat) (x : dens ks), bxs ks vs = some b → rds m ks vs = some x → (31, b) ∈ ptrs i ks vs
 | [], _, _, _, _, h, _ => by cases h
 | _ :: _, [], _, _, _, h, _ => by cases h
 | k :: ks, v :: vs, i, b, x, h, hr => by
   obtain ⟨h1, h2⟩ := rds_cons hr; simp only [ptrs, List.mem_append]; unfold bxs at h
   cases hb : bxA k v with
   | none =>
     rw [hb] at h
     exact .inr (bxs_ptr ks vs (i + 1) b x.2 h h2)
   | some q =>
     rw [hb] at h; simp only [bxO, Option.some.injEq] at h; subst h; left; unfold bxA at hb; split at hb
     · cases hb; simp [pcid, pid]
     · obtain ⟨caps, e, h3⟩ := rd_cl h1; cases e; exact bxC_ptr _ _ (8 + 4 * i) q hb h3
     · cases hb
section
variable {P : Program} {T : Tab} {G : Env}
theorem map_in {cx : Cx} {σ : Nat → Value} {N : Nat → Prop} {m : Mem} {w : World} (h : RepM cx σ N m w) (ids : List Nat) (x' : Rx) (hw : x'.w = w) (hO : ∀ b, x'.O b → Owned cx σ (updM m (ids.map (settle m))) b) {kt vt : Ty} {ka va : Bool} {l : List (kt.den × vt.den)} {j i : Nat} (hm : m j = .mapb kt vt ka va l) (hp : x'.σ i = σ j) : repB x' i (.mapb kt vt ka va l) := by
 obtain ⟨h3, k3⟩ := h.settles ids; have hb := h.blk j; rw [hm] at hb; obtain ⟨r, es, cl, q1, q2, q3, q4⟩ := hb; refine ⟨r, es, cl, by rw [hp]; exact q1, by rw [hw]; exact q2, ?_, q4⟩; exact mapRep_keepw (x := rx cx σ N m w) (y := x') ((k3.k.trans (c := x'.w) (O'' := x'.O) (by have := keepsw (x := rx cx σ N (updM m (ids.map (settle m))) w) (y := x') hw hO; exact this) (Nat.le_refl _))) _ _ q3
theorem blk_in {cx : Cx} {σ : Nat → Value} {N : Nat → Prop} {m : Mem} {w : World} (h : RepM cx σ N m w) (ids : List Nat) (x' : Rx) (hw : x'.w = w) (hO : ∀ b, x'.O b → Owned cx σ (updM m (ids.map (settle m))) b) {k : IK} {z : k.den} {j i : Nat} (hm : m j = k.blk z) (hp : x'.σ i = σ j) : repB x' i (k.blk z) := by
 cases k with
 | row e t => exact row_in h ids x' hw hO hm hp
 | map kt vt ka va => exact map_in h ids x' hw hO hm hp
theorem ptr_inj : ∀ (l : List (Nat × Nat)), (l.map (·.2)).Nodup → ∀ i j id, (i, id) ∈ l → (j, id) ∈ l → i = j
 | [], _, _, _, _, h, _ => by cases h
 | p :: l, sndn, i, j, id, h1, h2 => by
   rw [List.map_cons, List.nodup_cons] at sndn
   rcases List.mem_cons.1 h1 with e1 | e1 <;> rcases List.mem_cons.1 h2 with e2 | e2
   · rw [← e1] at e2; cases e2; rfl
   · rw [← e1] at sndn; exact absurd (List.mem_map.2 ⟨_, e2, rfl⟩) sndn.1
   · rw [← e2] at sndn; exact absurd (List.mem_map.2 ⟨_, e1, rfl⟩) sndn.1
   · exact ptr_inj l sndn.2 i j id e1 e2
theorem box_core (ht : TabOK P T) (hm : P.follows .mixedOrders = true) {f : FuncId} {fn : Func} {c : Code} (hf : P.funcs[f]? = some fn) (hb : fn.body = some c) (ps : List PK) (rs : List RK) (ks : Nat) (ik : IK) (ie : TypeId)
 (hfine : fineC fn.ntmps c = true) (hn : pcOk ps = true) (hn2 : ps.length ≤ fn.ntmps) (hr : rs.length = fn.results.size) (hr4 : fn.results.size ≤ 4) (hv : rvalid rs = true)
 {cx : Cx} (hG : EnvD cx.D cx.gv P G) {σ : Nat → Value} {N : Nat → Prop} {m : Mem} {w : World} {fr : Nat} {avs : List AV} {vs : List Value} (hM : RepM cx σ N m w) (hfr : ∀ id, fr ≤ id → id < fr + 32 → N id) (hreps : repAs (rx cx σ N m w) avs vs) {x : dens ps} (hrd : rds m ps avs = some x)
 {b r : Nat} (hbx : bxs ps avs = some b) (hmb : m b = .cells ie [ik.c r]) {z0 : ik.den} (hmr : m r = ik.blk z0) (hnd : okIds (r :: pids ps avs) (rws m ps avs))
 {Φ : rdens rs → dens ps → ik.den → Prop} (h : pwf ps x → ∀ X : Wk, X.T = T → X.G = G → X.ks = ks → X.K = (fun e st => match e with | .exit _ => False | _ => rvP T st.s (mem st.m) fn.results.toList ∧ ∃ y z q, Φ y z q ∧ entB ik ie ps rs T fn.results.toList st y z q) → evk X c (pslots 0 ps x) (bheap ik ie z0 ps x) 64 []) :
 Calls P f vs.toArray w fun e w' => ∃ u, e = .returned u ∧ ∃ y z q, Φ y z q ∧ Res cx σ N m w fr ⟨True, pack (ravs fr rs y), updB ik ie ps rs avs m fr b r y z q, rwf rs y⟩ u w' := by
 have hwf := pwf_of hM ps avs x vs hrd hreps; obtain ⟨tq1, tq2, _, pq1, pq2, pown⟩ := tri_eq pbl (.inl rfl) ps 0 avs x x hrd; simp only [pcOk, Bool.and_eq_true, decide_eq_true_eq, List.all_eq_true] at hn; have fstn0 : ((ptrs 0 ps avs).map (·.1)).Nodup := by rw [pq1]; exact hn.1
 have hnd1 : (r :: pids ps avs).Nodup := hnd.1; have sndn : (((32, r) :: ptrs 0 ps avs).map (·.2)).Nodup := by rw [List.map_cons, pq2]; exact hnd1
 have key_lt : ∀ i id, (i, id) ∈ ptrs 0 ps avs → i < 32 := fun i id hi => hn.2 i (by rw [← pq1]; exact List.mem_map.2 ⟨_, hi, rfl⟩); have fstn : (((32, r) :: ptrs 0 ps avs).map (·.1)).Nodup := by
  rw [List.map_cons, List.nodup_cons]; refine ⟨fun hc => ?_, fstn0⟩; obtain ⟨⟨i, id⟩, hq, e⟩ := List.mem_map.1 hc; have := key_lt i id hq; simp only at e; omega
 have hdis := List.all_eq_true.1 hnd.2; have hbp : (31, b) ∈ ptrs 0 ps avs := bxs_ptr ps avs 0 b x hbx hrd; have hrown : own (m r) = true := by rw [hmr]; exact IK.blk_own
 generalize hvw : rws m ps avs = vw at *; have hrow := hvw ▸ rw_not_own ps avs x hrd
 let fp : Nat → Option Nat := fun i => findL ((32, r) :: ptrs 0 ps avs) i
 have fp_mem : ∀ i id, fp i = some id ↔ (i, id) ∈ (32, r) :: ptrs 0 ps avs := fun i id => ⟨findL_mem, findL_nodup _ _ _ fstn⟩; have fp_cases : ∀ i id, fp i = some id → (i = 32 ∧ id = r) ∨ (i, id) ∈ ptrs 0 ps avs := fun i id hi => by
  rcases List.mem_cons.1 ((fp_mem i id).1 hi) with e | e
  · cases e; exact .inl ⟨rfl, rfl⟩
  · exact .inr e
 have fp_lt : ∀ i id, fp i = some id → i < 64 := fun i id hi => by
  rcases fp_cases i id hi with ⟨e, _⟩ | e
  · omega
  · have := key_lt i id e; omega
 have fp_32 : ∀ i id, fp i = some id → i ≠ 32 → i < 32 := fun i id hi hne => by
  rcases fp_cases i id hi with ⟨e, _⟩ | e
  · exact absurd e hne
  · exact key_lt i id e
 have fp_r : fp 32 = some r := (fp_mem _ _).2 List.mem_cons_self; have fp_b : fp 31 = some b := (fp_mem _ _).2 (List.mem_cons_of_mem _ hbp); have fp_pid : ∀ i id, fp i = some id → id ∈ r :: pids ps avs := fun i id hi => by
  rcases fp_cases i id hi with ⟨_, e⟩ | e
  · rw [e]; exact List.mem_cons_self
  · refine List.mem_cons_of_mem _ ?_; rw [← pq2]; exact List.mem_map.2 ⟨_, e, rfl⟩
 have fp_own : ∀ i id, fp i = some id → own (m id) = true := fun i id hi => by
  rcases List.mem_cons.1 (fp_pid i id hi) with e | e
  · rw [e]; exact hrown
  · exact pown id e
 have fp_inj : ∀ i j id, fp i = some id → fp j = some id → i = j := fun i j id hi hj => ptr_inj _ sndn i j id ((fp_mem i id).1 hi) ((fp_mem j id).1 hj); have fp_vw : ∀ i id, fp i = some id → id ∉ vw := fun i id hi hmem => by
  have := hdis id (fp_pid i id hi); rw [List.contains_iff_mem.2 hmem] at this; cases this
 let σ1 : Nat → Value := fun i => match fp i with | some id => σ id | none => σ 0
 have σ1_of : ∀ i id, fp i = some id → σ1 i = σ id := fun i id hi => by simp only [σ1, hi]
 let cx1 : Cx := ⟨w, fun b => cx.F b ∨ ∃ id, own (m id) = true ∧ Go.Ev.hb (σ id) b ∧ id ∉ vw ∧ ∀ i, fp i ≠ some id, fun b => ∃ id i, own (m id) = true ∧ Go.Ev.hb (σ id) b ∧ fp i = some id, 32, σ1, [], fun _ => none, cx.D, cx.gv⟩
 have hu : ∀ id, updM m (vw.map (settle m)) id = if id ∈ vw then (settle m id).2 else m id := fun id => updM_settle m vw m id (fun i _ => .inl rfl)
 obtain ⟨hM2, k2⟩ := hM.settles vw; have tn : ((tri pbl 0 ps avs x).map (·.1)).Nodup := by
  have := fstn0; rw [tq1, List.map_map] at this; exact this
 have fp_of : ∀ t ∈ tri pbl 0 ps avs x, fp t.1 = some t.2.1 := fun t ht => (fp_mem _ _).2 (List.mem_cons_of_mem _ (by rw [tq1]; exact List.mem_map.2 ⟨t, ht, rfl⟩)); have mem31 : mem (bheap ik ie z0 ps x) 31 = .cells ie [ik.c 32] := rfl; have mem32 : mem (bheap ik ie z0 ps x) 32 = ik.blk z0 := rfl; have memO : ∀ i, i ≠ 31 → i ≠ 32 → mem (bheap ik ie z0 ps x) i = mem (pheap 0 ps x) i := fun i h1 h2 => by
  show getL Blk.dead ((31, _) :: (32, _) :: pheap 0 ps x) i = _; simp only [getL]; rw [if_neg (Ne.symm h1), if_neg (Ne.symm h2)]; rfl
 have ph_mem : ∀ i, mem (bheap ik ie z0 ps x) i ≠ .dead → ∃ id, fp i = some id ∧ ((i = 31 ∧ id = b) ∨ (i = 32 ∧ id = r) ∨ (i ≠ 31 ∧ i ≠ 32 ∧ (i, id, mem (bheap ik ie z0 ps x) i) ∈ tri pbl 0 ps avs x)) := fun i hi => by
  by_cases h1 : i = 31
  · subst h1; exact ⟨b, fp_b, .inl ⟨rfl, rfl⟩⟩
  by_cases h2 : i = 32
  · subst h2; exact ⟨r, fp_r, .inr (.inl ⟨rfl, rfl⟩)⟩
  rw [memO i h1 h2] at hi ⊢; rw [show pheap 0 ps x = _ from tq2] at hi ⊢; obtain ⟨id, hid⟩ := tri_get hi; exact ⟨id, fp_of _ hid, .inr (.inr ⟨h1, h2, hid⟩)⟩
 let x1 : Rx := rx cx1 σ1 (From 64) (mem (bheap ik ie z0 ps x)) w
 have hO : ∀ b, x1.O b → Owned cx σ (updM m (vw.map (settle m))) b := by
  rintro b ((hb | ⟨id, h1, h2, h3, _⟩) | ⟨i, h1, h2⟩)
  · exact .inl hb
  · exact .inr ⟨id, by rw [hu, if_neg h3]; exact h1, h2⟩
  · obtain ⟨id, h4, _⟩ := ph_mem i (fun e => by rw [e] at h1; cases h1); exact .inr ⟨id, by rw [hu, if_neg (fp_vw i id h4)]; exact fp_own i id h4, by rw [← σ1_of i id h4]; exact h2⟩
 have hpt : ∀ j id, (j, id) ∈ ptrs 0 ps avs → x1.σ j = σ id ∧ ¬ x1.N j := fun j id hj => by
  have hf := (fp_mem j id).2 (List.mem_cons_of_mem _ hj); refine ⟨σ1_of j id hf, fun hN => ?_⟩; have := fp_lt j id hf; unfold x1 rx From at hN; simp only at hN; omega
 have hgl1 : GlOk cx1 := by
  refine hM.gl_next rfl rfl ?_ ?_
  · intro b hb
    rcases hb with k1 | ⟨jd, k1, k2, _, _⟩
    · exact .inl k1
    · exact .inr ⟨jd, k1, k2⟩
  · rintro b ⟨jd, _, k1, k2, _⟩; exact ⟨jd, k1, k2⟩
 have hM1 : RepM cx1 σ1 (From 64) (mem (bheap ik ie z0 ps x)) w := by
  refine ⟨fun i => ?_, fun i hi => ?_, fun i j b ho ho' hb hb' => ?_, fun i b ho hb => ?_, fun i b ho hb => ?_, ⟨rfl, rfl, rfl, fun _ => Nat.le_refl _, Nat.le_refl _, fun _ _ _ => rfl⟩, fun b hb => ?_, fun i => ?_, fun i hi => ⟨fun hN => by unfold From at hN; exact absurd hi (by simp only [cx1]; omega), rfl⟩, (fun _ hD => by cases hD), hgl1⟩
  · by_cases hd : mem (bheap ik ie z0 ps x) i = .dead
    · rw [hd]; trivial
    · obtain ⟨id, h4, h3 | h3 | h3⟩ := ph_mem i hd
      · obtain ⟨rfl, rfl⟩ := h3; rw [mem31]; have hbb := hM.blk id; rw [hmb] at hbb; obtain ⟨bl, ws, q1, q2, q3, q4⟩ := hbb; refine ⟨bl, ws, by show σ1 31 = _; rw [σ1_of 31 id h4]; exact q1, q2, ?_, q4⟩; obtain ⟨v, rr, rfl, g1, g2⟩ := repCs_cons.1 q3; refine repCs_cons.2 ⟨v, rr, rfl, ?_, by rw [repCs_nil.1 g2]; exact repCs_nil.2 rfl⟩; rw [IK.c_rep] at g1 ⊢; exact ⟨fun hN => by unfold rx From at hN; simp only at hN; omega, by rw [g1.2]; exact (σ1_of 32 r fp_r).symm⟩
      · obtain ⟨rfl, rfl⟩ := h3; rw [mem32]; have hσ : x1.σ 32 = σ id := σ1_of 32 id h4; exact blk_in hM vw x1 rfl hO hmr hσ
      · exact pheap_rep hM vw x1 rfl hO ps avs x 0 hrd (fun id hid => by rw [← hvw]; exact hid) (fun j id hj => (hpt j id hj).1) _ h3.2.2
  · by_cases hd : mem (bheap ik ie z0 ps x) i = .dead
    · exact hd
    · obtain ⟨id, h4, _⟩ := ph_mem i hd; have := fp_lt i id h4; unfold From at hi; omega
  · obtain ⟨id, h4, _⟩ := ph_mem i (fun e => by rw [e] at ho; cases ho); obtain ⟨jd, g4, _⟩ := ph_mem j (fun e => by rw [e] at ho'; cases ho'); rw [σ1_of i id h4] at hb; rw [σ1_of j jd g4] at hb'; have := hM.inj id jd b (fp_own i id h4) (fp_own j jd g4) hb hb'; subst this; exact fp_inj i j id h4 g4
  · obtain ⟨id, h4, _⟩ := ph_mem i (fun e => by rw [e] at ho; cases ho); rw [σ1_of i id h4] at hb; rintro (k1 | ⟨jd, k1, k2, _, k4⟩)
    · exact hM.notF id b (fp_own i id h4) hb k1
    · have := hM.inj id jd b (fp_own i id h4) k1 hb k2; subst this; exact k4 i h4
  · obtain ⟨id, h4, _⟩ := ph_mem i (fun e => by rw [e] at ho; cases ho); rw [σ1_of i id h4] at hb; exact .inr ⟨id, i, fp_own i id h4, hb, h4⟩
  · rcases hb with k1 | ⟨jd, k1, k2, _, _⟩
    · exact hM.hF b k1
    · exact repB_lt (hM.blk jd) k1 b k2
  · simp only [σ1]; split
    · exact hM.hone _
    · exact hM.hone 0
 obtain ⟨hlen, hslot⟩ := pslots_rep hM vw x1 rfl hO ps avs x vs 0 hrd (fun id hid => by rw [← hvw]; exact hid) hreps hpt; have hF1 : RepF cx1 σ1 (From 64) (sget (pslots 0 ps x)) (mem (bheap ik ie z0 ps x)) fn.ntmps { tmps := vs.toArray ++ Array.replicate (fn.ntmps - vs.toArray.size) undef, defers := [] } w := by
  refine ⟨hM1, fun i => ?_, rfl, by simp; omega, fun i v hv => by cases hv⟩
  rcases getL_mem (d := AV.one .undef) (pslots 0 ps x) i with e | e
  · unfold sget; rw [e]; unfold repA repC; trivial
  · obtain ⟨q, e1, e2⟩ := hslot i _ e; have : q = i := by omega
    subst this; have ee : (vs.toArray ++ Array.replicate (fn.ntmps - vs.toArray.size) undef).getD q undef = vs.getD q undef := by
     rw [Array.getD_eq_getD_getElem?, List.getD_eq_getElem?_getD]; by_cases hq : q < vs.length
     · rw [Array.getElem?_append_left (by simpa using hq)]; simp
     · rw [Array.getElem?_append_right (by simp; omega), List.getElem?_eq_none (by omega)]; simp [Array.getElem?_replicate]; split <;> rfl
    show repA x1 _ _; simp only; rw [ee]; exact e2
 refine callsIn_wide.1 (callsIn_of_wp_marks (F := Fence.wide) (n := 3) hf hb trivial ?_)
 have hevk := h hwf ⟨T, G, ks, (fun e st => match e with | .exit _ => False | _ => rvP T st.s (mem st.m) fn.results.toList ∧ ∃ y z q, Φ y z q ∧ entB ik ie ps rs T fn.results.toList st y z q)⟩ rfl rfl rfl rfl; refine ev_sound ht hG hm c cx1 Fence.wide 3 ⟨pslots 0 ps x, bheap ik ie z0 ps x, 64⟩ _ _ _ w σ1 ⟨rfl, rfl⟩ (Nat.le_refl _) (.inl rfl) (.inl ⟨rfl, rfl, fun _ => rfl⟩) hfine ⟨List.nodup_nil, fun _ hD => by cases hD⟩ hevk hF1 (fun e st a1 w1 σ' mk hK hmk _ h1 => ?_); have hend : ∀ (a : Act) (w' : World) (h' : RepF cx1 σ' (From st.fr) (sget st.s) (mem st.m) fn.ntmps a w'), (rvP T st.s (mem st.m) fn.results.toList ∧ ∃ y z q, Φ y z q ∧ entB ik ie ps rs T fn.results.toList st y z q) →
  ∃ v, (results fn a.tmps).run P w' = .ok v w' ∧ ∃ u, Ending.returned v = Ending.returned u ∧ ∃ y z q, Φ y z q ∧ Res cx σ N m w fr ⟨True, pack (ravs fr rs y), updB ik ie ps rs avs m fr b r y z q, rwf rs y⟩ u w' := by
  rintro a w' h' ⟨hrv, y, z, zq, hΦ, hent⟩; unfold entB at hent; obtain ⟨nq1, nq2, nq3, _, _, _⟩ := tri_eq nbl (.inr rfl) ps 0 avs x z hrd; have nq3 := nq3 rfl; have tn' : ((tri nbl 0 ps avs z).map (·.1)).Nodup := by
   have := fstn0; rw [nq1, List.map_map] at this; exact this
  have ptr_of' : ∀ t ∈ tri nbl 0 ps avs z, (t.1, t.2.1) ∈ ptrs 0 ps avs := fun t ht => by rw [nq1]; exact List.mem_map.2 ⟨t, ht, rfl⟩
  have fp_of' : ∀ t ∈ tri nbl 0 ps avs z, fp t.1 = some t.2.1 := fun t ht => (fp_mem _ _).2 (List.mem_cons_of_mem _ (ptr_of' t ht)); obtain ⟨us, hul, hrun, hus⟩ := rv_run ht h' fn hrv hr4; refine ⟨packV us, hrun, packV us, rfl, y, z, zq, hΦ, ?_⟩; obtain ⟨σ2, hM3, hs3, hO3⟩ := h'.mm.ent (Nat.le_refl _) hent (fun j => us.getD j undef) (fun j => by
   rcases getL_mem (d := AV.one .undef) (rvS T st.s (mem st.m) 0 fn.results.toList) j with e | e
   · unfold sget; rw [e]; unfold repA repC; trivial
   · exact (hus j _ e).2)
  generalize hH0 : nheap 0 ps z ++ rheap 32 rs y = H0 at *; have hHd : bnheap ik ie zq ps rs y z = (31, .cells ie [ik.c 48]) :: (48, ik.blk zq) :: H0 := by rw [← hH0]; rfl
  generalize hH : bnheap ik ie zq ps rs y z = H at *; have H31 : mem H 31 = .cells ie [ik.c 48] := by rw [hHd]; rfl
  have H48 : mem H 48 = ik.blk zq := by rw [hHd]; rfl
  have HO : ∀ i, i ≠ 31 → i ≠ 48 → mem H i = mem H0 i := fun i h1 h2 => by
   rw [hHd]; show getL Blk.dead ((31, _) :: (48, _) :: H0) i = _; simp only [getL]; rw [if_neg (Ne.symm h1), if_neg (Ne.symm h2)]; rfl
  let fl : Bool := flC ps rs && ik.fl
  have fl1 : fl = true → flC ps rs = true := fun h => by simp only [fl, Bool.and_eq_true] at h; exact h.1
  have fl2 : fl = true → ik.fl = true := fun h => by simp only [fl, Bool.and_eq_true] at h; exact h.2
  let U1 : Heap := if fl then [] else vw.map (settle m)
  let mA : Mem := updM m U1
  have hA : RepM cx σ N mA w ∧ Rx.Keeps (rx cx σ N m w) (rx cx σ N mA w) := by
   simp only [mA, U1]; split
   · exact ⟨hM, ⟨Keep.refl _ _, fun _ _ => rfl, fun _ h => h⟩⟩
   · exact ⟨hM2, k2⟩
  obtain ⟨hA, kA⟩ := hA; have mA_out : ∀ id, id ∉ vw → mA id = m id := fun id hid => by
   simp only [mA, U1]; split
   · rfl
   · rw [hu, if_neg hid]
  have mA_vw : fl = false → ∀ id, id ∈ vw → own (mA id) = false := fun hfl id hid => by
   simp only [mA, U1, hfl, Bool.false_eq_true, if_false]; rw [hu, if_pos hid]; obtain ⟨u, xs, e | ⟨e', e⟩⟩ := hrow id hid <;> simp [settle, e, own]
  have fresh_vw : ∀ id, N id → id ∉ vw := fun id hn hid => by
   have h1 := hM.fresh id hn; obtain ⟨u, xs, e | ⟨e', e⟩⟩ := hrow id hid <;> rw [h1] at e <;> cases e
  have fresh_fp : ∀ id i, N id → fp i ≠ some id := fun id i hn hi => by
   have h1 := hM.fresh id hn; have h2 := fp_own i id hi; rw [h1] at h2; cases h2
  have Nb : ¬ N b := fun hn => fresh_fp b 31 hn fp_b; have Nr : ¬ N r := fun hn => fresh_fp r 32 hn fp_r; have hbr : b ≠ r := fun e => by
   have := fp_inj 31 32 b fp_b (e ▸ fp_r); omega
  have hNfr : ∀ q, q < 32 → N (fr + q) := fun q hq => hfr _ (by omega) (by omega); have hb16 : ∀ q, q < 32 → b ≠ fr + q := fun q hq e => Nb (e ▸ hNfr q hq); have hr16 : ∀ q, q < 32 → r ≠ fr + q := fun q hq e => Nr (e ▸ hNfr q hq); obtain ⟨rg0, rn0⟩ := rheap_spec (fl := fl) rs y 0 (fun h => by have := fl1 h; simp only [flC, Bool.and_eq_true] at this; exact this.1); have rs32 : rheap 32 rs y = (rheap 0 rs y).map (fun p => (32 + p.1, p.2)) := rheap_shift 32 rs y 0; have rsfr : rheap fr rs y = (rheap 0 rs y).map (fun p => (fr + p.1, p.2)) := rheap_shift fr rs y 0; have rsl : rs.length ≤ 4 := by omega
  let M0 : Mem := updM m (updX ik ps rs avs m fr y z)
  let M : Mem := updM m (updB ik ie ps rs avs m fr b r y z zq)
  have hMM : M = updM M0 [(r, .dead), (b, .cells ie [ik.c (fr + 16)]), (fr + 16, ik.blk zq)] := by
   simp only [M, updB]; rw [updM_append]
  have Mr : M r = .dead := by
   rw [hMM]; simp only [updM]; rw [if_neg (Ne.symm (hr16 16 (by omega))), if_neg hbr, if_pos trivial]
  have Mb : M b = .cells ie [ik.c (fr + 16)] := by
   rw [hMM]; simp only [updM]; rw [if_neg (Ne.symm (hb16 16 (by omega))), if_pos trivial]
  have M16 : M (fr + 16) = ik.blk zq := by
   rw [hMM]; simp only [updM]; rw [if_pos trivial]
  have MO : ∀ id, id ≠ r → id ≠ b → id ≠ fr + 16 → M id = M0 id := fun id h1 h2 h3 => by
   rw [hMM]; simp only [updM]; rw [if_neg (Ne.symm h3), if_neg (Ne.symm h2), if_neg (Ne.symm h1)]
  have hMe : M0 = updM (updM mA ((tri nbl 0 ps avs z).map (·.2))) (rheap fr rs y) := by
   simp only [M0, updX]; rw [updM_append, updM_append, nq3, hvw]; rfl
  have sndn' : (((tri nbl 0 ps avs z).map (·.2)).map (·.1)).Nodup := by
   have : ((ptrs 0 ps avs).map (·.2)).Nodup := by rw [pq2]; exact (List.nodup_cons.1 hnd1).2
   rw [nq1, List.map_map] at this; rw [List.map_map]; exact this
  have hkeysfr : ∀ p ∈ rheap fr rs y, fr ≤ p.1 ∧ p.1 < fr + 4 := fun p hp => by
   rw [rsfr] at hp; obtain ⟨q, hq, e⟩ := List.mem_map.1 hp; have := rg0 q hq; rw [← e]; simp only; omega
  have M2 : ∀ i id, fp i = some id → i ≠ 32 → i ≠ 31 → M id = mem H i ∧ Good fl (mem H i) := fun i id hi hne hne' => by
   have hidr : id ≠ r := fun e => hne (fp_inj i 32 id hi (e ▸ fp_r)); have hidb : id ≠ b := fun e => hne' (fp_inj i 31 id hi (e ▸ fp_b)); have hid16 : id ≠ fr + 16 := fun e => fresh_fp id i (e ▸ hNfr 16 (by omega)) hi; have h1 : (i, id) ∈ ptrs 0 ps avs := (fp_cases i id hi).resolve_left (fun e => hne e.1); have hlt := key_lt i id h1; rw [nq1] at h1; obtain ⟨t, ht, e⟩ := List.mem_map.1 h1; have e1 : t.1 = i := by cases e; rfl
   have e2 : t.2.1 = id := by cases e; rfl
   have g1 : M id = t.2.2 := by
    rw [MO id hidr hidb hid16, hMe, updM_off _ _ _ (fun p hp e => by have := hkeysfr p hp; exact fresh_fp id i (hfr id (by omega) (by omega)) hi)]; exact updM_nodup sndn' (List.mem_map.2 ⟨t, ht, by rw [← e2]⟩)
   have g2 : mem H i = t.2.2 := by
    rw [HO i hne' (by omega), ← hH0, mem_append_left (fun p hp => by
     rw [rs32] at hp; obtain ⟨q, hq, e⟩ := List.mem_map.1 hp; rw [← e]; simp only; omega), show nheap 0 ps z = _ from nq2]
    exact tri_mem tn' (id := t.2.1) (by rw [← e1]; exact ht)
   exact ⟨g1.trans g2.symm, by rw [g2]; exact tri_good ps avs z 0 (fun h => by have := fl1 h; simp only [flC, Bool.and_eq_true] at this; exact this.2) t ht⟩
  have M1 : ∀ q, q < 32 → M (fr + q) = mem H (32 + q) ∧ (mem H (32 + q) ≠ .dead → Good fl (mem H (32 + q))) := fun q hq => by
   by_cases h16 : q = 16
   · subst h16; exact ⟨by rw [M16, H48], fun _ => by rw [H48]; exact IK.blk_good fl2⟩
   have hN : N (fr + q) := hfr _ (by omega) (by omega); have hMO : M (fr + q) = M0 (fr + q) := MO _ (Ne.symm (hr16 q hq)) (Ne.symm (hb16 q hq)) (by omega); have hb : updM mA ((tri nbl 0 ps avs z).map (·.2)) (fr + q) = .dead := by
    rw [updM_off _ _ _ (fun p hp e => by
     obtain ⟨t, ht, e2⟩ := List.mem_map.1 hp; exact fresh_fp (fr + q) t.1 hN (by rw [← e, ← e2]; exact fp_of' t ht)), mA_out _ (fresh_vw _ hN)]
    exact hM.fresh _ hN
   have hHq : mem H (32 + q) = mem (rheap 32 rs y) (32 + q) := by
    rw [HO (32 + q) (by omega) (by omega), ← hH0, mem_append (fun p hp => by
     rw [show nheap 0 ps z = _ from nq2] at hp; obtain ⟨t, ht, e⟩ := List.mem_map.1 hp; have := key_lt _ _ (ptr_of' t ht); rw [← e]; simp only; omega)]
   by_cases hex : ∃ b, (q, b) ∈ rheap 0 rs y
   · obtain ⟨b, hqb⟩ := hex; have g1 : M0 (fr + q) = b := by
      rw [hMe]; refine updM_nodup ?_ (by rw [rsfr]; exact List.mem_map.2 ⟨_, hqb, rfl⟩); rw [rsfr, List.map_map]; have : ((rheap 0 rs y).map ((fun x => x.1) ∘ fun p => (fr + p.1, p.2))) = ((rheap 0 rs y).map (·.1)).map (fr + ·) := by rw [List.map_map]; rfl
      rw [this]; exact nodup_add _ rn0
     have g2 : mem (rheap 32 rs y) (32 + q) = b := by
      refine mem_nodup ?_ (by rw [rs32]; exact List.mem_map.2 ⟨_, hqb, rfl⟩); rw [rs32, List.map_map]; have : ((rheap 0 rs y).map ((fun x => x.1) ∘ fun p => (32 + p.1, p.2))) = ((rheap 0 rs y).map (·.1)).map (32 + ·) := by rw [List.map_map]; rfl
      rw [this]; exact nodup_add _ rn0
     exact ⟨by rw [hMO, g1, hHq, g2], fun _ => by rw [hHq, g2]; exact (rg0 _ hqb).2.2.1⟩
   · have g2 : mem (rheap 32 rs y) (32 + q) = .dead := by
      refine mem_none fun p hp e => hex ?_; rw [rs32] at hp; obtain ⟨r, hr, e2⟩ := List.mem_map.1 hp; refine ⟨r.2, ?_⟩; have : r.1 = q := by rw [← e2] at e; simp only at e; omega
      rw [← this]; exact hr
     refine ⟨?_, fun hne => absurd (hHq.trans g2) hne⟩; rw [hMO, hHq, g2, hMe, updM_off _ _ _ (fun p hp e => hex ?_)]
     · exact hb
     · rw [rsfr] at hp; obtain ⟨r, hr, e2⟩ := List.mem_map.1 hp; refine ⟨r.2, ?_⟩; have : r.1 = q := by rw [← e2] at e; simp only at e; omega
       rw [← this]; exact hr
  have M3 : ∀ id, (∀ i, fp i ≠ some id) → ¬ (fr ≤ id ∧ id < fr + 32) → M id = mA id := fun id h1 h2 => by
   rw [MO id (fun e => h1 32 (e ▸ fp_r)) (fun e => h1 31 (e ▸ fp_b)) (fun e => h2 (by omega)), hMe, updM_off _ _ _ (fun p hp e => h2 (by have := hkeysfr p hp; rw [← e]; omega)), updM_off _ _ _ (fun p hp e => by
    obtain ⟨t, ht, e2⟩ := List.mem_map.1 hp; exact h1 t.1 (by rw [← e, ← e2]; exact fp_of' t ht))]
  let σf : Nat → Value := fun id => if fr ≤ id ∧ id < fr + 32 then σ2 (32 + (id - fr)) else σ id
  have σf_new : ∀ q, q < 32 → σf (fr + q) = σ2 (32 + q) := fun q hq => by
   simp only [σf]; rw [if_pos ⟨by omega, by omega⟩]; congr 1; omega
  have σf_old : ∀ id, ¬ (fr ≤ id ∧ id < fr + 32) → σf id = σ id := fun id hid => by simp only [σf]; rw [if_neg hid]
  have σ2_fp : ∀ i id, fp i = some id → i ≠ 32 → σ2 i = σ id := fun i id hi hne => by
   have := fp_32 i id hi hne; have h1 := (hM3.fix i (by simp only [cx1]; omega)).2; rw [h1]; exact σ1_of i id hi
  have fp_new : ∀ i id, fp i = some id → ¬ (fr ≤ id ∧ id < fr + 32) := fun i id hi hh => fresh_fp id i (hfr id hh.1 hh.2) hi; have tchd : ∀ id, ((∃ i, fp i = some id) ∨ (fr ≤ id ∧ id < fr + 32)) → M id = .dead ∨ ∃ k, BR ik fl fr (mem H k) (M id) ∧ σf id = σ2 k ∧ ((fp k = some id ∧ k < 32) ∨ (32 ≤ k ∧ id = fr + (k - 32) ∧ k < 64)) := by
   rintro id (⟨i, hi⟩ | ⟨h1, h2⟩)
   · by_cases e32 : i = 32
     · subst e32; rw [fp_r] at hi; cases hi; exact .inl Mr
     right; have hs : σf id = σ2 i := by rw [σf_old id (fp_new i id hi), σ2_fp i id hi e32]
     by_cases e31 : i = 31
     · subst e31; rw [fp_b] at hi; cases hi; exact ⟨31, by rw [H31, Mb]; exact .box ie, hs, .inl ⟨fp_b, by omega⟩⟩
     · obtain ⟨g1, g2⟩ := M2 i id hi e32 e31; exact ⟨i, by rw [g1]; exact .same _ fun _ => g2, hs, .inl ⟨hi, fp_32 i id hi e32⟩⟩
   · right; obtain ⟨q, rfl⟩ : ∃ q, id = fr + q := ⟨id - fr, by omega⟩; obtain ⟨g1, g2⟩ := M1 q (by omega); exact ⟨32 + q, by rw [g1]; exact .same _ g2, σf_new q (by omega), .inr ⟨by omega, by omega, by omega⟩⟩
  have hev := hM3.evo; have stp := hA.stepD (σ' := σf) (N' := Nx N fr) (m' := M) (w' := w') (fun id => (∃ i, fp i = some id) ∨ (fr ≤ id ∧ id < fr + 32)) (fun id hid => hid.1)
   (fun id hid => by
     rw [M3 id (fun i hi => fresh_fp id i hid.1 hi) hid.2, mA_out id (fresh_vw id hid.1)]; exact hM.fresh id hid.1)
   (fun id hid => ⟨M3 id (fun i hi => hid (.inl ⟨i, hi⟩)) (fun h => hid (.inr h)), σf_old id (fun h => hid (.inr h))⟩)
   (fun id hid => σf_old id (fun h => hid (hfr id h.1 h.2)))
   (fun b hb hno => hev.block b hb (fun ⟨id, i, h1, h2, h3⟩ => hno id (.inl ⟨i, h3⟩) (by rw [mA_out id (fp_vw i id h3)]; exact h1) h2))
   ⟨hev.size, hev.drawn⟩ hev.os hev.tape hev.output
   (fun id b hid ho hb => by
     rcases tchd id hid with e0 | ⟨k, e1, e2, e4⟩
     · rw [e0] at ho; cases ho
     rw [← e1.own] at ho; rw [e2] at hb
     rcases hM3.low k b ho hb with h1 | ⟨jd, i, h1, h2, h3⟩
     · exact .inl h1
     · exact .inr ⟨jd, .inl ⟨i, h3⟩, by rw [mA_out jd (fp_vw i jd h3)]; exact h1, h2⟩)
   (fun id id' b hid hid' ho ho' hb hb' => by
     rcases tchd id hid with e0 | ⟨k, e1, e2, e4⟩
     · rw [e0] at ho; cases ho
     rcases tchd id' hid' with g0 | ⟨k', g1, g2, g4⟩
     · rw [g0] at ho'; cases ho'
     rw [← e1.own] at ho; rw [e2] at hb; rw [← g1.own] at ho'; rw [g2] at hb'; have := hM3.inj k k' b ho ho' hb hb'; subst this
     rcases e4 with e4 | e4 <;> rcases g4 with g4 | g4
     · rw [e4.1] at g4; cases g4.1; rfl
     · omega
     · omega
     · omega)
   (fun id hid => by
     rcases hid with ⟨i, hi⟩ | hid
     · rw [σf_old id (fp_new i id hi)]; exact hM.hone id
     · obtain ⟨q, rfl⟩ : ∃ q, id = fr + q := ⟨id - fr, by omega⟩; rw [σf_new q (by omega)]; exact hM3.hone _)
  have mv : Mv (rx cx1 σ2 (From 64) (mem H) w') (rx cx σf (Nx N fr) M w') fl := by
   refine ⟨rfl, ?_⟩
   cases hfl : fl with
   | true => exact .inl rfl
   | false =>
     right; rintro b (hb | ⟨id, ho, hb⟩)
     · exact .inl (.inl hb)
     · by_cases ht : (∃ i, fp i = some id) ∨ (fr ≤ id ∧ id < fr + 32)
       · rcases tchd id ht with e0 | ⟨k, e1, e2, e4⟩
         · rw [e0] at ho; cases ho
         exact .inr ⟨k, by rw [e1.own]; exact ho, by rw [← e2]; exact hb⟩
       · have e1 := M3 id (fun i hi => ht (.inl ⟨i, hi⟩)) (fun h => ht (.inr h)); have e2 := σf_old id (fun h => ht (.inr h)); rw [e1] at ho; rw [e2] at hb; have hv : id ∉ vw := fun hid => by rw [mA_vw hfl id hid] at ho; cases ho
         rw [mA_out id hv] at ho; exact .inl (.inr ⟨id, ho, hb, hv, fun i hi => ht (.inl ⟨i, hi⟩)⟩)
  obtain ⟨hMf, kf⟩ := stp (fun hk id hid => by
   rcases tchd id hid with e0 | ⟨k, e1, e2, e4⟩
   · rw [e0]; trivial
   have hbk := hM3.blk k; generalize mem H k = A at e1 hbk; generalize M id = B at e1
   cases e1 with
   | same _ hg =>
     by_cases hd : A = .dead
     · rw [hd]; trivial
     · exact repB_mv mv e2 (hg hd) hbk
   | box e =>
     obtain ⟨bl, ws, q1, q2, q3, q4⟩ := hbk; refine ⟨bl, ws, by show σf id = _; rw [e2]; exact q1, q2, ?_, q4⟩; obtain ⟨v, rr, rfl, g1, g2⟩ := repCs_cons.1 q3; refine repCs_cons.2 ⟨v, rr, rfl, ?_, by rw [repCs_nil.1 g2]; exact repCs_nil.2 rfl⟩; rw [IK.c_rep] at g1 ⊢; refine ⟨fun hN => hN.2 ⟨by omega, by omega⟩, ?_⟩; rw [g1.2]; exact (σf_new 16 (by omega)).symm)
  have hs4 : ∀ j v, (j, v) ∈ rslots 0 32 rs y → repA (rx cx1 σ2 (From 64) (mem H) w') v (us.getD j undef) := fun j v hjv => by
   have := hs3 j; rw [rslots_get rs y 0 32 j v hjv] at this; exact this
  refine ⟨σf, hMf, ?_, ?_, ?_⟩
  · refine ⟨kA.k.trans kf.k (Nat.le_refl _), fun id hid => kf.σ id hid, fun id hid => hid.1⟩
  · refine pack_rep ?_; have := ravs_rep (x := rx cx1 σ2 (From 64) (mem H) w') (y := rx cx σf (Nx N fr) M w') mv (fr := fr) (d := 32) rs y 0 us (fun h => by have := fl1 h; simp only [flC, Bool.and_eq_true] at this; exact this.1)
     (fun q hq => ⟨fun hN => hN.2 ⟨by omega, by omega⟩, by simp only [Nat.add_zero, rx]; exact σf_new q (by omega)⟩)
     (fun j v hjv => ⟨by have := rslots_lt rs y 0 32 j v hjv; omega, hs4 j v hjv⟩) (by omega)
    simpa using this
  · refine rwf_of (x := rx cx1 σ2 (From 64) (mem H) w') rs y 0 32 us hv hs4 (fun p hp => ?_); have hp32 : 32 ≤ p.1 ∧ p.1 < 36 := by
     rw [rs32] at hp; obtain ⟨q, hq, e2⟩ := List.mem_map.1 hp; have := rg0 q hq; rw [← e2]; simp only; omega
    have hHp : mem H p.1 = p.2 := by
     rw [HO p.1 (by omega) (by omega), ← hH0, mem_append (fun q hq => by
      rw [show nheap 0 ps z = _ from nq2] at hq; obtain ⟨t, ht, e⟩ := List.mem_map.1 hq; have := key_lt _ _ (ptr_of' t ht); rw [← e]; simp only; omega)]
     refine mem_nodup ?_ hp; rw [rs32, List.map_map]; have : ((rheap 0 rs y).map ((fun x => x.1) ∘ fun p => (32 + p.1, p.2))) = ((rheap 0 rs y).map (·.1)).map (32 + ·) := by rw [List.map_map]; rfl
     rw [this]; exact nodup_add _ rn0
    rw [← hHp]; exact hM3.blk p.1
 have hleave := fun (hp : rvP T st.s (mem st.m) fn.results.toList ∧ ∃ y z q, Φ y z q ∧ entB ik ie ps rs T fn.results.toList st y z q) =>
  leaves_marks (P := P) (fn := fn) (R := fun e w' => ∃ u, e = .returned u ∧ ∃ y z q, Φ y z q ∧ Res cx σ N m w fr ⟨True, pack (ravs fr rs y), updB ik ie ps rs avs m fr b r y z q, rwf rs y⟩ u w') mk w1 h1 hmk (fun w2 h2 => hend ⟨a1.tmps, []⟩ w2 h2 hp)
 cases e with
 | exit id => exact hK.elim
 | normal => exact hleave hK
 | ret => exact hleave hK
theorem box_sound (ht : TabOK P T) (hG : EnvOk P G) (hm : P.follows .mixedOrders = true) {f : FuncId} {fn : Func} {c : Code} (hf : P.funcs[f]? = some fn) (hb : fn.body = some c) (C : BCon) (ks : Nat)
 (hfine : fineC fn.ntmps c = true) (hn : pcOk C.ps = true) (hn2 : C.ps.length ≤ fn.ntmps) (hr : C.rs.length = fn.results.size) (hr4 : fn.results.size ≤ 4) (hv : rvalid C.rs = true)
 (h : ∀ x z, C.pre x z → pwf C.ps x → ∀ X : Wk, X.T = T → X.G = G → X.ks = ks → X.K = C.post T fn.results.toList x z → evk X c (pslots 0 C.ps x) (bheap C.k C.e z C.ps x) 64 []) : CtrOk P f C.ctr := by
 intro D gv hDS cx hcd σ N m w fr avs vs hM hfr hreps hp; unfold BCon.ctr at hp ⊢
 cases hbx : bxs C.ps avs with
 | none => rw [hbx] at hp; exact hp.elim
 | some b =>
   rw [hbx] at hp; simp only [BCon.effB] at hp ⊢
   cases hib : inB C.k C.e (m b) with
   | none => rw [hib] at hp; exact hp.elim
   | some r =>
     rw [hib] at hp; simp only [BCon.effR] at hp ⊢
     cases hz : C.k.rd (m r) with
     | none => rw [hz] at hp; exact hp.elim
     | some z =>
       rw [hz] at hp
       cases hrd : rds m C.ps avs with
       | none => rw [hrd] at hp; exact hp.elim
       | some x =>
         rw [hrd] at hp; simp only [BCon.effZ] at hp ⊢; split at hp
         case isFalse => exact hp.elim
         rename_i hnd; rw [if_pos hnd]; refine (box_core ht hm hf hb C.ps C.rs ks C.k C.e hfine hn hn2 hr hr4 hv (hcd.1.symm ▸ hcd.2.symm ▸ hG.at_ hDS) hM hfr hreps hrd hbx (inB_some hib) (IK.rd_some hz) hnd (Φ := fun y x' q => y = C.out x z ∧ x' = C.nw x z ∧ q = C.nx x z) (fun hwf X hT hX hk hK => h x z hp hwf X hT hX hk ?_)).mono fun e w' ⟨u, he, y, x', q, ⟨hy, hx, hq⟩, hres⟩ => ⟨u, he, ?_⟩
         · rw [hK]; funext e st; unfold BCon.post; have key : (∃ y x' q, (y = C.out x z ∧ x' = C.nw x z ∧ q = C.nx x z) ∧ entB C.k C.e C.ps C.rs T fn.results.toList st y x' q) = entB C.k C.e C.ps C.rs T fn.results.toList st (C.out x z) (C.nw x z) (C.nx x z) := by
            apply propext; constructor
            · rintro ⟨y, x', q, ⟨rfl, rfl, rfl⟩, he⟩; exact he
            · exact fun he => ⟨_, _, _, ⟨rfl, rfl, rfl⟩, he⟩
           cases e with
           | exit => rfl
           | _ => simp only [key]
         · subst hy; subst hx; subst hq; exact hres
end
end Go.Ev
