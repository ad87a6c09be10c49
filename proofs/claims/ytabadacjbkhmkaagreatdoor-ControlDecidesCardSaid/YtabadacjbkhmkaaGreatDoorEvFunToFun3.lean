/- Part. -/
import Derived.Test.YtabadacjbkhmkaaGreatDoorEvEntToRun
set_option linter.all false
namespace Go.Ev
inductive CapK where
 | p (e : TypeId) (t : Ty) | fb (e : TypeId) (g : FuncId) | po (e : TypeId) (t : Ty) | bx
inductive PK where
 | d (ag : Bool) (t : Ty) | p (e : TypeId) (t : Ty) | mp (kt vt : Ty) (ka va : Bool) | o (e : TypeId) (t : Ty) | oc (e : TypeId) (t : Ty) | cl (g : FuncId) (ks : List CapK) | nl | bx | pm (t kt vt : Ty) (ka va : Bool)
inductive RK where
 | d (ag : Bool) (t : Ty) | o (e : TypeId) (t : Ty) | p (e : TypeId) (t : Ty) | mp (kt vt : Ty) (ka va : Bool) | cl (g : FuncId) (e : TypeId) (t : Ty)
@[reducible] def CapK.den : CapK → Type
  | .p _ t => t.den
  | .fb _ _ => Unit
  | .po _ t => t.den
  | .bx => Unit
@[reducible] def cdens : List CapK → Type
  | [] => Unit
  | k :: ks => k.den × cdens ks
@[reducible] def PK.den : PK → Type
  | .d _ t => t.den
  | .p _ t => t.den
  | .mp kt vt _ _ => List (kt.den × vt.den)
  | .o _ t => List t.den
  | .oc _ t => List t.den
  | .cl _ ks => cdens ks
  | .nl => Unit
  | .bx => Unit
  | .pm t kt vt _ _ => t.den × List (kt.den × vt.den)
@[reducible] def RK.den : RK → Type
  | .d _ t => t.den
  | .cl _ _ t => t.den
  | .o _ t => List t.den
  | .p _ t => t.den
  | .mp kt vt _ _ => List (kt.den × vt.den)
@[reducible] def dens : List PK → Type
  | [] => Unit
  | k :: ks => k.den × dens ks
@[reducible] def rdens : List RK → Type
  | [] => Unit
  | k :: ks => k.den × rdens ks
def castMap (kt' vt' kt vt : Ty) (l : List (kt'.den × vt'.den)) : Option (List (kt.den × vt.den)) :=
 if h : kt' = kt ∧ vt' = vt then some (h.1 ▸ h.2 ▸ l) else none
def rdBlk (t : Ty) (e : TypeId) (m : Mem) : Blk → Option t.den
 | .cells e' cs => if e' = e then impl m t cs else none
 | _ => none
def rdMap (kt vt : Ty) (ka va : Bool) : Blk → Option (List (kt.den × vt.den))
 | .mapb kt' vt' ka' va' l => if ka' = ka ∧ va' = va then castMap kt' vt' kt vt l else none
 | _ => none
def rdRow (t : Ty) (e : TypeId) : Blk → Option (List t.den)
 | .row e' u xs => if e' = e then castTy u t xs else none
 | _ => none
def rdFb (e : TypeId) (g : FuncId) : Blk → Option Unit
 | .cells e' [.fn g' []] => if e' = e ∧ g' = g then some () else none
 | _ => none
def rdBx : Blk → Option Unit
 | .cells _ _ => some ()
 | _ => none
def rdCap (m : Mem) : (k : CapK) → C1 → Option k.den
 | .p e t, .loc id 0 => rdBlk t e m (m id)
 | .fb e g, .loc id 0 => rdFb e g (m id)
 | .po e t, .loc id 0 => rdBlk t e m (m id)
 | .bx, .loc id 0 => rdBx (m id)
 | _, _ => none
def rdCaps (m : Mem) : (ks : List CapK) → List C1 → Option (cdens ks)
 | [], [] => some ()
 | k :: ks, c :: cs => implP (rdCap m k c) (rdCaps m ks cs)
 | _, _ => none
def splitM : List C1 → Option (List C1 × Nat)
 | [] => none
 | [.map j] => some ([], j)
 | c :: cs => (splitM cs).map fun p => (c :: p.1, p.2)
def rdPm (m : Mem) (t kt vt : Ty) (ka va : Bool) : Option (List C1 × Nat) → Option (t.den × List (kt.den × vt.den))
 | some (ds, j) => implP (impl m t ds) (rdMap kt vt ka va (m j))
 | none => none
def pmId : Option (List C1 × Nat) → List Nat
 | some (_, j) => [j]
 | none => []
def rd (m : Mem) : (k : PK) → AV → Option k.den
 | .d false t, .one c => impl m t [c]
 | .d true t, .agg cs => impl m t cs
 | .p e t, .one (.loc id 0) => rdBlk t e m (m id)
 | .mp kt vt ka va, .one (.map id) => rdMap kt vt ka va (m id)
 | .o e t, .one (.row id) => rdRow t e (m id)
 | .oc e t, .one (.row id) => rdRow t e (m id)
 | .cl g ks, .one (.fn g' caps) => if g' = g then rdCaps m ks caps else none
 | .nl, .one .nilsl => some ()
 | .bx, .one (.loc id 0) => rdBx (m id)
 | .pm t kt vt ka va, .one (.sp cs 0) => rdPm m t kt vt ka va (splitM cs)
 | _, _ => none
def rds (m : Mem) : (ks : List PK) → List AV → Option (dens ks)
 | [], [] => some ()
 | k :: ks, v :: vs => implP (rd m k v) (rds m ks vs)
 | _, _ => none
def capIds : List C1 → List Nat
 | [] => []
 | .loc id _ :: cs => id :: capIds cs
 | _ :: cs => capIds cs
def pid (m : Mem) : PK → AV → List Nat
 | .p _ _, .one (.loc id _) => [id]
 | .mp _ _ _ _, .one (.map id) => [id]
 | .o _ _, .one (.row id) => [id]
 | .oc _ _, .one (.row id) => [id]
 | .cl _ _, .one (.fn _ caps) => capIds caps
 | .bx, .one (.loc id _) => [id]
 | .pm _ _ _ _ _, .one (.sp cs _) => pmId (splitM cs)
 | _, _ => []
def pids (m : Mem) : List PK → List AV → List Nat
 | k :: ks, v :: vs => pid m k v ++ pids m ks vs
 | _, _ => []
def blkRows : Blk → List Nat
 | .cells _ cs => rowsOf cs
 | _ => []
def capRows (m : Mem) : List CapK → List C1 → List Nat
 | .bx :: ks, _ :: cs => capRows m ks cs
 | _ :: ks, .loc id _ :: cs => blkRows (m id) ++ capRows m ks cs
 | _ :: ks, _ :: cs => capRows m ks cs
 | _, _ => []
def rw1 (m : Mem) : PK → AV → List Nat
 | .d _ _, v => rowsOf v.cells
 | .p _ _, .one (.loc id _) => blkRows (m id)
 | .cl _ ks, .one (.fn _ caps) => capRows m ks caps
 | .pm _ _ _ _ _, .one (.sp cs _) => rowsOf cs
 | _, _ => []
def rws (m : Mem) : List PK → List AV → List Nat
 | k :: ks, v :: vs => rw1 m k v ++ rws m ks vs
 | _, _ => []
def okIds (a b : List Nat) : Prop := a.Nodup ∧ (a.all fun i => !b.contains i) = true
instance (a b : List Nat) : Decidable (okIds a b) := by unfold okIds; infer_instance
def capCids : Nat → List CapK → List Nat
 | _, [] => []
 | i, .bx :: ks => 31 :: capCids (i + 1) ks
 | i, _ :: ks => i :: capCids (i + 1) ks
def pcid (i : Nat) : PK → List Nat
 | .d _ _ => []
 | .p _ _ | .mp _ _ _ _ | .o _ _ | .oc _ _ => [i]
 | .cl _ ks => capCids (8 + 4 * i) ks
 | .nl => []
 | .bx => [31]
 | .pm _ _ _ _ _ => [i]
def pcids : Nat → List PK → List Nat
 | _, [] => []
 | i, k :: ks => pcid i k ++ pcids (i + 1) ks
def pcOk (ps : List PK) : Bool := decide (pcids 0 ps).Nodup && (pcids 0 ps).all (fun i => decide (i < 32))
def capAvs : Nat → List CapK → List C1
 | _, [] => []
 | i, .bx :: ks => .loc 31 0 :: capAvs (i + 1) ks
 | i, _ :: ks => .loc i 0 :: capAvs (i + 1) ks
def pav (i : Nat) : (k : PK) → k.den → AV
 | .d ag t, y => avOf ag (expl t y)
 | .p _ _, _ => .one (.loc i 0)
 | .mp _ _ _ _, _ => .one (.map i)
 | .o _ _, _ => .one (.row i)
 | .oc _ _, _ => .one (.row i)
 | .cl g ks, _ => .one (.fn g (capAvs (8 + 4 * i) ks))
 | .nl, _ => .one .nilsl
 | .bx, _ => .one (.loc 31 0)
 | .pm t _ _ _ _, y => .one (.sp (expl t y.1 ++ [.map i]) 0)
def capBlk : (k : CapK) → k.den → Blk
 | .p e t, y => .cells e (expl t y)
 | .fb e g, _ => .cells e [.fn g []]
 | .po e t, y => .cells e (expl t y)
 | .bx, _ => .dead
def capBlks : (ks : List CapK) → cdens ks → List Blk
 | [], _ => []
 | k :: ks, x => capBlk k x.1 :: capBlks ks x.2
def capNb : (k : CapK) → k.den → Blk
 | .po _ _, _ => .dead
 | .bx, _ => .dead
 | k, y => capBlk k y
def capNbs : (ks : List CapK) → cdens ks → List Blk
 | [], _ => []
 | k :: ks, x => capNb k x.1 :: capNbs ks x.2
def pbl : (k : PK) → k.den → List Blk
 | .d _ _, _ => []
 | .p e t, y => [.cells e (expl t y)]
 | .mp kt vt ka va, l => [.mapb kt vt ka va l]
 | .o e t, xs => [.row e t xs]
 | .oc e t, xs => [.row e t xs]
 | .cl _ ks, x => capBlks ks x
 | .nl, _ => []
 | .bx, _ => [.dead]
 | .pm _ kt vt ka va, y => [.mapb kt vt ka va y.2]
def nbl : (k : PK) → k.den → List Blk
 | .oc _ _, _ => [.dead]
 | .cl _ ks, x => capNbs ks x
 | k, y => pbl k y
def pslots : Nat → (ks : List PK) → dens ks → Slots
 | _, [], _ => []
 | i, k :: ks, x => (i, pav i k x.1) :: pslots (i + 1) ks x.2
def pheapB (B : (k : PK) → k.den → List Blk) : Nat → (ks : List PK) → dens ks → Heap
 | _, [], _ => []
 | i, k :: ks, x => (pcid i k).zip (B k x.1) ++ pheapB B (i + 1) ks x.2
def pheap : Nat → (ks : List PK) → dens ks → Heap := pheapB pbl
def nheap : Nat → (ks : List PK) → dens ks → Heap := pheapB nbl
def pupd (m : Mem) : (ks : List PK) → List AV → dens ks → Heap
 | [], _, _ => []
 | _ :: _, [], _ => []
 | k :: ks, v :: vs, x => (pid m k v).zip (nbl k x.1) ++ pupd m ks vs x.2
def rav (j : Nat) : (k : RK) → k.den → AV
 | .d ag t, y => avOf ag (expl t y)
 | .o _ _, _ => .one (.row j)
 | .p _ _, _ => .one (.loc j 0)
 | .mp _ _ _ _, _ => .one (.map j)
 | .cl g _ _, _ => .one (.fn g [.loc j 0])
def rblk : (k : RK) → k.den → Option Blk
 | .d _ _, _ => none
 | .o e t, xs => some (.row e t xs)
 | .p e t, y => some (.cells e (expl t y))
 | .mp kt vt ka va, l => some (.mapb kt vt ka va l)
 | .cl _ e t, y => some (.cells e (expl t y))
def ravs : Nat → (ks : List RK) → rdens ks → List AV
 | _, [], _ => []
 | j, k :: ks, x => rav j k x.1 :: ravs (j + 1) ks x.2
def rslots : Nat → Nat → (ks : List RK) → rdens ks → Slots
 | _, _, [], _ => []
 | i, j, k :: ks, x => (i, rav j k x.1) :: rslots (i + 1) (j + 1) ks x.2
def rheap : Nat → (ks : List RK) → rdens ks → Heap
 | _, [], _ => []
 | j, k :: ks, x => match rblk k x.1 with | some b => (j, b) :: rheap (j + 1) ks x.2 | none => rheap (j + 1) ks x.2
def rwf1 : (k : RK) → k.den → Prop
 | .d _ t, y => Wf t y
 | .o _ t, xs => Wf (.sl t) xs
 | .p _ t, y => Wf t y
 | .mp _ _ _ _, _ => True
 | .cl _ _ t, y => Wf t y
def rwf : (ks : List RK) → rdens ks → Prop
 | [], _ => True
 | k :: ks, x => rwf1 k x.1 ∧ rwf ks x.2
def cwf : (ks : List CapK) → cdens ks → Prop
 | [], _ => True
 | .p _ t :: ks, x => Wf t x.1 ∧ cwf ks x.2
 | .fb _ _ :: ks, x => cwf ks x.2
 | .po _ t :: ks, x => Wf t x.1 ∧ cwf ks x.2
 | .bx :: ks, x => cwf ks x.2
def pwf1 : (k : PK) → k.den → Prop
 | .d _ t, y => Wf t y
 | .p _ t, y => Wf t y
 | .o _ t, y => Wf (.sl t) y
 | .oc _ t, y => Wf (.sl t) y
 | .cl _ ks, x => cwf ks x
 | .pm t _ _ _ _, y => Wf t y.1
 | _, _ => True
def pwf : (ks : List PK) → dens ks → Prop
 | [], _ => True
 | k :: ks, x => pwf1 k x.1 ∧ pwf ks x.2
def flat : Ty → Bool
 | .sl _ => false
 | .pair a b => flat a && flat b
 | _ => true
def rflat : RK → Bool
 | .d _ t | .o _ t | .p _ t | .cl _ _ t => flat t
 | .mp kt vt _ _ => flat kt && flat vt
def cflat : CapK → Bool
 | .p _ t => flat t
 | _ => true
def pflat : PK → Bool
 | .p _ t | .o _ t => flat t
 | .mp kt vt _ _ => flat kt && flat vt
 | .pm _ kt vt _ _ => flat kt && flat vt
 | .cl _ ks => ks.all cflat
 | _ => true
def pack : List AV → AV
 | [v] => v
 | vs => .tup vs
structure RCon where
 ps : List PK
 rs : List RK
 pre : dens ps → Prop
 rel : dens ps → rdens rs → dens ps → Prop
structure Con where
 ps : List PK
 rs : List RK
 pre : dens ps → Prop
 out : dens ps → rdens rs
 nw : dens ps → dens ps
def updC (ps : List PK) (rs : List RK) (avs : List AV) (m : Mem) (fr : Nat) (y : rdens rs) (z : dens ps) : Heap :=
 (if rs.all rflat && ps.all pflat then [] else (rws m ps avs).map (settle m)) ++ (pupd m ps avs z ++ rheap fr rs y)
def Con.eff (C : Con) (avs : List AV) (m : Mem) (fr : Nat) (x : dens C.ps) : Eff :=
 ⟨C.pre x, pack (ravs fr C.rs (C.out x)), updC C.ps C.rs avs m fr (C.out x) (C.nw x), rwf C.rs (C.out x)⟩
def Con.effO (C : Con) (avs : List AV) (m : Mem) (fr : Nat) : Option (dens C.ps) → Eff
 | some x => if okIds (pids m C.ps avs) (rws m C.ps avs) then C.eff avs m fr x else bad
 | none => bad
def Con.ctr (C : Con) : Ctr := fun avs m fr => C.effO avs m fr (rds m C.ps avs)
def Chc.bad : Chc := ⟨Unit, False, fun _ => .one .undef, fun _ => [], fun _ => True⟩
def RCon.chc (C : RCon) (avs : List AV) (m : Mem) (fr : Nat) (x : dens C.ps) : Chc :=
 ⟨rdens C.rs × dens C.ps, C.pre x, fun a => pack (ravs fr C.rs a.1), fun a => updC C.ps C.rs avs m fr a.1 a.2, fun a => C.rel x a.1 a.2 ∧ rwf C.rs a.1⟩
def RCon.chcO (C : RCon) (avs : List AV) (m : Mem) (fr : Nat) : Option (dens C.ps) → Chc
 | some x => if okIds (pids m C.ps avs) (rws m C.ps avs) then C.chc avs m fr x else Chc.bad
 | none => Chc.bad
def RCon.rctr (C : RCon) : RCtr := fun avs m fr => C.chcO avs m fr (rds m C.ps avs)
def rvL (m : Mem) (ti : TI) : AV → Eff
 | .one (.loc id off) => loadE m ti (.loc id off)
 | _ => bad
def rvE (T : Tab) (s : Slots) (m : Mem) : ResultVar → Eff
 | .tmp t => okr (sget s t)
 | .cell a t => rvL m (TI.of T t) (sget s a)
def rvP (T : Tab) (s : Slots) (m : Mem) : List ResultVar → Prop
 | [] => True
 | r :: rs => (rvE T s m r).pre ∧ rvP T s m rs
def rvS (T : Tab) (s : Slots) (m : Mem) : Nat → List ResultVar → Slots
 | _, [] => []
 | i, r :: rs => (i, (rvE T s m r).r) :: rvS T s m (i + 1) rs
def entR (ps : List PK) (rs : List RK) (T : Tab) (rv : List ResultVar) (st : St) (y : rdens rs) (z : dens ps) : Prop :=
 ent (rvS T st.s (mem st.m) 0 rv) (mem st.m) 64 (rslots 0 32 rs y) (nheap 0 ps z ++ rheap 32 rs y)
def postR (ps : List PK) (rs : List RK) (T : Tab) (rv : List ResultVar) (Φ : rdens rs → dens ps → Prop) : Ex → St → Prop := fun e st =>
 match e with
 | .exit _ => False
 | _ => rvP T st.s (mem st.m) rv ∧ ∃ y z, Φ y z ∧ entR ps rs T rv st y z
def Con.post (C : Con) (T : Tab) (rv : List ResultVar) (x : dens C.ps) : Ex → St → Prop := fun e st =>
 match e with
 | .exit _ => False
 | _ => rvP T st.s (mem st.m) rv ∧ entR C.ps C.rs T rv st (C.out x) (C.nw x)
def RCon.post (C : RCon) (T : Tab) (rv : List ResultVar) (x : dens C.ps) : Ex → St → Prop := postR C.ps C.rs T rv (C.rel x)
end Go.Ev

namespace Go.Ev
/-! ### lists with keys -/
theorem yA3 {α : Type} : ∀ (l : List (Nat × α)) (k : Nat) (v : α), (l.map (·.1)).Nodup → (k, v) ∈ l → findL l k = some v
 | (j, u) :: l, k, v, hn, hm => by
   rw [List.map_cons, List.nodup_cons] at hn; simp only [findL]
   rcases List.mem_cons.1 hm with e | e
   · cases e; simp
   · have : j ≠ k := fun e' => hn.1 (List.mem_map.2 ⟨_, e, e'.symm⟩); rw [if_neg this]; exact yA3 l k v hn.2 e
theorem jA4 {l : Heap} {k : Nat} {b : Blk} (hn : (l.map (·.1)).Nodup) (hm : (k, b) ∈ l) : mem l k = b := by
 unfold mem; rw [sA1, yA3 l k b hn hm]; rfl
theorem iB8 {l : Heap} {k : Nat} (h : ∀ p ∈ l, p.1 ≠ k) : mem l k = .dead := by
 unfold mem
 rcases gA2 (d := Blk.dead) l k with e | e
 · exact e
 · exact absurd rfl (h _ e)
theorem jA3 {m : Mem} : ∀ {l : Heap} {k : Nat} {b : Blk}, (l.map (·.1)).Nodup → (k, b) ∈ l → updM m l k = b
 | (j, c) :: l, k, b, hn, hm => by
   rw [List.map_cons, List.nodup_cons] at hn; simp only [updM]
   rcases List.mem_cons.1 hm with e | e
   · cases e; rw [uA0 _ l j (fun p hp e => hn.1 (List.mem_map.2 ⟨p, hp, e⟩)), if_pos rfl]
   · exact jA3 hn.2 e
theorem rC2 {α β : Type} : ∀ (a : List α) (b : List β), a.length = b.length → (a.zip b).map (·.1) = a
 | [], _, _ => rfl
 | _ :: _, [], h => by simp at h
 | x :: a, y :: b, h => by simp only [List.zip_cons_cons, List.map_cons]; rw [rC2 a b (by simpa using h)]
theorem oC2 {α β : Type} : ∀ (a : List α) (b : List β), a.length = b.length → (a.zip b).map (·.2) = b
 | [], [], _ => rfl
 | [], _ :: _, h => by simp at h
 | _ :: _, [], h => by simp at h
 | x :: a, y :: b, h => by simp only [List.zip_cons_cons, List.map_cons]; rw [oC2 a b (by simpa using h)]
def zip3 {α β γ : Type} (a : List α) (b : List β) (c : List γ) : List (α × β × γ) := a.zip (b.zip c)
theorem jC2 {α β γ : Type} : ∀ (a : List α) (b : List β) (c : List γ), a.length = b.length → b.length = c.length → (zip3 a b c).map (fun t => (t.1, t.2.1)) = a.zip b
 | [], _, _, _, _ => rfl
 | _ :: _, [], _, h, _ => by simp at h
 | _ :: _, _ :: _, [], _, h => by simp at h
 | x :: a, y :: b, z :: c, h, k => by
   have := jC2 a b c (by simpa using h) (by simpa using k); unfold zip3 at this ⊢; simp only [List.zip_cons_cons, List.map_cons]; rw [this]
theorem kC3 {α β γ : Type} : ∀ (a : List α) (b : List β) (c : List γ), a.length = b.length → b.length = c.length → (zip3 a b c).map (fun t => (t.1, t.2.2)) = a.zip c
 | [], _, _, _, _ => rfl
 | _ :: _, [], _, h, _ => by simp at h
 | _ :: _, _ :: _, [], _, h => by simp at h
 | x :: a, y :: b, z :: c, h, k => by
   have := kC3 a b c (by simpa using h) (by simpa using k); unfold zip3 at this ⊢; simp only [List.zip_cons_cons, List.map_cons]; rw [this]
theorem uC2 {α β γ : Type} : ∀ (a : List α) (b : List β) (c : List γ), a.length = b.length → b.length = c.length → (zip3 a b c).map (·.2) = b.zip c
 | [], [], [], _, _ => rfl
 | [], _ :: _, _, h, _ => by simp at h
 | [], [], _ :: _, _, h => by simp at h
 | _ :: _, [], _, h, _ => by simp at h
 | _ :: _, _ :: _, [], _, h => by simp at h
 | x :: a, y :: b, z :: c, h, k => by
   have := uC2 a b c (by simpa using h) (by simpa using k); unfold zip3 at this ⊢; simp only [List.zip_cons_cons, List.map_cons]; rw [this]
/-! ### the parameters -/
section
variable {m : Mem}
theorem gA6 {kt vt : Ty} {ka va : Bool} {B : Blk} {l : List (kt.den × vt.den)} (h : rdMap kt vt ka va B = some l) : B = .mapb kt vt ka va l := by
 cases B <;> simp only [rdMap] at h <;> try (cases h; done)
 rename_i kt' vt' ka' va' l'; split at h
 · rename_i e; unfold castMap at h; split at h
   · rename_i e2; obtain ⟨e3, e4⟩ := e2; subst e3; subst e4; obtain ⟨e5, e6⟩ := e; subst e5; subst e6; cases h; rfl
   · cases h
 · cases h
theorem wA2 {t : Ty} {e : TypeId} {B : Blk} {y : t.den} (h : rdBlk t e m B = some y) : ∃ cs, B = .cells e cs ∧ impl m t cs = some y := by
 cases B <;> simp only [rdBlk] at h <;> try (cases h; done)
 rename_i e' cs; split at h
 · rename_i e2; subst e2; exact ⟨cs, rfl, h⟩
 · cases h
theorem eA2 {t : Ty} {e : TypeId} {B : Blk} {y : List t.den} (h : rdRow t e B = some y) : B = .row e t y := by
 cases B <;> simp only [rdRow] at h <;> try (cases h; done)
 rename_i e' u xs; split at h
 · rename_i e2; subst e2; obtain ⟨e3, e4⟩ := bA2 h; subst e3; subst e4; rfl
 · cases h
theorem oC1 {e : TypeId} {g : FuncId} {B : Blk} {y : Unit} (h : rdFb e g B = some y) : B = .cells e [.fn g []] := by
 unfold rdFb at h; split at h
 · split at h
   · rename_i e1; rw [e1.1, e1.2]
   · cases h
 · cases h
theorem nB4 {B : Blk} {y : Unit} (h : rdBx B = some y) : ∃ e cs, B = .cells e cs := by
 unfold rdBx at h; split at h
 · exact ⟨_, _, rfl⟩
 · cases h
inductive CapIs (m : Mem) (id : Nat) : (k : CapK) → k.den → Prop
 | p (e : TypeId) (t : Ty) (y : t.den) (cs : List C1) (h : m id = .cells e cs) (hi : impl m t cs = some y) : CapIs m id (.p e t) y
 | fb (e : TypeId) (g : FuncId) (y : Unit) (h : m id = .cells e [.fn g []]) : CapIs m id (.fb e g) y
 | po (e : TypeId) (t : Ty) (y : t.den) (cs : List C1) (h : m id = .cells e cs) (hi : impl m t cs = some y) : CapIs m id (.po e t) y
 | bx (y : Unit) (e : TypeId) (cs : List C1) (h : m id = .cells e cs) : CapIs m id .bx y
theorem sA3 {k : CapK} {c : C1} {y : k.den} (h : rdCap m k c = some y) : ∃ id, c = .loc id 0 ∧ CapIs m id k y := by
 cases k with
 | p e t =>
   cases c with
   | loc id off =>
     cases off with
     | zero =>
       simp only [rdCap] at h; obtain ⟨cs, e1, e2⟩ := wA2 h
       exact ⟨id, rfl, .p e t y cs e1 e2⟩
     | succ n => simp [rdCap] at h
   | _ => simp [rdCap] at h
 | fb e g =>
   cases c with
   | loc id off =>
     cases off with
     | zero =>
       simp only [rdCap] at h
       exact ⟨id, rfl, .fb e g y (oC1 h)⟩
     | succ n => simp [rdCap] at h
   | _ => simp [rdCap] at h
 | po e t =>
   cases c with
   | loc id off =>
     cases off with
     | zero =>
       simp only [rdCap] at h; obtain ⟨cs, e1, e2⟩ := wA2 h
       exact ⟨id, rfl, .po e t y cs e1 e2⟩
     | succ n => simp [rdCap] at h
   | _ => simp [rdCap] at h
 | bx =>
   cases c with
   | loc id off =>
     cases off with
     | zero =>
       simp only [rdCap] at h; obtain ⟨e, cs, e1⟩ := nB4 h
       exact ⟨id, rfl, .bx y e cs e1⟩
     | succ n => simp [rdCap] at h
   | _ => simp [rdCap] at h
theorem bD4 {e : TypeId} {t : Ty} {v : AV} {y : t.den} (h : rd m (.p e t) v = some y) : ∃ id, v = .one (.loc id 0) ∧ rdBlk t e m (m id) = some y := by
 cases v with
 | one c => cases c with
   | loc id off => cases off with
     | zero => exact ⟨id, rfl, h⟩
     | succ n => simp [rd] at h
   | _ => simp [rd] at h
 | _ => simp [rd] at h
theorem uC9 {kt vt : Ty} {ka va : Bool} {v : AV} {y : List (kt.den × vt.den)} (h : rd m (.mp kt vt ka va) v = some y) : ∃ id, v = .one (.map id) ∧ rdMap kt vt ka va (m id) = some y := by
 cases v with
 | one c => cases c with
   | map id => exact ⟨id, rfl, h⟩
   | _ => simp [rd] at h
 | _ => simp [rd] at h
theorem zA8 : ∀ {cs : List C1} {ds : List C1} {j : Nat}, splitM cs = some (ds, j) → cs = ds ++ [.map j]
 | [], ds, j, h => by cases h
 | c :: cs, ds, j, h => by
   unfold splitM at h; split at h
   · cases h
   · rename_i e; cases e; cases h; rfl
   · rename_i c' cs' _ e; cases e; obtain ⟨p, hp, e⟩ := Option.map_eq_some_iff.1 h; cases e; rw [zA8 (cs := cs) (ds := p.1) (j := p.2) hp]; rfl
theorem iC4 {t kt vt : Ty} {ka va : Bool} {v : AV} {y : t.den × List (kt.den × vt.den)} (h : rd m (.pm t kt vt ka va) v = some y) :
 ∃ ds j, v = .one (.sp (ds ++ [.map j]) 0) ∧ splitM (ds ++ [.map j]) = some (ds, j) ∧ impl m t ds = some y.1 ∧ m j = .mapb kt vt ka va y.2 := by
 cases v with
 | one c => cases c with
   | sp cs off => cases off with
     | zero =>
       simp only [rd] at h
       cases hs : splitM cs with
       | none => rw [hs] at h; cases h
       | some p =>
         obtain ⟨ds, j⟩ := p; rw [hs] at h; obtain ⟨h1, h2⟩ := bA1 h; have e := zA8 hs; subst e
         exact ⟨ds, j, rfl, hs, h1, gA6 h2⟩
     | succ n => simp [rd] at h
   | _ => simp [rd] at h
 | _ => simp [rd] at h
theorem rB9 (ds : List C1) (j : Nat) : ∀ id ∈ rowsOf (ds ++ [.map j]), id ∈ rowsOf ds := by
 intro id h; rw [kA0] at h
 rcases List.mem_append.1 h with h | h
 · exact h
 · cases h
theorem jD2 {e : TypeId} {t : Ty} {v : AV} {y : List t.den} (h : rd m (.o e t) v = some y) : ∃ id, v = .one (.row id) ∧ rdRow t e (m id) = some y := by
 cases v with
 | one c => cases c with
   | row id => exact ⟨id, rfl, h⟩
   | _ => simp [rd] at h
 | _ => simp [rd] at h
theorem rC4 {e : TypeId} {t : Ty} {v : AV} {y : List t.den} (h : rd m (.oc e t) v = some y) : ∃ id, v = .one (.row id) ∧ rdRow t e (m id) = some y := by
 cases v with
 | one c => cases c with
   | row id => exact ⟨id, rfl, h⟩
   | _ => simp [rd] at h
 | _ => simp [rd] at h
theorem aD2 {v : AV} {y : Unit} (h : rd m .nl v = some y) : v = .one .nilsl := by
 cases v with
 | one c => cases c with
   | nilsl => rfl
   | _ => simp [rd] at h
 | _ => simp [rd] at h
theorem qC9 {v : AV} {y : Unit} (h : rd m .bx v = some y) : ∃ id, v = .one (.loc id 0) ∧ rdBx (m id) = some y := by
 cases v with
 | one c => cases c with
   | loc id off => cases off with
     | zero => exact ⟨id, rfl, h⟩
     | succ n => simp [rd] at h
   | _ => simp [rd] at h
 | _ => simp [rd] at h
def capI (i : Nat) : CapK → Nat
 | .bx => 31
 | _ => i
def capR (m : Mem) (id : Nat) : CapK → List Nat
 | .bx => []
 | _ => blkRows (m id)
theorem cD1 {i : Nat} {k : CapK} (hk : k ≠ .bx) : capI i k = i := by cases k <;> first | rfl | exact absurd rfl hk
theorem lA4 (i : Nat) (k : CapK) (ks : List CapK) : capCids i (k :: ks) = capI i k :: capCids (i + 1) ks := by
 cases k <;> rfl
theorem lB5 (i : Nat) (k : CapK) (ks : List CapK) : capAvs i (k :: ks) = .loc (capI i k) 0 :: capAvs (i + 1) ks := by
 cases k <;> rfl
theorem oA6 (k : CapK) (ks : List CapK) (id o : Nat) (cs : List C1) : capRows m (k :: ks) (.loc id o :: cs) = capR m id k ++ capRows m ks cs := by
 cases k <;> simp [capRows, capR]
theorem rC1 {g : FuncId} {ks : List CapK} {v : AV} {y : cdens ks} (h : rd m (.cl g ks) v = some y) : ∃ caps, v = .one (.fn g caps) ∧ rdCaps m ks caps = some y := by
 cases v with
 | one c => cases c with
   | fn g' caps =>
     simp only [rd] at h; split at h
     · rename_i e; subst e; exact ⟨caps, rfl, h⟩
     · cases h
   | _ => simp [rd] at h
 | _ => simp [rd] at h
theorem qA9 : ∀ (ks : List CapK) (cs : List C1) (y : cdens ks) (i : Nat), rdCaps m ks cs = some y → (capIds cs).length = ks.length ∧ (capCids i ks).length = ks.length ∧ (∀ z, (capBlks ks z).length = ks.length ∧ (capNbs ks z).length = ks.length) ∧ ∀ id ∈ capIds cs, own (m id) = true
 | [], [], _, _, _ => ⟨rfl, rfl, fun _ => ⟨rfl, rfl⟩, fun id h => by cases h⟩
 | [], _ :: _, _, _, h => by cases h
 | _ :: _, [], _, _, h => by cases h
 | k :: ks, c :: cs, y, i, h => by
   obtain ⟨h1, h2⟩ := bA1 h; obtain ⟨g1, g2, g3, g4⟩ := qA9 ks cs y.2 (i + 1) h2; obtain ⟨id, rfl, hm⟩ := sA3 h1; refine ⟨by simp [capIds, g1], by simp [lA4, g2], fun z => by simp [capBlks, capNbs, g3], fun j hj => ?_⟩
   rcases List.mem_cons.1 hj with e | e
   · rw [e]
     cases hm with
     | p e t y cs hq hi => rw [hq]; rfl
     | fb e g y hq => rw [hq]; rfl
     | po e t y cs hq hi => rw [hq]; rfl
     | bx y e cs hq => rw [hq]; rfl
   · exact g4 j e
theorem qD2 {k : PK} {v : AV} {y : k.den} (i : Nat) (h : rd m k v = some y) : (pid m k v).length = (pcid i k).length ∧ (∀ z, (pbl k z).length = (pcid i k).length) ∧ (∀ z, (nbl k z).length = (pcid i k).length) ∧ ∀ id ∈ pid m k v, own (m id) = true := by
 cases k with
 | d ag t =>
   have e : pid m (.d ag t) v = [] := by cases v with
    | one c => cases c <;> rfl
    | _ => rfl
   rw [e]; exact ⟨rfl, fun _ => rfl, fun _ => rfl, fun id hid => by cases hid⟩
 | p e t =>
   obtain ⟨jd, rfl, hh⟩ := bD4 h; have h := hh; obtain ⟨cs, e1, _⟩ := wA2 h
   exact ⟨rfl, fun _ => rfl, fun _ => rfl, fun id hid => by simp [pid] at hid; rw [hid, e1]; rfl⟩
 | mp kt vt ka va =>
   obtain ⟨jd, rfl, hh⟩ := uC9 h; have h := hh; have e1 := gA6 h
   exact ⟨rfl, fun _ => rfl, fun _ => rfl, fun id hid => by simp [pid] at hid; rw [hid, e1]; rfl⟩
 | o e t =>
   obtain ⟨jd, rfl, hh⟩ := jD2 h; have h := hh; have e1 := eA2 h
   exact ⟨rfl, fun _ => rfl, fun _ => rfl, fun id hid => by simp [pid] at hid; rw [hid, e1]; rfl⟩
 | pm t kt vt ka va =>
   obtain ⟨ds, j, rfl, hs, h1, h2⟩ := iC4 h; have e : pid m (.pm t kt vt ka va) (.one (.sp (ds ++ [.map j]) 0)) = [j] := by simp only [pid, hs, pmId]
   rw [e]
   exact ⟨rfl, fun _ => rfl, fun _ => rfl, fun id hid => by rw [List.mem_singleton.1 hid, h2]; rfl⟩
 | nl =>
   obtain rfl := aD2 h
   exact ⟨rfl, fun _ => rfl, fun _ => rfl, fun id hid => by cases hid⟩
 | oc e t =>
   obtain ⟨jd, rfl, hh⟩ := rC4 h; have h := hh; have e1 := eA2 h
   exact ⟨rfl, fun _ => rfl, fun _ => rfl, fun id hid => by simp [pid] at hid; rw [hid, e1]; rfl⟩
 | bx =>
   obtain ⟨jd, rfl, hh⟩ := qC9 h; obtain ⟨e, cs, e1⟩ := nB4 hh
   exact ⟨rfl, fun _ => rfl, fun _ => rfl, fun id hid => by simp [pid] at hid; rw [hid, e1]; rfl⟩
 | cl g ks =>
   obtain ⟨jd, rfl, hh⟩ := rC1 h; have h := hh; obtain ⟨g1, g2, g3, g4⟩ := qA9 ks _ y (8 + 4 * i) h; exact ⟨by simp only [pid, pcid]; omega, fun z => by simp only [pbl, pcid]; rw [(g3 z).1, g2], fun z => by simp only [nbl, pcid]; rw [(g3 z).2, g2], g4⟩
theorem uA5 {k : PK} {ks : List PK} {v : AV} {vs : List AV} {x : dens (k :: ks)} (h : rds m (k :: ks) (v :: vs) = some x) : rd m k v = some x.1 ∧ rds m ks vs = some x.2 := bA1 h
def ptrs (m : Mem) : Nat → List PK → List AV → List (Nat × Nat)
 | i, k :: ks, v :: vs => (pcid i k).zip (pid m k v) ++ ptrs m (i + 1) ks vs
 | _, _, _ => []
def tri (m : Mem) (B : (k : PK) → k.den → List Blk) : Nat → (ks : List PK) → List AV → dens ks → List (Nat × Nat × Blk)
 | _, [], _, _ => []
 | _, _ :: _, [], _ => []
 | i, k :: ks, v :: vs, x => zip3 (pcid i k) (pid m k v) (B k x.1) ++ tri m B (i + 1) ks vs x.2
theorem wC0 (B : (k : PK) → k.den → List Blk) (hB : B = pbl ∨ B = nbl) : ∀ (ks : List PK) (i : Nat) (vs : List AV) (x x' : dens ks), rds m ks vs = some x →
 ptrs m i ks vs = (tri m B i ks vs x').map (fun t => (t.1, t.2.1)) ∧ pheapB B i ks x' = (tri m B i ks vs x').map (fun t => (t.1, t.2.2)) ∧ (B = nbl → pupd m ks vs x' = (tri m B i ks vs x').map (·.2)) ∧
 (ptrs m i ks vs).map (·.1) = pcids i ks ∧ (ptrs m i ks vs).map (·.2) = pids m ks vs ∧ ∀ id ∈ pids m ks vs, own (m id) = true
 | [], i, [], _, _, _ => ⟨rfl, rfl, fun _ => rfl, rfl, rfl, fun id h => by cases h⟩
 | [], i, _ :: _, _, _, h => by simp [rds] at h
 | k :: ks, i, [], _, _, h => by simp [rds] at h
 | k :: ks, i, v :: vs, x, x', h => by
   obtain ⟨h1, h2⟩ := uA5 h; obtain ⟨e1, e2, e3, e4, e5, e6⟩ := wC0 B hB ks (i + 1) vs x.2 x'.2 h2; obtain ⟨l1, l2, l3, l4⟩ := qD2 i h1
   have lB : (B k x'.1).length = (pcid i k).length := by rcases hB with rfl | rfl <;> first | exact l2 _ | exact l3 _
   refine ⟨?_, ?_, fun hb => ?_, ?_, ?_, ?_⟩
   · simp only [ptrs, tri, List.map_append]; rw [e1, jC2 _ _ _ (by omega) (by omega)]
   · simp only [pheapB, tri, List.map_append]; rw [e2, kC3 _ _ _ (by omega) (by omega)]
   · simp only [pupd, tri, List.map_append]; rw [e3 hb, uC2 _ _ _ (by omega) (by omega), hb]
   · simp only [ptrs, pcids, List.map_append]; rw [e4, rC2 _ _ (by omega)]
   · simp only [ptrs, pids, List.map_append]; rw [e5, oC2 _ _ (by omega)]
   · intro id hid; simp only [pids, List.mem_append] at hid; exact hid.elim (l4 id) (e6 id)
theorem cA9 : ∀ (ks : List CapK) (cs : List C1) (y : cdens ks), rdCaps m ks cs = some y → ∀ id ∈ capRows m ks cs, ∃ u xs, m id = .settled u xs ∨ ∃ e, m id = .row e u xs
 | [], [], _, _, id, hid => by cases hid
 | [], _ :: _, _, h, _, _ => by cases h
 | _ :: _, [], _, h, _, _ => by cases h
 | k :: ks, c :: cs, y, h, id, hid => by
   obtain ⟨h1, h2⟩ := bA1 h; obtain ⟨j, rfl, hm⟩ := sA3 h1; rw [oA6] at hid; simp only [List.mem_append] at hid
   rcases hid with hid | hid
   · cases hm with
     | bx y e cs hq => cases hid
     | p e t y cs hq hi => simp only [capR] at hid; rw [hq] at hid; exact aA2 t cs _ hi id hid
     | fb e g y hq => simp only [capR] at hid; rw [hq] at hid; simp [blkRows, rowsOf] at hid
     | po e t y cs hq hi => simp only [capR] at hid; rw [hq] at hid; exact aA2 t cs _ hi id hid
   · exact cA9 ks cs y.2 h2 id hid
theorem eB0 : ∀ (ks : List PK) (vs : List AV) (x : dens ks), rds m ks vs = some x → ∀ id ∈ rws m ks vs, ∃ u xs, m id = .settled u xs ∨ ∃ e, m id = .row e u xs
 | [], _, _, _, id, hid => by simp [rws] at hid
 | k :: ks, [], _, h, id, hid => by simp [rds] at h
 | k :: ks, v :: vs, x, h, id, hid => by
   obtain ⟨h1, h2⟩ := uA5 h; simp only [rws, List.mem_append] at hid
   rcases hid with hid | hid
   · cases k with
     | d ag t =>
       simp only [rw1] at hid
       cases v with
       | one c =>
         cases ag
         · simp only [rd] at h1; exact aA2 t _ _ h1 id hid
         · simp [rd] at h1
       | agg cs =>
         cases ag
         · simp [rd] at h1
         · simp only [rd] at h1; exact aA2 t _ _ h1 id hid
       | _ => simp [AV.cells, rowsOf] at hid
     | mp kt vt ka va => simp [rw1] at hid
     | o e t => simp [rw1] at hid
     | oc e t => simp [rw1] at hid
     | nl => simp [rw1] at hid
     | pm t kt vt ka va =>
       obtain ⟨ds, j, rfl, hs, g1, g2⟩ := iC4 h1; simp only [rw1] at hid
       exact aA2 t ds _ g1 id (rB9 ds j id hid)
     | bx => simp [rw1] at hid
     | p e t =>
       obtain ⟨jd, rfl, hh⟩ := bD4 h1; have h1 := hh; obtain ⟨cs, e1, e2⟩ := wA2 h1; simp only [rw1, e1, blkRows] at hid
       exact aA2 t cs _ e2 id hid
     | cl g cks =>
       obtain ⟨jd, rfl, hh⟩ := rC1 h1; have h1 := hh; exact cA9 cks _ _ h1 id hid
   · exact eB0 ks vs x.2 h2 id hid
end
/-! ### the call's beginning -/
section
variable {cx cx' : Cx} {σ σ' : Nat → Value} {N N' : Nat → Prop} {m m' : Mem} {w : World}
theorem nA8 (h : RepM cx σ N m w) (ids : List Nat) (x' : Rx) (hw : x'.w = w) (hO : ∀ b, x'.O b → Owned cx σ (updM m (ids.map (settle m))) b) {t : Ty} {cs : List C1} {y : t.den} {vs : List Value}
 (hi : impl m t cs = some y) (hs : ∀ id ∈ rowsOf cs, id ∈ ids) (hr : repCs (rx cx σ N m w) cs vs) : ro w x'.O t y vs := by
 obtain ⟨h2, k2⟩ := h.settles ids; have h3 := rA2 h2 t cs y vs (by rw [cA2]; exact hi) (sA0 k2 cs vs hr) (aA3 hi hs); exact hA0 (.ex fun b _ ho => ⟨fun k => ho (hO b k), rfl⟩) t y vs h3
theorem keepsw {x y : Rx} (hw : y.w = x.w) (hO : ∀ b, y.O b → x.O b) : Keep x.w y.w x.O y.O := .ex fun b _ ho => ⟨fun k => ho (hO b k), by rw [hw]⟩
theorem uB7 {x x' : Rx} : ∀ (ks : List CapK) (cs : List C1) (y : cdens ks) (us : List Value) (i : Nat), rdCaps m ks cs = some y → repCs x cs us → (∀ j id, (j, id) ∈ (capCids i ks).zip (capIds cs) → x'.σ j = x.σ id ∧ ¬ x'.N j) → repCs x' (capAvs i ks) us
 | [], [], _, us, _, _, hr, _ => by rw [repCs_nil.1 hr]; exact repCs_nil.2 rfl
 | [], _ :: _, _, _, _, h, _, _ => by cases h
 | _ :: _, [], _, _, _, h, _, _ => by cases h
 | k :: ks, c :: cs, y, us, i, h, hr, hp => by
   obtain ⟨h1, h2⟩ := bA1 h; obtain ⟨id, rfl, _⟩ := sA3 h1; obtain ⟨v, r, rfl, g1, g2⟩ := repCs_cons.1 hr; rw [lB5]; rw [lA4] at hp; generalize capI i k = i0 at hp ⊢; have hp' : ∀ j q, (j, q) ∈ (i0, id) :: (capCids (i + 1) ks).zip (capIds cs) → x'.σ j = x.σ q ∧ ¬ x'.N j := fun j q hq => hp j q (by simpa [capIds] using hq); obtain ⟨e1, e2⟩ := hp' i0 id (by simp); refine repCs_cons.2 ⟨v, r, rfl, ?_, uB7 ks cs y.2 r (i + 1) h2 g2 (fun j q hq => hp' j q (by simp [hq]))⟩; unfold repC at g1 ⊢; exact ⟨e2, by rw [e1]; exact g1.2⟩
theorem lD0 (h : RepM cx σ N m w) (ids : List Nat) (x' : Rx) (hw : x'.w = w) (hO : ∀ b, x'.O b → Owned cx σ (updM m (ids.map (settle m))) b) {k : PK} {v : AV} {y : k.den} {u : Value} {i : Nat}
 (hi : rd m k v = some y) (hs : ∀ id ∈ rw1 m k v, id ∈ ids) (hr : repA (rx cx σ N m w) v u) (hp : ∀ j id, (j, id) ∈ (pcid i k).zip (pid m k v) → x'.σ j = σ id ∧ ¬ x'.N j) : repA x' (pav i k y) u := by
 cases k with
 | d ag t =>
   have key : ∀ cs vs, impl m t cs = some y → (∀ id ∈ rowsOf cs, id ∈ ids) → repCs (rx cx σ N m w) cs vs → repCs x' (expl t y) vs := fun cs vs h1 h2 h3 => vA0 t y vs (hw ▸ nA8 h ids x' hw hO h1 h2 h3)
   cases v with
   | one c =>
     cases ag
     · simp only [rd] at hi; unfold repA at hr; have := key [c] [u] hi hs (repCs_cons.2 ⟨u, [], rfl, hr, repCs_nil.2 rfl⟩); have hl := jA0 _ _ this; simp only [pav, avOf, Bool.false_eq_true, if_false]
       match hx : expl t y, hl with
       | [d], _ =>
         rw [hx] at this; obtain ⟨v', r, e, h1, _⟩ := repCs_cons.1 this; cases e; unfold repA; exact h1
     · simp [rd] at hi
   | agg cs =>
     cases ag
     · simp [rd] at hi
     · simp only [rd] at hi; unfold repA at hr; obtain ⟨vs, e, hr⟩ := hr; have := key cs vs hi hs hr; simp only [pav, avOf, if_true]; unfold repA
       exact ⟨vs, e, this⟩
   | tup _ => cases ag <;> simp [rd] at hi
   | ifd _ _ => cases ag <;> simp [rd] at hi
 | cl g ks =>
   obtain ⟨jd, rfl, hh⟩ := rC1 hi; have hi := hh; simp only [pav]; unfold repA repC at hr ⊢; obtain ⟨vs, e1, e2⟩ := hr
   exact ⟨vs, e1, uB7 (x := rx cx σ N m w) ks _ y vs (8 + 4 * i) hi e2 hp⟩
 | p e t =>
   obtain ⟨jd, rfl, hh⟩ := bD4 hi; have hi := hh; obtain ⟨e1, e2⟩ := hp i jd (by simp [pcid, pid]); simp only [pav]; unfold repA repC at hr ⊢
   exact ⟨e2, by rw [e1]; exact hr.2⟩
 | mp kt vt ka va =>
   obtain ⟨jd, rfl, hh⟩ := uC9 hi; have hi := hh; obtain ⟨e1, e2⟩ := hp i jd (by simp [pcid, pid]); simp only [pav]; unfold repA repC at hr ⊢
   exact ⟨e2, by rw [e1]; exact hr.2⟩
 | o e t =>
   obtain ⟨jd, rfl, hh⟩ := jD2 hi; have hi := hh; obtain ⟨e1, e2⟩ := hp i jd (by simp [pcid, pid]); simp only [pav]; unfold repA repC at hr ⊢
   exact ⟨e2, by rw [e1]; exact hr.2⟩
 | pm t kt vt ka va =>
   obtain ⟨ds, j, rfl, hsp, g1, g2⟩ := iC4 hi; obtain ⟨e1, e2⟩ := hp i j (by simp [pcid, pid, hsp, pmId]); simp only [pav]; simp only [rw1] at hs; unfold repA repC at hr ⊢; obtain ⟨b, vs, q1, q2, q3⟩ := hr; obtain ⟨h3, k3⟩ := h.settles ids; have hkeep := (k3.k.trans (c := x'.w) (O'' := x'.O) (by have := keepsw (x := rx cx σ N (updM m (ids.map (settle m))) w) (y := x') hw hO; exact this) (Nat.le_refl _)); refine ⟨b, vs, q1, ?_, q3.keep hkeep⟩; have hl := jA0 _ _ q2; have ht := lA0 ds.length _ _ q2; have hd := mA0 ds.length _ _ q2; rw [List.take_left] at ht; rw [List.drop_left] at hd; have hx := vA0 (x := x') t y.1 (vs.take ds.length) (hw ▸ nA8 h ids x' hw hO g1 (fun id hid => hs id (by rw [kA0]; exact List.mem_append.2 (.inl hid))) ht); have hm : repCs x' [.map i] (vs.drop ds.length) := by
    obtain ⟨v, r, e, f1, f2⟩ := repCs_cons.1 hd; rw [e, repCs_nil.1 f2]; refine repCs_cons.2 ⟨v, [], rfl, ?_, repCs_nil.2 rfl⟩; unfold repC at f1 ⊢; exact ⟨e2, by rw [e1]; exact f1.2⟩
   have := nA2 _ _ _ _ hx hm
   rwa [List.take_append_drop] at this
 | nl =>
   obtain rfl := aD2 hi; simp only [pav]; unfold repA repC at hr ⊢
   exact hr
 | bx =>
   obtain ⟨jd, rfl, hh⟩ := qC9 hi; obtain ⟨e1, e2⟩ := hp 31 jd (by simp [pcid, pid]); simp only [pav]; unfold repA repC at hr ⊢
   exact ⟨e2, by rw [e1]; exact hr.2⟩
 | oc e t =>
   obtain ⟨jd, rfl, hh⟩ := rC4 hi; have hi := hh; obtain ⟨e1, e2⟩ := hp i jd (by simp [pcid, pid]); simp only [pav]; unfold repA repC at hr ⊢; exact ⟨e2, by rw [e1]; exact hr.2⟩
theorem sA9 (h : RepM cx σ N m w) (ids : List Nat) (x' : Rx) (hw : x'.w = w) (hO : ∀ b, x'.O b → Owned cx σ (updM m (ids.map (settle m))) b) :
 ∀ (ks : List PK) (vs : List AV) (y : dens ks) (us : List Value) (i : Nat), rds m ks vs = some y → (∀ id ∈ rws m ks vs, id ∈ ids) → repAs (rx cx σ N m w) vs us → (∀ j id, (j, id) ∈ ptrs m i ks vs → x'.σ j = σ id ∧ ¬ x'.N j) →
   us.length = ks.length ∧ ∀ j v, (j, v) ∈ pslots i ks y → ∃ q, j = i + q ∧ repA x' v (us.getD q undef)
 | [], [], _, us, i, _, _, hr, _ => by
   unfold repAs at hr; rw [hr]
   exact ⟨rfl, fun j v hv => by simp [pslots] at hv⟩
 | [], _ :: _, _, _, _, h, _, _, _ => by simp [rds] at h
 | _ :: _, [], _, _, _, h, _, _, _ => by simp [rds] at h
 | k :: ks, v :: vs, y, us, i, hrd, hs, hr, hp => by
   obtain ⟨h1, h2⟩ := uA5 hrd; unfold repAs at hr; obtain ⟨u, r, rfl, r1, r2⟩ := hr; have hp1 : ∀ j id, (j, id) ∈ (pcid i k).zip (pid m k v) → x'.σ j = σ id ∧ ¬ x'.N j := fun j id hid => hp j id (by simp only [ptrs, List.mem_append]; exact .inl hid); have hp2 : ∀ j id, (j, id) ∈ ptrs m (i + 1) ks vs → x'.σ j = σ id ∧ ¬ x'.N j := fun j id hj => hp j id (by simp only [ptrs, List.mem_append]; exact .inr hj); obtain ⟨g1, g2⟩ := sA9 h ids x' hw hO ks vs y.2 r (i + 1) h2 (fun id hid => hs id (by simp [rws, hid])) r2 hp2; refine ⟨by simp [g1], fun j a ha => ?_⟩; simp only [pslots] at ha
   rcases List.mem_cons.1 ha with e | e
   · cases e; exact ⟨0, rfl, lD0 h ids x' hw hO h1 (fun id hid => hs id (by simp [rws, hid])) r1 hp1⟩
   · obtain ⟨q, e1, e2⟩ := g2 j a e; exact ⟨q + 1, by omega, by simpa using e2⟩
theorem mC8 (h : RepM cx σ N m w) {id : Nat} {e : TypeId} {t : Ty} {xs : List t.den} (hm : m id = .row e t xs) : Wf (.sl t) xs := by
 have hb := h.blk id; rw [hm] at hb; obtain ⟨n, fl, e1, e2, e3⟩ := hb; refine ⟨?_, fun y hy => ?_⟩
 · rcases e2.2 with ⟨g2, _⟩ | ⟨g, cap, cur, _, g1, g2, g3, g4, _⟩
   · show List.length xs ≤ _; rw [← e1, g2]; simp [maxLen]
   · show List.length xs ≤ _; omega
 · obtain ⟨c, hc⟩ := iA5 _ _ e3 y hy; exact wA5 t y c hc
theorem qB1 (h : RepM cx σ N m w) {id : Nat} {e : TypeId} {t : Ty} {cs : List C1} {y : t.den} (hm : m id = .cells e cs) (hi : impl m t cs = some y) : Wf t y := by
 have hb := h.blk id; rw [hm] at hb; obtain ⟨b, ws, _, _, hc, _⟩ := hb; exact wA5 t y ws (nA8 h (rowsOf cs) (rx cx σ N (updM m ((rowsOf cs).map (settle m))) w) rfl (fun b hb => hb) hi (fun _ h => h) hc)
theorem fC8 (h : RepM cx σ N m w) : ∀ (ks : List CapK) (cs : List C1) (y : cdens ks), rdCaps m ks cs = some y → cwf ks y
 | [], [], _, _ => trivial
 | [], _ :: _, _, h => by cases h
 | _ :: _, [], _, h => by cases h
 | k :: ks, c :: cs, y, hr => by
   obtain ⟨h1, h2⟩ := bA1 hr; have rest := fC8 h ks cs y.2 h2; obtain ⟨id, rfl, hm⟩ := sA3 h1
   cases hm with
   | p e t y cs hm hi => exact ⟨qB1 h hm hi, rest⟩
   | fb e g y hm => exact rest
   | po e t y cs hm hi => exact ⟨qB1 h hm hi, rest⟩
   | bx y e cs hm => exact rest
theorem vC7 (h : RepM cx σ N m w) : ∀ (ks : List PK) (vs : List AV) (y : dens ks) (us : List Value), rds m ks vs = some y → repAs (rx cx σ N m w) vs us → pwf ks y
 | [], [], _, us, _, _ => trivial
 | [], _ :: _, _, _, h, _ => by simp [rds] at h
 | _ :: _, [], _, _, h, _ => by simp [rds] at h
 | k :: ks, v :: vs, y, us, hrd, hr => by
   obtain ⟨h1, h2⟩ := uA5 hrd; unfold repAs at hr; obtain ⟨u, r, rfl, r1, r2⟩ := hr; refine ⟨?_, vC7 h ks vs y.2 r h2 r2⟩; have key : ∀ (t : Ty) (z : t.den) cs us, impl m t cs = some z → repCs (rx cx σ N m w) cs us → Wf t z := fun t z cs us g1 g2 =>
    wA5 t z us (nA8 h (rowsOf cs) (rx cx σ N (updM m ((rowsOf cs).map (settle m))) w) rfl (fun b hb => hb) g1 (fun _ h => h) g2)
   cases k with
   | d ag t =>
     cases v with
     | one c =>
       cases ag
       · simp only [rd] at h1; unfold repA at r1; exact key t _ [c] [u] h1 (repCs_cons.2 ⟨u, [], rfl, r1, repCs_nil.2 rfl⟩)
       · simp [rd] at h1
     | agg cs =>
       cases ag
       · simp [rd] at h1
       · simp only [rd] at h1; unfold repA at r1; obtain ⟨ws, _, r1⟩ := r1
         exact key t _ cs ws h1 r1
     | tup _ => cases ag <;> simp [rd] at h1
     | ifd _ _ => cases ag <;> simp [rd] at h1
   | p e t =>
     obtain ⟨jd, rfl, hh⟩ := bD4 h1; have h1 := hh; obtain ⟨cs, e1, e2⟩ := wA2 h1
     exact qB1 h e1 e2
   | mp => trivial
   | pm t kt vt ka va =>
     obtain ⟨ds, j, rfl, hsp, g1, g2⟩ := iC4 h1; unfold repA repC at r1; obtain ⟨b, ws, q1, q2, q3⟩ := r1; have ht := lA0 ds.length _ _ q2; rw [List.take_left] at ht
     exact key t _ ds _ g1 ht
   | nl => trivial
   | bx => trivial
   | o e t =>
     obtain ⟨jd, rfl, hh⟩ := jD2 h1; have h1 := hh
     exact mC8 h (eA2 h1)
   | oc e t =>
     obtain ⟨jd, rfl, hh⟩ := rC4 h1; have h1 := hh
     exact mC8 h (eA2 h1)
   | cl g cks =>
     obtain ⟨jd, rfl, hh⟩ := rC1 h1; have h1 := hh; exact fC8 h cks _ _ h1
theorem yB1 (h : RepM cx σ N m w) (ids : List Nat) (x' : Rx) (hw : x'.w = w) (hO : ∀ b, x'.O b → Owned cx σ (updM m (ids.map (settle m))) b) {e : TypeId} {t : Ty} {cs : List C1} {y : t.den} {j i : Nat} (hm : m j = .cells e cs) (hi : impl m t cs = some y)
 (hs : ∀ id ∈ rowsOf cs, id ∈ ids) (hp : x'.σ i = σ j) : repB x' i (.cells e (expl t y)) := by
 have hb := h.blk j; rw [hm] at hb; obtain ⟨bl, ws, k1, k2, hc, k3⟩ := hb; exact ⟨bl, ws, by rw [hp]; exact k1, by rw [hw]; exact k2, vA0 t _ ws (hw ▸ nA8 h ids x' hw hO hi hs hc), k3⟩
theorem cA8 (h : RepM cx σ N m w) (ids : List Nat) (x' : Rx) (hw : x'.w = w) (hO : ∀ b, x'.O b → Owned cx σ (updM m (ids.map (settle m))) b) :
 ∀ (ks : List CapK) (cs : List C1) (y : cdens ks) (i : Nat), rdCaps m ks cs = some y → (∀ id ∈ capRows m ks cs, id ∈ ids) → (∀ j id, (j, id) ∈ (capCids i ks).zip (capIds cs) → x'.σ j = σ id) → ∀ t ∈ zip3 (capCids i ks) (capIds cs) (capBlks ks y), repB x' t.1 t.2.2
 | [], [], _, _, _, _, _, t, ht => by simp [zip3, capCids] at ht
 | [], _ :: _, _, _, h, _, _, _, _ => by cases h
 | _ :: _, [], _, _, h, _, _, _, _ => by cases h
 | k :: ks, c :: cs, y, i, hr, hs, hp, t, ht => by
   obtain ⟨h1, h2⟩ := bA1 hr; obtain ⟨id, rfl, hm⟩ := sA3 h1; rw [oA6] at hs; rw [lA4] at hp ht; have hs' : ∀ j, j ∈ capR m id k ++ capRows m ks cs → j ∈ ids := hs; have hi0 : k ≠ .bx → capI i k = i := cD1; generalize capI i k = i0 at hp ht hi0; have hp' : ∀ j q, (j, q) ∈ (i0, id) :: (capCids (i + 1) ks).zip (capIds cs) → x'.σ j = σ q := fun j q hq => hp j q (by simpa [capIds] using hq); have rest := cA8 h ids x' hw hO ks cs y.2 (i + 1) h2 (fun j hj => hs' j (by simp [hj])) (fun j q hq => hp' j q (by simp [hq])); have ht' : t = (i0, id, capBlk k y.1) ∨ t ∈ zip3 (capCids (i + 1) ks) (capIds cs) (capBlks ks y.2) := by simpa [zip3, capIds, capBlks] using ht
   rcases ht' with e | e
   · rw [e]; simp only
     cases hm with
     | p e t y cs hm hi => exact yB1 h ids x' hw hO hm hi (fun j hj => hs' j (by simp only [capR]; rw [hm]; simp [blkRows, hj])) (hp' i0 id (by simp))
     | bx y e cs hm => trivial
     | po e t y cs hm hi => exact yB1 h ids x' hw hO hm hi (fun j hj => hs' j (by simp only [capR]; rw [hm]; simp [blkRows, hj])) (hp' i0 id (by simp))
     | fb e g y hm =>
       have hb := h.blk id; rw [hm] at hb; obtain ⟨bl, ws, k1, k2, hc, k3⟩ := hb; refine ⟨bl, ws, by rw [hp' i0 id (by simp)]; exact k1, by rw [hw]; exact k2, ?_, k3⟩; obtain ⟨v, r, rfl, g1, g2⟩ := repCs_cons.1 hc; refine repCs_cons.2 ⟨v, r, rfl, ?_, by rw [repCs_nil.1 g2]; exact repCs_nil.2 rfl⟩; unfold repC at g1 ⊢; obtain ⟨vs, e1, e2⟩ := g1; exact ⟨vs, e1, by rw [repCs_nil.1 e2]; exact repCs_nil.2 rfl⟩
   · exact rest t e
theorem wC7 (h : RepM cx σ N m w) (ids : List Nat) (x' : Rx) (hw : x'.w = w) (hO : ∀ b, x'.O b → Owned cx σ (updM m (ids.map (settle m))) b) {e : TypeId} {t : Ty} {xs : List t.den} {j i : Nat} (hm : m j = .row e t xs) (hp : x'.σ i = σ j) : repB x' i (.row e t xs) := by
 obtain ⟨h3, k3⟩ := h.settles ids; have hb := h.blk j; rw [hm] at hb; obtain ⟨n, flat, e1, e2, e3⟩ := hb; refine ⟨n, flat, e1, by rw [hw, hp]; exact e2, fA0 (fun y c hy => ?_) _ _ e3⟩; have := hA0 k3.k t y c hy; exact hw ▸ hA0 (w' := w) (O' := x'.O) (.ex fun b _ ho => ⟨fun k => ho (hO b k), rfl⟩) t y c this
theorem uC8 (h : RepM cx σ N m w) (ids : List Nat) (x' : Rx) (hw : x'.w = w) (hO : ∀ b, x'.O b → Owned cx σ (updM m (ids.map (settle m))) b) {k : PK} {v : AV} {y : k.den} {i : Nat}
 (hi : rd m k v = some y) (hs : ∀ id ∈ rw1 m k v, id ∈ ids) (hp : ∀ j id, (j, id) ∈ (pcid i k).zip (pid m k v) → x'.σ j = σ id) : ∀ t ∈ zip3 (pcid i k) (pid m k v) (pbl k y), repB x' t.1 t.2.2 := by
 intro t ht
 cases k with
 | d ag u => simp [zip3, pcid] at ht
 | p e u =>
   obtain ⟨jd, rfl, hh⟩ := bD4 hi; have hi := hh; obtain ⟨cs, e1, e2⟩ := wA2 hi; simp only [rw1, e1, blkRows] at hs; have : t = (i, jd, Blk.cells e (expl u y)) := by simpa [zip3, pcid, pid, pbl] using ht
   rw [this]
   exact yB1 h ids x' hw hO e1 e2 hs (hp i jd (by simp [pcid, pid]))
 | mp kt vt ka va =>
   obtain ⟨jd, rfl, hh⟩ := uC9 hi; have hi := hh; have e1 := gA6 hi; have : t = (i, jd, Blk.mapb kt vt ka va y) := by simpa [zip3, pcid, pid, pbl] using ht
   rw [this]; obtain ⟨h3, k3⟩ := h.settles ids; have hb := h.blk jd; rw [e1] at hb; obtain ⟨r, es, cl, q1, q2, q3, q4⟩ := hb; refine ⟨r, es, cl, by rw [hp i jd (by simp [pcid, pid])]; exact q1, by rw [hw]; exact q2, ?_, q4⟩
   exact iA3 (x := rx cx σ N m w) (y := x') ((k3.k.trans (c := x'.w) (O'' := x'.O) (by have := keepsw (x := rx cx σ N (updM m (ids.map (settle m))) w) (y := x') hw hO; exact this) (Nat.le_refl _))) _ _ q3
 | o e u =>
   obtain ⟨jd, rfl, hh⟩ := jD2 hi; have hi := hh; have : t = (i, jd, Blk.row e u y) := by simpa [zip3, pcid, pid, pbl] using ht
   rw [this]
   exact wC7 h ids x' hw hO (eA2 hi) (hp i jd (by simp [pcid, pid]))
 | pm t' kt vt ka va =>
   obtain ⟨ds, j, rfl, hsp, g1, g2⟩ := iC4 hi; have : t = (i, j, Blk.mapb kt vt ka va y.2) := by simpa [zip3, pcid, pid, pbl, hsp, pmId] using ht
   rw [this]; obtain ⟨h3, k3⟩ := h.settles ids; have hb := h.blk j; rw [g2] at hb; obtain ⟨r, es, cl, q1, q2, q3, q4⟩ := hb; refine ⟨r, es, cl, by rw [hp i j (by simp [pcid, pid, hsp, pmId])]; exact q1, by rw [hw]; exact q2, ?_, q4⟩
   exact iA3 (x := rx cx σ N m w) (y := x') ((k3.k.trans (c := x'.w) (O'' := x'.O) (by have := keepsw (x := rx cx σ N (updM m (ids.map (settle m))) w) (y := x') hw hO; exact this) (Nat.le_refl _))) _ _ q3
 | nl => simp [zip3, pcid] at ht
 | bx =>
   obtain ⟨jd, rfl, hh⟩ := qC9 hi; have : t = (31, jd, Blk.dead) := by simpa [zip3, pcid, pid, pbl] using ht
   rw [this]
   trivial
 | oc e u =>
   obtain ⟨jd, rfl, hh⟩ := rC4 hi; have hi := hh; have : t = (i, jd, Blk.row e u y) := by simpa [zip3, pcid, pid, pbl] using ht
   rw [this]
   exact wC7 h ids x' hw hO (eA2 hi) (hp i jd (by simp [pcid, pid]))
 | cl g ks =>
   obtain ⟨jd, rfl, hh⟩ := rC1 hi; have hi := hh; exact cA8 h ids x' hw hO ks _ y (8 + 4 * i) hi hs hp t ht
theorem zB3 (h : RepM cx σ N m w) (ids : List Nat) (x' : Rx) (hw : x'.w = w) (hO : ∀ b, x'.O b → Owned cx σ (updM m (ids.map (settle m))) b) :
 ∀ (ks : List PK) (vs : List AV) (y : dens ks) (i : Nat), rds m ks vs = some y → (∀ id ∈ rws m ks vs, id ∈ ids) → (∀ j id, (j, id) ∈ ptrs m i ks vs → x'.σ j = σ id) →
   ∀ t ∈ tri m pbl i ks vs y, repB x' t.1 t.2.2
 | [], _, _, _, _, _, _, t, ht => by simp [tri] at ht
 | _ :: _, [], _, _, h, _, _, t, ht => by simp [rds] at h
 | k :: ks, v :: vs, y, i, hrd, hs, hp, t, ht => by
   obtain ⟨h1, h2⟩ := uA5 hrd; simp only [tri, List.mem_append] at ht
   rcases ht with ht | ht
   · exact uC8 h ids x' hw hO h1 (fun id hid => hs id (by simp [rws, hid])) (fun j id hid => hp j id (by simp only [ptrs, List.mem_append]; exact .inl hid)) t ht
   · exact zB3 h ids x' hw hO ks vs y.2 (i + 1) h2 (fun id hid => hs id (by simp [rws, hid])) (fun j id hj => hp j id (by simp only [ptrs, List.mem_append]; exact .inr hj)) t ht
end
end Go.Ev

namespace Go.Ev
section
variable {cx cx' : Cx} {σ σ' : Nat → Value} {N N' : Nat → Prop} {m m' : Mem} {w w' : World} {P : Program} {T : Tab}
theorem iD4 {n : Nat} {a : Act} {s : Slots} {m : Mem} (ht : TabOK P T) (h : RepF cx σ N (sget s) m n a w) (r : ResultVar) (hp : (rvE T s m r).pre) :
 ∃ v, repA (rx cx σ N m w) (rvE T s m r).r v ∧ (∀ t, r = .tmp t → v = a.tmps.getD t undef) ∧ (∀ b t, r = .cell b t → ∃ ad, a.tmps.getD b undef = .pointer (some ad) ∧ (loadVar t ad).run P w = .ok v w) := by
 cases r with
 | tmp t => exact ⟨_, h.ss t, (fun q e => by cases e; rfl), (fun b t e => by cases e)⟩
 | cell b t =>
   have hs := h.ss b; simp only [rvE] at hp ⊢; generalize sget s b = v at hs hp ⊢; unfold rvL at hp ⊢; split at hp
   · rename_i id off; simp only [loadE] at hp ⊢; split at hp
     · rename_i e cs hm; split at hp
       · rename_i hle; rw [if_pos hle]; unfold repA repC at hs; obtain ⟨hn, bl, e1, e2⟩ := hs; have hb := h.mm.blk id; rw [hm] at hb; obtain ⟨b', vs, e3, e4, hcs, h1⟩ := hb; simp only [rx] at e1 e3 e4; rw [e1] at e3; simp at e3; subst e3; have hlen := jA0 _ _ hcs; have htt := TI.of_ok ht t (wA6 (by omega)); have hd := lA0 (TI.of T t).size _ _ (mA0 off _ _ hcs); refine ⟨_, vA2 hd (fun hg => by simp; have := htt.one hg; omega), (fun q e => by cases e), (fun b' t' e => ?_)⟩; cases e; refine ⟨_, e2, gA1 htt (by simp; omega) (fun j u hu => ?_)⟩; rw [fB5 e4]; rw [List.getElem?_take] at hu; split at hu
         · rwa [List.getElem?_drop] at hu
         · cases hu
       · exact hp.elim
     · rename_i cs hm; split at hp
       · rename_i hle; rw [if_pos hle]; unfold repA repC at hs; obtain ⟨hn, bl, e1, e2⟩ := hs; have hb := h.mm.blk id; rw [hm] at hb; obtain ⟨b', vs, e3, hcs, hca⟩ := hb; simp only [rx] at e1 e3 hca; rw [e1] at e3; simp at e3; subst e3; have hlen := jA0 _ _ hcs; have htt := TI.of_ok ht t (wA6 (by omega)); have hd := lA0 (TI.of T t).size _ _ (mA0 off _ _ hcs); refine ⟨_, vA2 hd (fun hg => by simp; have := htt.one hg; omega), (fun q e => by cases e), (fun b' t' e => ?_)⟩; cases e; refine ⟨_, e2, gA1 htt (by simp; omega) (fun j u hu => ?_)⟩; rw [List.getElem?_take] at hu; split at hu
         · rw [List.getElem?_drop] at hu; have := (hca _ u hu).2
           rwa [Nat.zero_add] at this
         · cases hu
       · exact hp.elim
     · exact hp.elim
   · exact hp.elim
def packV : List Value → Value
 | [v] => v
 | vs => .tuple vs.toArray
theorem xC7 {n : Nat} {a : Act} {s : Slots} {m : Mem} (ht : TabOK P T) (h : RepF cx σ N (sget s) m n a w) (fn : Func) (hp : rvP T s m fn.results.toList) (h4 : fn.results.size ≤ 4) :
 ∃ vs : List Value, vs.length = fn.results.size ∧ (results fn a.tmps).run P w = .ok (packV vs) w ∧ ∀ j v, (j, v) ∈ rvS T s m 0 fn.results.toList → j < vs.length ∧ repA (rx cx σ N m w) v (vs.getD j undef) := by
 have run1 : ∀ r : ResultVar, (rvE T s m r).pre → ∃ v, repA (rx cx σ N m w) (rvE T s m r).r v ∧ ((∃ t, r = .tmp t ∧ a.tmps[t]?.getD undef = v) ∨
  ∃ b t ad, r = .cell b t ∧ a.tmps[b]?.getD undef = .pointer (some ad) ∧ (loadVar t ad).run P w = .ok v w) := by
  intro r hr; obtain ⟨v, h1, h2, h3⟩ := iD4 ht h r hr; refine ⟨v, h1, ?_⟩
  cases r with
  | tmp t => exact .inl ⟨t, rfl, by rw [h2 t rfl, Array.getD_eq_getD_getElem?]⟩
  | cell b t =>
    obtain ⟨ad, e1, e2⟩ := h3 b t rfl; rw [Array.getD_eq_getD_getElem?] at e1; exact .inr ⟨b, t, ad, rfl, e1, e2⟩
 generalize hrs : fn.results = rs at *; obtain ⟨l⟩ := rs; simp only [List.size_toArray] at h4 ⊢
 match l, h4, hp with
 | [], _, _ => exact ⟨[], rfl, by simp [results, hrs, packV], fun j v hv => by simp [rvS] at hv⟩
 | [r1], _, ⟨p1, _⟩ =>
   obtain ⟨v1, q1, s1⟩ := run1 r1 p1; refine ⟨[v1], rfl, ?_, fun j v hv => ?_⟩
   · rcases s1 with ⟨t1, rfl, e1⟩ | ⟨b1, t1, a1, rfl, e1, l1⟩ <;> simp [results, hrs, packV, asAddr, *]
   · simp [rvS] at hv; rw [hv.1, hv.2]; exact ⟨by simp, q1⟩
 | [r1, r2], _, ⟨p1, p2, _⟩ =>
   obtain ⟨v1, q1, s1⟩ := run1 r1 p1; obtain ⟨v2, q2, s2⟩ := run1 r2 p2; refine ⟨[v1, v2], rfl, ?_, fun j v hv => ?_⟩
   · rcases s1 with ⟨t1, rfl, e1⟩ | ⟨b1, t1, a1, rfl, e1, l1⟩ <;> rcases s2 with ⟨t2, rfl, e2⟩ | ⟨b2, t2, a2, rfl, e2, l2⟩ <;> simp [results, hrs, packV, asAddr, *]
   · simp [rvS] at hv
     rcases hv with ⟨e1, e2⟩ | ⟨e1, e2⟩ <;> rw [e1, e2]
     · exact ⟨by simp, q1⟩
     · exact ⟨by simp, q2⟩
 | [r1, r2, r3], _, ⟨p1, p2, p3, _⟩ =>
   obtain ⟨v1, q1, s1⟩ := run1 r1 p1; obtain ⟨v2, q2, s2⟩ := run1 r2 p2; obtain ⟨v3, q3, s3⟩ := run1 r3 p3; refine ⟨[v1, v2, v3], rfl, ?_, fun j v hv => ?_⟩
   · rcases s1 with ⟨t1, rfl, e1⟩ | ⟨b1, t1, a1, rfl, e1, l1⟩ <;> rcases s2 with ⟨t2, rfl, e2⟩ | ⟨b2, t2, a2, rfl, e2, l2⟩ <;> rcases s3 with ⟨t3, rfl, e3⟩ | ⟨b3, t3, a3, rfl, e3, l3⟩ <;>
      simp [results, hrs, packV, asAddr, *]
   · simp [rvS] at hv
     rcases hv with ⟨e1, e2⟩ | ⟨e1, e2⟩ | ⟨e1, e2⟩ <;> rw [e1, e2]
     · exact ⟨by simp, q1⟩
     · exact ⟨by simp, q2⟩
     · exact ⟨by simp, q3⟩
 | [r1, r2, r3, r4], _, ⟨p1, p2, p3, p4, _⟩ =>
   obtain ⟨v1, q1, s1⟩ := run1 r1 p1; obtain ⟨v2, q2, s2⟩ := run1 r2 p2; obtain ⟨v3, q3, s3⟩ := run1 r3 p3; obtain ⟨v4, q4, s4⟩ := run1 r4 p4; refine ⟨[v1, v2, v3, v4], rfl, ?_, fun j v hv => ?_⟩
   · rcases s1 with ⟨t1, rfl, e1⟩ | ⟨b1, t1, a1, rfl, e1, l1⟩ <;> rcases s2 with ⟨t2, rfl, e2⟩ | ⟨b2, t2, a2, rfl, e2, l2⟩ <;> rcases s3 with ⟨t3, rfl, e3⟩ | ⟨b3, t3, a3, rfl, e3, l3⟩ <;>
      rcases s4 with ⟨t4, rfl, e4⟩ | ⟨b4, t4, a4, rfl, e4, l4⟩ <;> simp [results, hrs, packV, asAddr, *]
   · simp [rvS] at hv
     rcases hv with ⟨e1, e2⟩ | ⟨e1, e2⟩ | ⟨e1, e2⟩ | ⟨e1, e2⟩ <;> rw [e1, e2]
     · exact ⟨by simp, q1⟩
     · exact ⟨by simp, q2⟩
     · exact ⟨by simp, q3⟩
     · exact ⟨by simp, q4⟩
end
end Go.Ev
