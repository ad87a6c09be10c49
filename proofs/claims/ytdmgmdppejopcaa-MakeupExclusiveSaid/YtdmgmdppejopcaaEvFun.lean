/- Functions: what a call reads and gives, as plain data; a body's walk gives a contract. -/
import Derived.Test.YtdmgmdppejopcaaEvRun
set_option linter.unusedSimpArgs false
set_option linter.unusedVariables false
namespace Go.Ev

/-- What a closure holds: a variable's box; a box with a plain function. -/
inductive CapK where
  | p (e : TypeId) (t : Ty) | fb (e : TypeId) (g : FuncId)
/-- What a parameter is: data; a pointer to a struct; a map; a slice that is written in place; one that is given away; a function with what it holds. -/
inductive PK where
  | d (ag : Bool) (t : Ty) | p (e : TypeId) (t : Ty) | mp (kt vt : Ty) (ka va : Bool) | o (e : TypeId) (t : Ty) | oc (e : TypeId) (t : Ty) | cl (g : FuncId) (ks : List CapK)
/-- What a result is: data; a new slice; a pointer to a new struct; a new map. -/
inductive RK where
  | d (ag : Bool) (t : Ty) | o (e : TypeId) (t : Ty) | p (e : TypeId) (t : Ty) | mp (kt vt : Ty) (ka va : Bool)

@[reducible] def CapK.den : CapK → Type
  | .p _ t => t.den
  | .fb _ _ => Unit
@[reducible] def cdens : List CapK → Type
  | [] => Unit
  | k :: ks => k.den × cdens ks
@[reducible] def PK.den : PK → Type
  | .d _ t => t.den
  | .p _ t => t.den
  | .mp kt vt _ _ => List (kt.den × vt.den)
  | .o _ t => List t.den
  | .oc _ t => List t.den
  | .cl _ ks => cdens ks
@[reducible] def RK.den : RK → Type
  | .d _ t => t.den
  | .o _ t => List t.den
  | .p _ t => t.den
  | .mp kt vt _ _ => List (kt.den × vt.den)
@[reducible] def dens : List PK → Type
  | [] => Unit
  | k :: ks => k.den × dens ks
@[reducible] def rdens : List RK → Type
  | [] => Unit
  | k :: ks => k.den × rdens ks

def castMap (kt' vt' kt vt : Ty) (l : List (kt'.den × vt'.den)) : Option (List (kt.den × vt.den)) :=
  if h : kt' = kt ∧ vt' = vt then some (h.1 ▸ h.2 ▸ l) else none

def rdBlk (t : Ty) (e : TypeId) (m : Mem) : Blk → Option t.den
  | .cells e' cs => if e' = e then impl m t cs else none
  | _ => none
def rdMap (kt vt : Ty) (ka va : Bool) : Blk → Option (List (kt.den × vt.den))
  | .mapb kt' vt' ka' va' l => if ka' = ka ∧ va' = va then castMap kt' vt' kt vt l else none
  | _ => none

def rdRow (t : Ty) (e : TypeId) : Blk → Option (List t.den)
  | .row e' u xs => if e' = e then castTy u t xs else none
  | _ => none
def rdFb (e : TypeId) (g : FuncId) : Blk → Option Unit
  | .cells e' [.fn g' []] => if e' = e ∧ g' = g then some () else none
  | _ => none
def rdCap (m : Mem) : (k : CapK) → C1 → Option k.den
  | .p e t, .loc id 0 => rdBlk t e m (m id)
  | .fb e g, .loc id 0 => rdFb e g (m id)
  | _, _ => none
def rdCaps (m : Mem) : (ks : List CapK) → List C1 → Option (cdens ks)
  | [], [] => some ()
  | k :: ks, c :: cs => implP (rdCap m k c) (rdCaps m ks cs)
  | _, _ => none

/-- An argument, read. -/
def rd (m : Mem) : (k : PK) → AV → Option k.den
  | .d false t, .one c => impl m t [c]
  | .d true t, .agg cs => impl m t cs
  | .p e t, .one (.loc id 0) => rdBlk t e m (m id)
  | .mp kt vt ka va, .one (.map id) => rdMap kt vt ka va (m id)
  | .o e t, .one (.row id) => rdRow t e (m id)
  | .oc e t, .one (.row id) => rdRow t e (m id)
  | .cl g ks, .one (.fn g' caps) => if g' = g then rdCaps m ks caps else none
  | _, _ => none
def rds (m : Mem) : (ks : List PK) → List AV → Option (dens ks)
  | [], [] => some ()
  | k :: ks, v :: vs => implP (rd m k v) (rds m ks vs)
  | _, _ => none

/-- The ids of what is pointed to. -/
def capIds : List C1 → List Nat
  | [] => []
  | .loc id _ :: cs => id :: capIds cs
  | _ :: cs => capIds cs
def pid : PK → AV → List Nat
  | .p _ _, .one (.loc id _) => [id]
  | .mp _ _ _ _, .one (.map id) => [id]
  | .o _ _, .one (.row id) => [id]
  | .oc _ _, .one (.row id) => [id]
  | .cl _ _, .one (.fn _ caps) => capIds caps
  | _, _ => []
def pids : List PK → List AV → List Nat
  | k :: ks, v :: vs => pid k v ++ pids ks vs
  | _, _ => []
/-- The rows that are seen as data. -/
def blkRows : Blk → List Nat
  | .cells _ cs => rowsOf cs
  | _ => []
def capRows (m : Mem) : List C1 → List Nat
  | [] => []
  | .loc id _ :: cs => blkRows (m id) ++ capRows m cs
  | _ :: cs => capRows m cs
def rw1 (m : Mem) : PK → AV → List Nat
  | .d _ _, v => rowsOf v.cells
  | .p _ _, .one (.loc id _) => blkRows (m id)
  | .cl _ _, .one (.fn _ caps) => capRows m caps
  | _, _ => []
def rws (m : Mem) : List PK → List AV → List Nat
  | k :: ks, v :: vs => rw1 m k v ++ rws m ks vs
  | _, _ => []
/-- Nothing is met twice. -/
def okIds (a b : List Nat) : Prop := a.Nodup ∧ (a.all fun i => !b.contains i) = true
instance (a b : List Nat) : Decidable (okIds a b) := by unfold okIds; infer_instance

/-- The callee's ids for what is pointed to. -/
def capCids : Nat → List CapK → List Nat
  | _, [] => []
  | i, _ :: ks => i :: capCids (i + 1) ks
def pcid (i : Nat) : PK → List Nat
  | .d _ _ => []
  | .p _ _ | .mp _ _ _ _ | .o _ _ | .oc _ _ => [i]
  | .cl _ ks => capCids (8 + 4 * i) ks
def pcids : Nat → List PK → List Nat
  | _, [] => []
  | i, k :: ks => pcid i k ++ pcids (i + 1) ks
def pcOk (ps : List PK) : Bool := decide (pcids 0 ps).Nodup && (pcids 0 ps).all (fun i => decide (i < 32))

/-- The parameter, in the callee's eyes. -/
def capAvs : Nat → List CapK → List C1
  | _, [] => []
  | i, _ :: ks => .loc i 0 :: capAvs (i + 1) ks
def pav (i : Nat) : (k : PK) → k.den → AV
  | .d ag t, y => avOf ag (expl t y)
  | .p _ _, _ => .one (.loc i 0)
  | .mp _ _ _ _, _ => .one (.map i)
  | .o _ _, _ => .one (.row i)
  | .oc _ _, _ => .one (.row i)
  | .cl g ks, _ => .one (.fn g (capAvs (8 + 4 * i) ks))
def capBlk : (k : CapK) → k.den → Blk
  | .p e t, y => .cells e (expl t y)
  | .fb e g, _ => .cells e [.fn g []]
def capBlks : (ks : List CapK) → cdens ks → List Blk
  | [], _ => []
  | k :: ks, x => capBlk k x.1 :: capBlks ks x.2
/-- The blocks, as they come in and as they are left. -/
def pbl : (k : PK) → k.den → List Blk
  | .d _ _, _ => []
  | .p e t, y => [.cells e (expl t y)]
  | .mp kt vt ka va, l => [.mapb kt vt ka va l]
  | .o e t, xs => [.row e t xs]
  | .oc e t, xs => [.row e t xs]
  | .cl _ ks, x => capBlks ks x
def nbl : (k : PK) → k.den → List Blk
  | .oc _ _, _ => [.dead]
  | k, y => pbl k y
def pslots : Nat → (ks : List PK) → dens ks → Slots
  | _, [], _ => []
  | i, k :: ks, x => (i, pav i k x.1) :: pslots (i + 1) ks x.2
def pheapB (B : (k : PK) → k.den → List Blk) : Nat → (ks : List PK) → dens ks → Heap
  | _, [], _ => []
  | i, k :: ks, x => (pcid i k).zip (B k x.1) ++ pheapB B (i + 1) ks x.2
def pheap : Nat → (ks : List PK) → dens ks → Heap := pheapB pbl
def nheap : Nat → (ks : List PK) → dens ks → Heap := pheapB nbl
/-- The caller's blocks, as they are behind the call. -/
def pupd : (ks : List PK) → List AV → dens ks → Heap
  | [], _, _ => []
  | _ :: _, [], _ => []
  | k :: ks, v :: vs, x => (pid k v).zip (nbl k x.1) ++ pupd ks vs x.2

/-- A result; its block. -/
def rav (j : Nat) : (k : RK) → k.den → AV
  | .d ag t, y => avOf ag (expl t y)
  | .o _ _, _ => .one (.row j)
  | .p _ _, _ => .one (.loc j 0)
  | .mp _ _ _ _, _ => .one (.map j)
def rblk : (k : RK) → k.den → Option Blk
  | .d _ _, _ => none
  | .o e t, xs => some (.row e t xs)
  | .p e t, y => some (.cells e (expl t y))
  | .mp kt vt ka va, l => some (.mapb kt vt ka va l)
def ravs : Nat → (ks : List RK) → rdens ks → List AV
  | _, [], _ => []
  | j, k :: ks, x => rav j k x.1 :: ravs (j + 1) ks x.2
def rslots : Nat → Nat → (ks : List RK) → rdens ks → Slots
  | _, _, [], _ => []
  | i, j, k :: ks, x => (i, rav j k x.1) :: rslots (i + 1) (j + 1) ks x.2
def rheap : Nat → (ks : List RK) → rdens ks → Heap
  | _, [], _ => []
  | j, k :: ks, x => match rblk k x.1 with | some b => (j, b) :: rheap (j + 1) ks x.2 | none => rheap (j + 1) ks x.2
def rwf1 : (k : RK) → k.den → Prop
  | .d _ t, y => Wf t y
  | .o _ t, xs => Wf (.sl t) xs
  | .p _ t, y => Wf t y
  | .mp _ _ _ _, _ => True
def rwf : (ks : List RK) → rdens ks → Prop
  | [], _ => True
  | k :: ks, x => rwf1 k x.1 ∧ rwf ks x.2
def cwf : (ks : List CapK) → cdens ks → Prop
  | [], _ => True
  | .p _ t :: ks, x => Wf t x.1 ∧ cwf ks x.2
  | .fb _ _ :: ks, x => cwf ks x.2
def pwf1 : (k : PK) → k.den → Prop
  | .d _ t, y => Wf t y
  | .p _ t, y => Wf t y
  | .o _ t, y => Wf (.sl t) y
  | .oc _ t, y => Wf (.sl t) y
  | .cl _ ks, x => cwf ks x
  | _, _ => True
def pwf : (ks : List PK) → dens ks → Prop
  | [], _ => True
  | k :: ks, x => pwf1 k x.1 ∧ pwf ks x.2

/-- No memory behind it. -/
def flat : Ty → Bool
  | .sl _ => false
  | .pair a b => flat a && flat b
  | _ => true
def rflat : RK → Bool
  | .d _ t | .o _ t | .p _ t => flat t
  | .mp kt vt _ _ => flat kt && flat vt
def cflat : CapK → Bool
  | .p _ t => flat t
  | _ => true
def pflat : PK → Bool
  | .p _ t | .o _ t => flat t
  | .mp kt vt _ _ => flat kt && flat vt
  | .cl _ ks => ks.all cflat
  | _ => true

def pack : List AV → AV
  | [v] => v
  | vs => .tup vs

/-- A contract on plain data: what is asked; what may come out: the results, the parameters' new contents. -/
structure RCon where
  ps : List PK
  rs : List RK
  pre : dens ps → Prop
  rel : dens ps → rdens rs → dens ps → Prop
structure Con where
  ps : List PK
  rs : List RK
  pre : dens ps → Prop
  out : dens ps → rdens rs
  nw : dens ps → dens ps

/-- What a call writes. -/
def updC (ps : List PK) (rs : List RK) (avs : List AV) (m : Mem) (fr : Nat) (y : rdens rs) (z : dens ps) : Heap :=
  (if rs.all rflat && ps.all pflat then [] else (rws m ps avs).map (settle m)) ++ (pupd ps avs z ++ rheap fr rs y)

def Con.eff (C : Con) (avs : List AV) (m : Mem) (fr : Nat) (x : dens C.ps) : Eff :=
  ⟨C.pre x, pack (ravs fr C.rs (C.out x)), updC C.ps C.rs avs m fr (C.out x) (C.nw x), rwf C.rs (C.out x)⟩

def Con.effO (C : Con) (avs : List AV) (m : Mem) (fr : Nat) : Option (dens C.ps) → Eff
  | some x => if okIds (pids C.ps avs) (rws m C.ps avs) then C.eff avs m fr x else bad
  | none => bad

def Con.ctr (C : Con) : Ctr := fun avs m fr => C.effO avs m fr (rds m C.ps avs)

def Chc.bad : Chc := ⟨Unit, False, fun _ => .one .undef, fun _ => [], fun _ => True⟩
def RCon.chc (C : RCon) (avs : List AV) (m : Mem) (fr : Nat) (x : dens C.ps) : Chc :=
  ⟨rdens C.rs × dens C.ps, C.pre x, fun a => pack (ravs fr C.rs a.1), fun a => updC C.ps C.rs avs m fr a.1 a.2, fun a => C.rel x a.1 a.2 ∧ rwf C.rs a.1⟩
def RCon.chcO (C : RCon) (avs : List AV) (m : Mem) (fr : Nat) : Option (dens C.ps) → Chc
  | some x => if okIds (pids C.ps avs) (rws m C.ps avs) then C.chc avs m fr x else Chc.bad
  | none => Chc.bad
def RCon.rctr (C : RCon) : RCtr := fun avs m fr => C.chcO avs m fr (rds m C.ps avs)

def rvL (m : Mem) (ti : TI) : AV → Eff
  | .one (.loc id off) => loadE m ti (.loc id off)
  | _ => bad
def rvE (T : Tab) (s : Slots) (m : Mem) : ResultVar → Eff
  | .tmp t => okr (sget s t)
  | .cell a t => rvL m (TI.of T t) (sget s a)
def rvP (T : Tab) (s : Slots) (m : Mem) : List ResultVar → Prop
  | [] => True
  | r :: rs => (rvE T s m r).pre ∧ rvP T s m rs
def rvS (T : Tab) (s : Slots) (m : Mem) : Nat → List ResultVar → Slots
  | _, [] => []
  | i, r :: rs => (i, (rvE T s m r).r) :: rvS T s m (i + 1) rs

/-- What is asked at a body's end. -/
def entR (ps : List PK) (rs : List RK) (T : Tab) (rv : List ResultVar) (st : St) (y : rdens rs) (z : dens ps) : Prop :=
  ent (rvS T st.s (mem st.m) 0 rv) (mem st.m) 64 (rslots 0 32 rs y) (nheap 0 ps z ++ rheap 32 rs y)
def postR (ps : List PK) (rs : List RK) (T : Tab) (rv : List ResultVar) (Φ : rdens rs → dens ps → Prop) : Ex → St → Prop := fun e st =>
  match e with
  | .exit _ => False
  | _ => rvP T st.s (mem st.m) rv ∧ ∃ y z, Φ y z ∧ entR ps rs T rv st y z
def Con.post (C : Con) (T : Tab) (rv : List ResultVar) (x : dens C.ps) : Ex → St → Prop := fun e st =>
  match e with
  | .exit _ => False
  | _ => rvP T st.s (mem st.m) rv ∧ entR C.ps C.rs T rv st (C.out x) (C.nw x)
def RCon.post (C : RCon) (T : Tab) (rv : List ResultVar) (x : dens C.ps) : Ex → St → Prop := postR C.ps C.rs T rv (C.rel x)

end Go.Ev
