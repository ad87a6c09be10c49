/- Part. -/
import Derived.WalkKit
import Derived.ProofKit
set_option linter.all false
namespace Go.Ev
universe u
inductive Ty where
 | int (k : IntKind) | bool | str | unit
 | sl (t : Ty)
 | pair (a b : Ty)
 deriving DecidableEq
@[reducible] def Ty.den : Ty → Type
  | .int _ => Int
  | .bool => Bool
  | .str => ByteArray
  | .unit => Unit
  | .sl t => List t.den
  | .pair a b => a.den × b.den
def Ty.n : Ty → Nat
 | .pair a b => a.n + b.n
 | .unit => 0
 | _ => 1
def Ty.dflt : (t : Ty) → t.den
 | .int _ => (0 : Int)
 | .bool => false
 | .str => ByteArray.empty
 | .unit => ()
 | .sl _ => []
 | .pair a b => (a.dflt, b.dflt)
inductive C1 where
 | undef | nilsl | nilp | nilfn
 | int (k : IntKind) (n : Int)
 | bool (b : Bool)
 | str (s : ByteArray)
 | sl (t : Ty) (xs : List t.den) (cp : Bool)
 | row (id : Nat)
 | win (id sz lo len : Nat)
 | loc (id off : Nat)
 | rp (t : Ty) (x : t.den) (off : Nat)
 | ep (id : Nat) (sz : Nat) (i : Int) (off : Nat)
 | map (id : Nat)
 | fn (f : FuncId) (caps : List C1)
 | cs (id n : Nat)
 | pk (cs : List C1)
 | mv (f : FuncId) (caps : List C1)
 | glob (g : Nat)
 | nst (fid i : Nat)
 | nep (fid i sz : Nat) (k : Int) (off : Nat)
 | sp (cs : List C1) (off : Nat)
inductive AV where
 | one (c : C1) | agg (cs : List C1) | tup (vs : List AV) | ifd (c : Bool) (v : AV)
inductive Blk where
 | dead
 | cells (e : TypeId) (cs : List C1)
 | row (e : TypeId) (t : Ty) (xs : List t.den)
 | settled (t : Ty) (xs : List t.den)
 | mapb (kt vt : Ty) (ka va : Bool) (l : List (kt.den × vt.den))
 | fam (e : TypeId) (t : Ty) (xss : List (List t.den))
 | mapg (kt : Ty) (ka : Bool) (fid : Nat) (ks : List kt.den) (hole : Option Nat)
 | lenb (n : Nat)
 | rowg (e : TypeId) (t : Ty) (p fid : Nat) (xs : List t.den) (hole : Option Nat)
 | scell (cs : List C1)
inductive Z where
 | c (c : C1) | s (e : TypeId) (t : Ty)
inductive TD where
 | int | bool | str | slice (e : TypeId) | struct (fs : List (Nat × Nat × Bool)) | ptr (e : TypeId) | map (k e : TypeId) | array (n : Nat) (e : TypeId) (u : Ty) | other
inductive CK where
 | i (k : IntKind) | b | s
 deriving DecidableEq
structure TI where
 desc : TD
 size : Nat
 bytes : Nat
 agg : Bool
 ty : Option Ty
 zero : List Z
 eqn : List CK
 zt : Bool
def TI.none : TI := ⟨.other, 0, 0, false, .none, [], [], false⟩
def isUL : List (Nat × Nat × Bool) → Bool
 | [] => true
 | _ :: _ => false
def isUD : TD → Bool
 | .struct fs => isUL fs
 | .int => false
 | .bool => false
 | .str => false
 | .slice _ => false
 | .ptr _ => false
 | .map _ _ => false
 | .array _ _ _ => false
 | .other => false
def isU (ti : TI) : Bool := isUD ti.desc && decide (ti.size = 0)
def vtD : Bool → Option Ty → Option Ty
 | true, _ => some .unit
 | false, o => o
def TI.vt (ti : TI) : Option Ty := vtD (isU ti) ti.ty
def TI.vz (ti : TI) : Bool := isU ti || ti.zt
abbrev Tab := List (Nat × TI)
abbrev Heap := List (Nat × Blk)
abbrev Mem := Nat → Blk
abbrev Slots := List (Nat × AV)
structure Eff where
 pre : Prop
 r : AV
 u : Heap
 asm : Prop
def bad : Eff := ⟨False, .one .undef, [], True⟩
def okr (r : AV) : Eff := ⟨True, r, [], True⟩
def getL {α : Type} (d : α) : List (Nat × α) → Nat → α
 | [], _ => d
 | (k, v) :: l, i => if k = i then v else getL d l i
def findL {α : Type u} : List (Nat × α) → Nat → Option α
 | [], _ => none
 | (k, v) :: l, i => if k = i then some v else findL l i
def setL {α : Type} : List (Nat × α) → Nat → α → List (Nat × α)
 | [], i, v => [(i, v)]
 | (k, x) :: l, i, v => if k = i then (k, v) :: l else (k, x) :: setL l i v
def setMany {α : Type} : List (Nat × α) → List (Nat × α) → List (Nat × α)
 | l, [] => l
 | l, (k, v) :: r => setMany (setL l k v) r
def constC : Value → C1
 | .int k n => .int k n
 | .bool b => .bool b
 | .string s => .str s
 | .slice none _ _ => .nilsl
 | .pointer none => .nilp
 | .nilFunc => .nilfn
 | _ => .undef
def constAV : Value → AV
 | .agg cs => .agg (cs.toList.map constC)
 | v => .one (constC v)
def opd (s : Nat → AV) : Operand → AV
 | .tmp t => s t
 | .const v => constAV v
 | .func f => .one (.fn f [])
 | .global g => .one (.glob g)
def InR (k : IntKind) (n : Int) : Prop := k.min ≤ n ∧ n ≤ k.max
def Wf : (t : Ty) → t.den → Prop
 | .int k, n => InR k n
 | .bool, _ => True
 | .str, s => s.size ≤ maxLen
 | .unit, _ => True
 | .sl t, xs => xs.length ≤ maxLen ∧ ∀ x ∈ xs, Wf t x
 | .pair a b, p => Wf a p.1 ∧ Wf b p.2
def slAt : Ty → Option (Nat × Ty)
 | .sl u => some (0, u)
 | .pair a b => (match slAt a with
   | some r => some r
   | none => (match slAt b with
     | some r => some (a.n + r.1, r.2)
     | none => none))
 | _ => none
def putSl (u : Ty) (ys : List u.den) : (t : Ty) → t.den → t.den
 | .sl v, x => if h : u = v then h ▸ ys else x
 | .pair a b, x => if (slAt a).isSome = true then (putSl u ys a x.1, x.2) else (x.1, putSl u ys b x.2)
 | .int _, x => x
 | .bool, x => x
 | .str, x => x
 | .unit, x => x
def putSls (u t : Ty) (xs : List t.den) (yss : List (List u.den)) : List t.den := (xs.zip yss).map fun q => putSl u q.2 t q.1
def castTy (t u : Ty) (xs : List t.den) : Option (List u.den) :=
 if h : t = u then some (h ▸ xs) else none
def view (m : Mem) (t : Ty) : C1 → Option (List t.den)
 | .nilsl => some []
 | .sl u xs _ => castTy u t xs
 | .row id => match m id with
   | .row _ u xs => castTy u t xs
   | .settled u xs => castTy u t xs
   | _ => none
 | .win id sz lo len => match m id with
   | .row _ u xs => if sz = u.n ∧ lo + len ≤ xs.length then castTy u t ((xs.take (lo + len)).drop lo) else none
   | .settled u xs => if sz = u.n ∧ lo + len ≤ xs.length then castTy u t ((xs.take (lo + len)).drop lo) else none
   | _ => none
 | _ => none
def lenOf (m : Mem) : C1 → Option Nat
 | .nilsl => some 0
 | .cs _ n => some n
 | .sl _ xs _ => some xs.length
 | .row id => match m id with
   | .row _ _ xs => some xs.length
   | .settled _ xs => some xs.length
   | .lenb n => some n
   | .rowg _ _ _ _ xs _ => some xs.length
   | _ => none
 | .nst fid i => match m fid with
   | .fam _ _ xss => some (xss.getD i []).length
   | _ => none
 | .win id sz lo len => match m id with
   | .row _ u xs => if sz = u.n ∧ lo + len ≤ xs.length then some len else none
   | .settled u xs => if sz = u.n ∧ lo + len ≤ xs.length then some len else none
   | _ => none
 | _ => none
def expl : (t : Ty) → t.den → List C1
 | .int k, n => [.int k n]
 | .bool, b => [.bool b]
 | .str, s => [.str s]
 | .unit, _ => []
 | .sl t, xs => [.sl t xs false]
 | .pair a b, p => expl a p.1 ++ expl b p.2
def implI (k : IntKind) : List C1 → Option Int
 | [.int k' n] => if k' = k then some n else none
 | _ => none
def implB : List C1 → Option Bool
 | [.bool b] => some b
 | _ => none
def implS : List C1 → Option ByteArray
 | [.str s] => some s
 | _ => none
def implU : List C1 → Option Unit
 | [] => some ()
 | _ => none
def implL (m : Mem) (t : Ty) : List C1 → Option (List t.den)
 | [c] => view m t c
 | _ => none
def implP {α β : Type} : Option α → Option β → Option (α × β)
 | some x, some y => some (x, y)
 | _, _ => none
def impl (m : Mem) : (t : Ty) → List C1 → Option t.den
 | .int k, cs => implI k cs
 | .bool, cs => implB cs
 | .str, cs => implS cs
 | .unit, cs => implU cs
 | .sl t, cs => implL m t cs
 | .pair a b, cs => implP (impl m a (cs.take a.n)) (impl m b (cs.drop a.n))
def known : C1 → Bool
 | .undef => false
 | .pk _ => false
 | .nst _ _ => false
 | .nep _ _ _ _ _ => false
 | .sp _ _ => false
 | _ => true
def AV.cells : AV → List C1
 | .one c => [c]
 | .agg cs => cs
 | _ => []
def AV.ag : AV → Bool
 | .agg _ => true
 | _ => false
def avA : AV → Bool
 | .one _ => true
 | .agg _ => true
 | .tup _ => false
 | .ifd _ _ => false
def avOf (isAgg : Bool) (cs : List C1) : AV :=
 if isAgg then .agg cs else match cs with | [c] => .one c | _ => .one .undef
def rowsOf : List C1 → List Nat
 | [] => []
 | .row id :: cs => id :: rowsOf cs
 | .win id _ _ _ :: cs => id :: rowsOf cs
 | _ :: cs => rowsOf cs
def settle (m : Mem) (id : Nat) : Nat × Blk :=
 (id, match m id with | .row _ t xs => .settled t xs | b => b)
def mem (l : Heap) : Mem := getL .dead l
def updM (m : Mem) : Heap → Mem
 | [] => m
 | (k, b) :: r => updM (fun i => if k = i then b else m i) r
def mkZero : List Z → Nat → List C1 × Heap
 | [], _ => ([], [])
 | .c c :: zs, fr => let r := mkZero zs fr; (c :: r.1, r.2)
 | .s e t :: zs, fr => let r := mkZero zs (fr + 1); (.row fr :: r.1, (fr, .row e t []) :: r.2)
def strLt (a b : ByteArray) : Bool := Op.bytesLess a.toList b.toList
def andV (k : IntKind) (a b : Int) : Int := k.wrap ((BitVec.ofInt k.bits a &&& BitVec.ofInt k.bits b).toNat : Nat)
def binE (op : BinOp) : C1 → C1 → Eff
 | .int k a, .int k' b => if k = k' then (match op with
   | .add => ⟨InR k (a + b), .one (.int k (a + b)), [], True⟩
   | .sub => ⟨InR k (a - b), .one (.int k (a - b)), [], True⟩
   | .mul => ⟨InR k (a * b), .one (.int k (a * b)), [], True⟩
   | .quo => ⟨b ≠ 0 ∧ InR k (a.tdiv b), .one (.int k (a.tdiv b)), [], True⟩
   | .rem => ⟨b ≠ 0 ∧ InR k (a.tmod b), .one (.int k (a.tmod b)), [], True⟩
   | .eql => okr (.one (.bool (decide (a = b))))
   | .neq => okr (.one (.bool (decide (a ≠ b))))
   | .lss => okr (.one (.bool (decide (a < b))))
   | .leq => okr (.one (.bool (decide (a ≤ b))))
   | .gtr => okr (.one (.bool (decide (a > b))))
   | .geq => okr (.one (.bool (decide (a ≥ b))))
   | .and => okr (.one (.int k (andV k a b)))
   | _ => bad) else bad
 | .bool a, .bool b => match op with
   | .eql => okr (.one (.bool (decide (a = b))))
   | .neq => okr (.one (.bool (decide (a ≠ b))))
   | _ => bad
 | .str a, .str b => match op with
   | .eql => okr (.one (.bool (decide (a = b))))
   | .neq => okr (.one (.bool (decide (a ≠ b))))
   | .lss => okr (.one (.bool (strLt a b)))
   | .leq => okr (.one (.bool (strLt a b || decide (a = b))))
   | .gtr => okr (.one (.bool (!(strLt a b || decide (a = b)))))
   | .geq => okr (.one (.bool (!strLt a b)))
   | .add => ⟨a.size + b.size ≤ maxLen, .one (.str (a ++ b)), [], True⟩
   | _ => bad
 | _, _ => bad
def ptrNil (op : BinOp) (q : Bool) : TD → Eff
 | .ptr _ => (match op with
   | .eql => okr (.one (.bool q))
   | .neq => okr (.one (.bool (!q)))
   | _ => bad)
 | _ => bad
abbrev Ctr := List AV → Mem → Nat → Eff
structure Chc where
 A : Type
 pre : Prop
 r : A → AV
 u : A → Heap
 asm : A → Prop
abbrev RCtr := List AV → Mem → Nat → Chc
structure ItE where
 pre : Prop
 y : Nat → List AV
 ar : Nat
 u : Heap
 ord : List Nat → Prop
 asm : Nat → Prop
abbrev ItC := List C1 → Mem → ItE
def Pfx (ord : List Nat → Prop) (p : List Nat) : Prop := ∃ q, ord (p ++ q)
structure GV where
 t : Ty
 xs : List t.den
abbrev GVs := List (Nat × GV)
structure Env where
 d : List (Nat × Ctr)
 r : List (Nat × RCtr)
 wf : List (Nat × Nat)
 it : List (Nat × ItC)
 gl : GVs
def TI.of (T : Tab) (t : TypeId) : TI := getL TI.none T t
def seqO {α : Type} : List (Option α) → Option (List α)
 | [] => some []
 | none :: _ => none
 | some x :: l => match seqO l with | some r => some (x :: r) | none => none
def overC (cs : List C1) (off : Nat) (vs : List C1) : List C1 := cs.take off ++ vs ++ cs.drop (off + vs.length)
def fillC (fs : List (Nat × Nat × Bool)) : List C1 → List (Nat × AV) → Option (List C1)
 | cs, [] => some cs
 | cs, (i, v) :: r => match fs[i]? with
   | some (off, sz, _) => if v.cells.length = sz ∧ off + sz ≤ cs.length ∧ 0 < sz ∧ v.cells.all known = true then fillC fs (overC cs off v.cells) r else none
   | none => none
def eqCells : List CK → List C1 → List C1 → Option Bool
 | [], [], [] => some true
 | .i k :: ks, .int k1 a :: cs, .int k2 b :: ds => if k1 = k ∧ k2 = k then (eqCells ks cs ds).map (fun q => decide (a = b) && q) else none
 | .b :: ks, .bool a :: cs, .bool b :: ds => (eqCells ks cs ds).map (fun q => decide (a = b) && q)
 | .s :: ks, .str a :: cs, .str b :: ds => (eqCells ks cs ds).map (fun q => decide (a = b) && q)
 | _, _, _ => none
def kindsOf : Ty → Option (List CK)
 | .int k => some [.i k]
 | .bool => some [.b]
 | .str => some [.s]
 | .unit => some []
 | .sl _ => none
 | .pair a b => match kindsOf a, kindsOf b with
   | some x, some y => some (x ++ y)
   | _, _ => none
def keyEq : (t : Ty) → t.den → t.den → Bool
 | .int _, a, b => decide ((a : Int) = b)
 | .bool, a, b => decide ((a : Bool) = b)
 | .str, a, b => decide ((a : ByteArray) = b)
 | .unit, _, _ => true
 | .sl _, _, _ => false
 | .pair a b, p, q => keyEq a p.1 q.1 && keyEq b p.2 q.2
def mget {kt : Ty} {β : Type} (l : List (kt.den × β)) (k : kt.den) : Option β :=
 match l with
 | [] => none
 | (a, v) :: r => if keyEq kt k a then some v else mget r k
def mset {kt : Ty} {β : Type} (l : List (kt.den × β)) (k : kt.den) (v : β) : List (kt.den × β) :=
 match l with
 | [] => [(k, v)]
 | (a, u) :: r => if keyEq kt k a then (k, v) :: r else (a, u) :: mset r k v
def kidx {kt : Ty} (k : kt.den) : List kt.den → Nat
 | [] => 0
 | a :: l => if keyEq kt k a then 0 else kidx k l + 1
def hset {α : Type} (l : List α) (j : Nat) (x : α) : List α := if j < l.length then l.set j x else l ++ [x]
def appWin (e : TypeId) (t : Ty) (m : Mem) (ys : List t.den) (id sz lo len : Nat) : Eff :=
 match m id with
 | .row e' u xs => match castTy u t xs with
   | some xs => if e' = e ∧ sz = t.n then ⟨(0 < ys.length ∨ ys.length = 0) ∧ lo + len + ys.length ≤ xs.length, .one (.win id sz lo (len + ys.length)), [(id, .row e t (xs.take (lo + len) ++ (ys ++ xs.drop (lo + len + ys.length))))], True⟩ else bad
   | none => bad
 | _ => bad
def appE (T : Tab) (st : TypeId) (m : Mem) (fr : Nat) (b x : C1) : Eff :=
 match (TI.of T st).desc with
 | .slice e => match (TI.of T e).ty with
   | some t => match view m t x with
     | some ys => match b with
       | .nilsl => ⟨ys.length * (TI.of T e).bytes ≤ 140737488355328, .one (.row fr), [(fr, .row e t ys)], True⟩
       | .sl u xs true => match castTy u t xs with
         | some xs => ⟨(0 < ys.length ∨ xs = []) ∧ (xs.length + ys.length) * (TI.of T e).bytes ≤ 140737488355328, .one (.row fr), [(fr, .row e t (xs ++ ys))], True⟩
         | none => bad
       | .row id => match m id with
         | .row e' u xs => match castTy u t xs with
           | some xs => if e' = e then ⟨(xs.length + ys.length) * (TI.of T e).bytes ≤ 140737488355328, .one (.row fr), [(id, .dead), (fr, .row e t (xs ++ ys))], True⟩ else bad
           | none => bad
         | _ => bad
       | .win id sz lo len => appWin e t m ys id sz lo len
       | _ => bad
     | none => bad
   | none => bad
 | _ => bad
def loadE (m : Mem) (ti : TI) : C1 → Eff
 | .loc id off => match m id with
   | .cells _ cs => if 0 < ti.size ∧ off + ti.size ≤ cs.length then okr (avOf ti.agg ((cs.drop off).take ti.size)) else bad
   | .scell cs => if 0 < ti.size ∧ off + ti.size ≤ cs.length then okr (avOf ti.agg ((cs.drop off).take ti.size)) else bad
   | _ => bad
 | .sp cs off => if 0 < ti.size ∧ off + ti.size ≤ cs.length then okr (avOf ti.agg ((cs.drop off).take ti.size)) else bad
 | .rp u x off => if 0 < ti.size ∧ off + ti.size ≤ u.n then ⟨True, avOf ti.agg (((expl u x).drop off).take ti.size), [], Wf u x⟩ else bad
 | .ep id sz i off => match m id with
   | .row _ u xs => if 0 < ti.size ∧ off + ti.size ≤ u.n ∧ sz = u.n then ⟨0 ≤ i ∧ i < xs.length, avOf ti.agg (((expl u (xs.getD i.toNat u.dflt)).drop off).take ti.size), [], Wf u (xs.getD i.toNat u.dflt)⟩ else bad
   | .settled u xs => if 0 < ti.size ∧ off + ti.size ≤ u.n ∧ sz = u.n then ⟨0 ≤ i ∧ i < xs.length, avOf ti.agg (((expl u (xs.getD i.toNat u.dflt)).drop off).take ti.size), [], Wf u (xs.getD i.toNat u.dflt)⟩ else bad
   | _ => bad
 | .nep fid i sz k off => match m fid with
   | .fam _ u xss => if 0 < ti.size ∧ off + ti.size ≤ u.n ∧ sz = u.n then ⟨0 ≤ k ∧ k < (xss.getD i []).length, avOf ti.agg (((expl u ((xss.getD i []).getD k.toNat u.dflt)).drop off).take ti.size), [], Wf u ((xss.getD i []).getD k.toNat u.dflt)⟩ else bad
   | _ => bad
 | _ => bad
def loadV (m : Mem) (ti : TI) : Option GV → Eff
 | some ⟨t, [x]⟩ => loadE m ti (.rp t x 0)
 | _ => bad
def loadX (gl : GVs) (m : Mem) (ti : TI) : C1 → Eff
 | .glob g => loadV m ti (findL gl g)
 | c => loadE m ti c
def storeE (m : Mem) (ti : TI) (v : AV) : C1 → Eff
 | .loc id off => match m id with
   | .cells e cs => if 0 < ti.size ∧ v.cells.length = ti.size ∧ off + ti.size ≤ cs.length ∧ v.cells.all known = true then ⟨True, .one .undef, [(id, .cells e (overC cs off v.cells))], True⟩ else bad
   | _ => bad
 | .ep id sz i off => match m id with
   | .row e u xs => if 0 < ti.size ∧ v.cells.length = ti.size ∧ off + ti.size ≤ u.n ∧ sz = u.n ∧ (rowsOf v.cells).contains id = false ∧ v.cells.all known = true then
      (match impl m u (overC (expl u (xs.getD i.toNat u.dflt)) off v.cells) with
      | some x => ⟨0 ≤ i ∧ i < xs.length, .one .undef, (rowsOf v.cells).map (settle m) ++ [(id, .row e u (xs.set i.toNat x))], True⟩
      | none => bad) else bad
   | _ => bad
 | _ => bad
def fieldE (fs : List (Nat × Nat × Bool)) (f : Nat) : C1 → Eff
 | .loc id off => match fs[f]? with | some (o, sz, _) => if 0 < sz then okr (.one (.loc id (off + o))) else bad | none => bad
 | .sp cs off => match fs[f]? with | some (o, sz, _) => if 0 < sz then okr (.one (.sp cs (off + o))) else bad | none => bad
 | .rp t x off => match fs[f]? with | some (o, sz, _) => if 0 < sz then okr (.one (.rp t x (off + o))) else bad | none => bad
 | .ep id z i off => match fs[f]? with | some (o, sz, _) => if 0 < sz then okr (.one (.ep id z i (off + o))) else bad | none => bad
 | _ => bad
def indexE (T : Tab) (e : TypeId) (m : Mem) (i : Int) : C1 → Eff
 | .sl u xs _ => if (TI.of T e).ty = some u then ⟨0 ≤ i ∧ i < xs.length, .one (.rp u (xs.getD i.toNat u.dflt) 0), [], 0 ≤ i ∧ i < xs.length⟩ else bad
 | .row id => match m id with
   | .row _ u xs => if (TI.of T e).ty = some u then ⟨0 ≤ i ∧ i < xs.length, .one (.ep id u.n i 0), [], 0 ≤ i ∧ i < xs.length⟩ else bad
   | .settled u xs => if (TI.of T e).ty = some u then ⟨0 ≤ i ∧ i < xs.length, .one (.rp u (xs.getD i.toNat u.dflt) 0), [], 0 ≤ i ∧ i < xs.length⟩ else bad
   | .rowg _ u _ _ xs _ => if (TI.of T e).ty = some u then ⟨0 ≤ i ∧ i < xs.length, .one (.ep id u.n i 0), [], 0 ≤ i ∧ i < xs.length⟩ else bad
   | _ => bad
 | .win id sz lo len => match m id with
   | .row _ u xs => if (TI.of T e).ty = some u ∧ sz = u.n ∧ lo + len ≤ xs.length then ⟨0 ≤ i ∧ i < len, .one (.ep id u.n (lo + i) 0), [], 0 ≤ i ∧ i < len⟩ else bad
   | _ => bad
 | .cs id n => if (TI.of T e).size = 1 then ⟨0 ≤ i ∧ i < n, .one (.loc id i.toNat), [], True⟩ else bad
 | .nst fid j => match m fid with
   | .fam _ u xss => if (TI.of T e).ty = some u then ⟨0 ≤ i ∧ i < (xss.getD j []).length, .one (.nep fid j u.n i 0), [], 0 ≤ i ∧ i < (xss.getD j []).length⟩ else bad
   | _ => bad
 | _ => bad
def glE (T : Tab) (n : Nat) (e : TypeId) (u : Ty) (i : Int) : Option GV → Eff
 | some v => match castTy v.t u v.xs with
   | some xs => if xs.length = n ∧ (TI.of T e).ty = some u then ⟨0 ≤ i ∧ i < n, .one (.rp u (xs.getD i.toNat u.dflt) 0), [], 0 ≤ i ∧ i < n⟩ else bad
   | none => bad
 | none => bad
def rowsN (m : Mem) : List Nat → List Nat
 | [] => []
 | id :: l => match m id with
   | .settled _ _ => rowsN m l
   | _ => id :: rowsN m l
def strS : C1 → Int → Int → Eff
 | .str q, l, h => ⟨0 ≤ l ∧ l ≤ h ∧ h ≤ q.size, .one (.str (q.extract l.toNat h.toNat)), [], True⟩
 | _, _, _ => bad
def strSl (c : C1) : Option Int → Option Int → Option Int → Eff
 | some l, some h, none => strS c l h
 | _, _, _ => bad
def sliceE (m : Mem) (t : Ty) (x : C1) (lo hi : Option Int) (mx : Option Int) : Eff :=
 match view m t x with
 | some xs =>
   let l := lo.getD 0
   let h := hi.getD xs.length
   let us := (rowsN m (rowsOf [x])).map (settle m)
   match mx with
   | none => ⟨0 ≤ l ∧ l ≤ h ∧ h ≤ xs.length, .one (.sl t ((xs.take h.toNat).drop l.toNat) false), us, True⟩
   | some q => ⟨0 ≤ l ∧ l ≤ h ∧ h ≤ xs.length ∧ q = h, .one (.sl t ((xs.take h.toNat).drop l.toNat) true), us, True⟩
 | none => bad
def winE (m : Mem) (t : Ty) (fr : Nat) (x : C1) (lo hi : Option Int) (k : Nat) : Eff :=
 match x with
 | .row id => (match m id with
   | .row e u xs => if u = t then
      let l := lo.getD 0
      let h := hi.getD xs.length
      (if k = 1 then ⟨0 ≤ l ∧ l ≤ h ∧ h ≤ xs.length, .one (.win id t.n l.toNat (h - l).toNat), [], True⟩
      else if k = 2 ∧ lo.isSome = false then ⟨0 ≤ h ∧ h ≤ xs.length, .one (.row fr), [(id, .dead), (fr, .row e u (xs.take h.toNat))], True⟩ else bad) else bad
   | _ => bad)
 | .win id sz b len => (match m id with
   | .row _ u xs => if u = t ∧ sz = t.n ∧ b + len ≤ xs.length then
      let l := lo.getD 0
      let h := hi.getD len
      (if k = 1 then ⟨0 ≤ l ∧ l ≤ h ∧ b + h ≤ xs.length, .one (.win id t.n (b + l.toNat) (h - l).toNat), [], True⟩ else bad) else bad
   | _ => bad)
 | _ => bad
def intOf? : AV → Option Int
 | .one (.int .i64 n) => some n
 | _ => none
def winOf (m : Mem) (e : TypeId) (t : Ty) : C1 → Option (Nat × Nat × Nat × List t.den)
 | .row id => match m id with
   | .row e' u xs => if e' = e then (castTy u t xs).map (fun xs => (id, 0, xs.length, xs)) else none
   | _ => none
 | .win id sz lo len => match m id with
   | .row e' u xs => if e' = e ∧ sz = t.n ∧ lo + len ≤ xs.length then (castTy u t xs).map (fun xs => (id, lo, len, xs)) else none
   | _ => none
 | _ => none
def clearE (e : TypeId) (t : Ty) (m : Mem) (d : C1) : Eff :=
 match winOf m e t d with
 | some (id, lo, len, xs) => ⟨True, .one .undef, [(id, .row e t (xs.take lo ++ (List.replicate len t.dflt ++ xs.drop (lo + len))))], True⟩
 | none => bad
def sealG (fr id : Nat) (e : TypeId) (t : Ty) (p fid : Nat) (xs : List t.den) : Blk → Eff
 | .fam _ u xss => if slAt t = some (p, u) then ⟨True, .one (.row fr), [(fid, .dead), (id, .dead), (fr, .row e t (putSls u t xs xss))], True⟩ else bad
 | _ => bad
def lendG (fr id : Nat) (i : Int) (e : TypeId) (t : Ty) (p fid : Nat) (xs : List t.den) : Blk → Eff
 | .fam e2 u xss => ⟨0 ≤ i ∧ i < xs.length, .one (.row fr), [(fid, .dead), (id, .rowg e t p (fr + 1) xs (some i.toNat)), (fr + 1, .fam e2 u (xss.set i.toNat [])), (fr, .row e2 u (xss.getD i.toNat []))], True⟩
 | _ => bad
def peekG (fr : Nat) (i : Int) (n : Nat) : Blk → Eff
 | .fam _ _ xss => ⟨0 ≤ i ∧ i < n, .one (.row fr), [(fr, .lenb (xss.getD i.toNat []).length)], True⟩
 | _ => bad
def viewG (fid : Nat) (i : Int) (n : Nat) : Blk → Eff
 | .fam _ _ _ => ⟨0 ≤ i ∧ i < n, .one (.nst fid i.toNat), [], True⟩
 | _ => bad
def sealHs : List Nat → Mem → Option Heap
 | [], _ => some []
 | id :: r, m => match m id with
   | .rowg e t p fid xs none => (match m fid with
     | .fam _ u xss => if slAt t = some (p, u) then (sealHs r (updM m [(fid, .dead), (id, .row e t (putSls u t xs xss))])).map (fun l => (fid, .dead) :: (id, .row e t (putSls u t xs xss)) :: l) else none
     | _ => none)
   | _ => sealHs r m
def loadS (m : Mem) (ti : TI) (off : Nat) : Blk → Eff
 | .cells _ cs => if 0 < ti.size ∧ off + ti.size ≤ cs.length then (match sealHs (rowsOf ((cs.drop off).take ti.size)) m with
   | some u => ⟨True, avOf ti.agg ((cs.drop off).take ti.size), u, True⟩
   | none => bad) else bad
 | _ => bad
def loadG (m : Mem) (ti : TI) (md fr : Nat) : C1 → Eff
 | .loc id off => if md = 11 then loadS m ti off (m id) else bad
 | .ep id sz i off => (match m id with
   | .rowg e t p fid xs none => if sz = t.n ∧ off = p ∧ ti.size = 1 ∧ ti.agg = false then (if md = 3 then peekG fr i xs.length (m fid) else if md = 5 then lendG fr id i e t p fid xs (m fid) else if md = 10 then viewG fid i xs.length (m fid) else bad) else bad
   | _ => bad)
 | _ => bad
def backG (fr id r : Nat) (i : Int) (e : TypeId) (t : Ty) (p fid : Nat) (xs : List t.den) (j : Nat) : Blk → Blk → Eff
 | .fam e2 u xss, .row e' u' zs0 => (match castTy u' u zs0 with
   | some zs => if e' = e2 then ⟨i = (j : Int) ∧ j < xs.length, .one .undef, [(fid, .dead), (r, .dead), (id, .rowg e t p fr xs none), (fr, .fam e2 u (xss.set j zs))], True⟩ else bad
   | none => bad)
 | _, _ => bad
def putG (m : Mem) (ti : TI) (cs : List C1) (id sz : Nat) (i : Int) (off : Nat) (e : TypeId) (t : Ty) (p fid : Nat) (xs : List t.den) : Eff :=
 if 0 < ti.size ∧ cs.length = ti.size ∧ off + ti.size ≤ t.n ∧ sz = t.n ∧ (p < off ∨ off + ti.size ≤ p) ∧ rowsOf cs = [] ∧ cs.all known = true then
  (match impl m t (overC (expl t (xs.getD i.toNat t.dflt)) off cs) with
  | some x => ⟨0 ≤ i ∧ i < xs.length, .one .undef, [(id, .rowg e t p fid (xs.set i.toNat x) none)], True⟩
  | none => bad) else bad
def storeG (m : Mem) (ti : TI) (fr : Nat) (id sz : Nat) (i : Int) (off : Nat) (v : AV) : Blk → Eff
 | .rowg e t p fid xs (some j) => (match v with
   | .one (.row r) => if sz = t.n ∧ off = p ∧ ti.size = 1 then backG fr id r i e t p fid xs j (m fid) (m r) else bad
   | _ => bad)
 | .rowg e t p fid xs none => (match v with
   | .one (.row r) => if sz = t.n ∧ off = p ∧ ti.size = 1 then backG fr id r i e t p fid xs i.toNat (m fid) (m r) else bad
   | v => putG m ti v.cells id sz i off e t p fid xs)
 | _ => bad
def storeN (m : Mem) (ti : TI) (v : AV) (fid i sz : Nat) (k : Int) (off : Nat) : Blk → Eff
 | .fam e u xss => if 0 < ti.size ∧ v.cells.length = ti.size ∧ off + ti.size ≤ u.n ∧ sz = u.n ∧ rowsOf v.cells = [] ∧ v.cells.all known = true then
    (match impl m u (overC (expl u ((xss.getD i []).getD k.toNat u.dflt)) off v.cells) with
    | some x => ⟨0 ≤ k ∧ k < (xss.getD i []).length, .one .undef, [(fid, .fam e u (xss.set i ((xss.getD i []).set k.toNat x)))], True⟩
    | none => bad) else bad
 | _ => bad
def isG : Blk → Bool
 | .rowg .. => true
 | _ => false
def storeX (m : Mem) (ti : TI) (fr : Nat) (v : AV) : C1 → Eff
 | .nep fid i sz k off => storeN m ti v fid i sz k off (m fid)
 | .ep id sz i off => if isG (m id) = true then storeG m ti fr id sz i off v (m id) else storeE m ti v (.ep id sz i off)
 | x => storeE m ti v x
def nilG (e2 fr : Nat) (e : TypeId) (t : Ty) : Option (Nat × Ty) → Eff
 | some r => ⟨True, .one (.row fr), [(fr + 1, .fam e2 r.2 []), (fr, .rowg e t r.1 (fr + 1) [] none)], True⟩
 | none => bad
def storeU : AV → C1 → Eff
 | .agg [], .loc _ _ => okr (.one .undef)
 | _, _ => bad
def buildU : List AV → Eff
 | [] => okr (.agg [])
 | _ :: _ => bad
def mkZeroG (e2 : Nat) : List Z → Nat → List C1 × Heap
 | [], _ => ([], [])
 | .c c :: zs, fr => let r := mkZeroG e2 zs fr; (c :: r.1, r.2)
 | .s e t :: zs, fr => match slAt t with
   | some q => let r := mkZeroG e2 zs (fr + 2); (.row fr :: r.1, (fr + 1, .fam e2 q.2 []) :: (fr, .rowg e t q.1 (fr + 1) [] none) :: r.2)
   | none => let r := mkZeroG e2 zs (fr + 2); (.row fr :: r.1, (fr, .row e t []) :: r.2)
def allocGS (e2 fr : Nat) (t : TypeId) (z : List Z) : Eff :=
 if z = [] ∨ 15 < z.length then bad else ⟨True, .one (.loc fr 0), (mkZeroG e2 z (fr + 1)).2 ++ [(fr, .cells t (mkZeroG e2 z (fr + 1)).1)], True⟩
def makeSG (e2 fr : Nat) (e : TypeId) (bytes : Nat) (n c : Int) : Ty → Eff
 | .sl v => ⟨0 ≤ n ∧ n ≤ c ∧ c * bytes ≤ 140737488355328, .one (.row fr), [(fr + 1, .fam e2 v (List.replicate n.toNat [])), (fr, .rowg e (.sl v) 0 (fr + 1) (List.replicate n.toNat []) none)], True⟩
 | _ => bad
def allocG (e2 fr : Nat) (t : TypeId) (n : Nat) : Ty → Eff
 | .sl v => ⟨True, .one (.ep fr 1 0 0), [(fr + 1, .fam e2 v (List.replicate n [])), (fr, .rowg t (.sl v) 0 (fr + 1) (List.replicate n []) none)], True⟩
 | _ => bad
def oneG (m : Mem) (fr : Nat) (e : TypeId) (t : Ty) (p e2 : Nat) (u : Ty) (cs : List C1) : C1 → Eff
 | .nilsl => (match impl m t cs with
   | some x => ⟨True, .one (.row fr), [(fr + 1, .fam e2 u [[]]), (fr, .rowg e t p (fr + 1) [x] none)], True⟩
   | none => bad)
 | .row r => (match m r with
   | .row e' u' ys => (match impl m t (cs.set p .nilsl), castTy u' u ys with
     | some x, some ys => if e' = e2 then ⟨True, .one (.row fr), [(r, .dead), (fr + 1, .fam e2 u [ys]), (fr, .rowg e t p (fr + 1) [x] none)], True⟩ else bad
     | _, _ => bad)
   | _ => bad)
 | _ => bad
def bsG (T : Tab) (md fr : Nat) (e : TypeId) (m : Mem) (v : AV) : Eff :=
 match (TI.of T e).ty with
 | some t => (match slAt t with
   | some (p, u) => if v.cells.length = (TI.of T e).size ∧ v.cells.all known = true ∧ rowsOf (v.cells.set p .nilsl) = [] then oneG m fr e t p (md - 8) u v.cells (v.cells.getD p .undef) else bad
   | none => bad)
 | none => bad
def catG (T : Tab) (fr id2 : Nat) (e : TypeId) (t : Ty) (p fid2 : Nat) (ys : List t.den) (b2 : Blk) (m : Mem) : C1 → Eff
 | .row id => (match m id with
   | .rowg e' t' p' fid xs none => (match m fid, b2 with
     | .fam e2 u xss, .fam e3 u3 yss => if h : e' = e ∧ t' = t ∧ p' = p ∧ e3 = e2 ∧ u3 = u ∧ id ≠ id2 ∧ fid ≠ fid2 then
        ⟨0 < ys.length ∧ (xs.length + ys.length) * (TI.of T e).bytes ≤ 140737488355328, .one (.row fr), [(id2, .dead), (fid2, .dead), (id, .dead), (fid, .dead), (fr + 1, .fam e2 u (xss ++ (h.2.2.2.2.1 ▸ yss))), (fr, .rowg e t p (fr + 1) ((h.2.1 ▸ xs) ++ ys) none)], True⟩ else bad
     | _, _ => bad)
   | _ => bad)
 | _ => bad
def appG (T : Tab) (st : TypeId) (m : Mem) (fr : Nat) (b : C1) (id2 : Nat) : Blk → Eff
 | .rowg e t p fid2 ys none => (match (TI.of T st).desc with
   | .slice e' => if e' = e ∧ (TI.of T e).ty = some t then catG T fr id2 e t p fid2 ys (m fid2) m b else bad
   | _ => bad)
 | _ => bad
def appX (T : Tab) (st : TypeId) (m : Mem) (fr : Nat) (b x : C1) : Eff :=
 match x with
 | .row id2 => if isG (m id2) = true then appG T st m fr b id2 (m id2) else appE T st m fr b x
 | x => appE T st m fr b x
def builtinE (T : Tab) (b : Builtin) (ts : Array TypeId) (avs : List AV) (m : Mem) (fr : Nat) : Eff :=
 match b with
 | .len => match avs with
   | [.one x] => match ts.toList with
     | [t] => (match (TI.of T t).desc, x with
       | .str, .str s => ⟨True, .one (.int .i64 s.size), [], s.size ≤ maxLen⟩
       | .slice _, x => (match lenOf m x with
         | some n => ⟨True, .one (.int .i64 n), [], n ≤ maxLen⟩
         | none => bad)
       | _, _ => bad)
     | _ => bad
   | _ => bad
 | .append => match avs with
   | [.one b, .one x] => if ts = #[ts.getD 0 0, ts.getD 0 0] then appX T (ts.getD 0 0) m fr b x else bad
   | _ => bad
 | .min => match avs with
   | [.one (.int k a), .one (.int k' b)] => if k = k' then okr (.one (.int k (if b < a then b else a))) else bad
   | _ => bad
 | .max => match avs with
   | [.one (.int k a), .one (.int k' b)] => if k = k' then okr (.one (.int k (if b > a then b else a))) else bad
   | _ => bad
 | .copy => bad
 | .clear => match avs with
   | [.one d] => (match ts.toList with
     | [t] => (match (TI.of T t).desc with
       | .slice e => (match (TI.of T e).ty with
         | some u => if (TI.of T e).zt = true then clearE e u m d else bad
         | none => bad)
       | _ => bad)
     | _ => bad)
   | _ => bad
 | _ => bad
def seqIdx (idx : List Nat) (len sz n : Nat) : Bool := decide (idx = List.range len ∧ len * sz ≤ 16777216 ∧ n = len)
def buildParts (T : Tab) (e : TypeId) (t : Ty) (m : Mem) (avs : List AV) : Option (List t.den) :=
 seqO (avs.map fun v => if v.cells.length = (TI.of T e).size ∧ v.cells.all known = true then impl m t v.cells else none)
def nilC : Operand → Bool
 | .const (.slice none 0 0) => true
 | _ => false
def onesOf : List AV → Option (List C1)
 | [] => some []
 | .one c :: r => (match onesOf r with | some cs => some (c :: cs) | none => none)
 | .agg c :: r => (match onesOf r with | some cs => some (.pk c :: cs) | none => none)
 | _ :: _ => none
def capA : C1 → AV
 | .pk cs => .agg cs
 | c => .one c
def byteAt (q : ByteArray) (i : Int) : Int := ((q[i.toNat]?).getD 0).toNat
def pickV : AV → Option (Bool × Bool)
 | .one (.bool b) => some (true, b)
 | .ifd c (.one (.bool b)) => some (c, b)
 | _ => none
def pickE : Option (Bool × Bool) → Option (Bool × Bool) → Option (Bool × Bool) → Eff
 | some (ce, e), some (cx, x), some (cy, y) => ⟨ce = true ∧ (e = true → cx = true) ∧ (e = false → cy = true), .one (.bool (if e then x else y)), [], True⟩
 | _, _, _ => bad
def wfOf (G : Env) : Option Nat → Nat
 | some d => getL 0 G.wf d
 | none => 0
def sealE (m : Mem) (id : Nat) : Eff :=
 match m id with
 | .mapg kt ka fid ks none => (match m fid with
   | .fam _ u xss => ⟨True, .one (.map id), [(fid, .dead), (id, .mapb kt (.sl u) ka false (ks.zip xss))], True⟩
   | _ => bad)
 | _ => bad
def kadd {kt : Ty} {β : Type} (l : List (kt.den × β)) (k : kt.den) (z : β) : List (kt.den × β) := if kidx k (l.map Prod.fst) < l.length then l else l ++ [(k, z)]
def mvE (m : Mem) (fr : Nat) : AV → Eff
 | .one (.row id) => (match m id with
   | .row e u xs => ⟨True, .one (.row fr), [(id, .dead), (fr, .row e u xs)], True⟩
   | .rowg e t p fid xs none => sealG fr id e t p fid xs (m fid)
   | _ => bad)
 | .one (.map id) => sealE m id
 | _ => bad
def strOf (ys : List Int) : ByteArray := ys.foldl (fun r n => r.push (UInt8.ofNat n.toNat)) ByteArray.empty
def strE (T : Tab) (m : Mem) (s t : TI) (c : C1) : Eff :=
 match s.desc, t.desc with
 | .slice e, .str => (match (TI.of T e).desc, (TI.of T e).ty with
   | .int, some (.int .u8) => (match view m (.int .u8) c with
     | some ys => ⟨True, .one (.str (strOf ys)), [], True⟩
     | none => bad)
   | _, _ => bad)
 | _, _ => bad
def wrapE (op : BinOp) (k k' : IntKind) (a b : Int) : Eff :=
 match op with
 | .add => if k = k' then okr (.one (.int k (k.wrap (a + b)))) else bad
 | .sub => if k = k' then okr (.one (.int k (k.wrap (a - b)))) else bad
 | _ => bad
def fullE (m : Mem) : AV → Eff
 | .one (.row id) => (match m id with
   | .row _ u xs => ⟨True, .one (.win id u.n 0 xs.length), [], True⟩
   | _ => bad)
 | x => okr x
def nilRE (T : Tab) (ty : TypeId) (fr : Nat) : AV → Eff
 | .one .nilsl => (match (TI.of T ty).desc with
   | .slice e => (match (TI.of T e).ty with
     | some t => ⟨True, .one (.row fr), [(fr, .row e t [])], True⟩
     | none => bad)
   | _ => bad)
 | x => okr x
def allocZ (t : TypeId) (fr : Nat) (z : List Z) : Eff :=
 if z = [] ∨ 31 < z.length then bad else ⟨True, .one (.loc fr 0), (mkZero z (fr + 1)).2 ++ [(fr, .cells t (mkZero z (fr + 1)).1)], True⟩
def arrFs (n k : Nat) : List (Nat × Nat × Bool) := (List.range n).map fun i => (i * k, k, true)
def buildA (n k : Nat) (fr : Nat) (ti : TI) (ps : List (Nat × AV)) : Eff :=
 if ti.zero = [] ∨ 32 < ti.zero.length then bad else match fillC (arrFs n k) (mkZero ti.zero fr).1 ps with
  | some cs => ⟨True, .agg cs, (mkZero ti.zero fr).2, True⟩
  | none => bad
def locA (n k : Nat) (id off : Nat) (i : Int) : Eff :=
 if 0 ≤ i ∧ i < n then okr (.one (.loc id (off + i.toNat * k))) else bad
def opEff (T : Tab) (G : Env) (o : Oper) (avs : List AV) (m : Mem) (fr : Nat) : Eff :=
 match o.op with
 | .move _ => match avs with | [x] => (match wfOf G o.dst with | 0 => okr x | _ + 1 => mvE m fr x) | _ => bad
 | .assign x => if nilC x = true then (match (TI.of T o.type).desc with
    | .slice e => (match (TI.of T e).ty with
      | some t => if 8 ≤ wfOf G o.dst then nilG (wfOf G o.dst - 8) fr e t (slAt t) else ⟨True, .one (.row fr), [(fr, .row e t [])], True⟩
      | none => bad)
    | _ => bad) else match avs with | [x] => if wfOf G o.dst = 1 then fullE m x else if wfOf G o.dst = 2 then nilRE T o.type fr x else okr x | _ => bad
 | .pick _ _ _ => match avs with
   | [e, x, y] => pickE (pickV e) (pickV x) (pickV y)
   | _ => bad
 | .binOp op t _ _ _ => match avs with
   | [.one (.bool a), .one (.bool b)] => (match (TI.of T t).desc with
     | .bool => binE op (.bool a) (.bool b)
     | _ => bad)
   | [.one (.int k a), .one (.int k' b)] => if wfOf G o.dst = 6 then wrapE op k k' a b else (match op with
     | .shr => ⟨0 ≤ a ∧ 0 ≤ b ∧ b < 32, .one (.int k (a / 2 ^ b.toNat)), [], True⟩
     | _ => binE op (.int k a) (.int k' b))
   | [.one (.str a), .one (.str b)] => binE op (.str a) (.str b)
   | [.one (.ep _ _ _ _), .one .nilp] => ptrNil op false (TI.of T t).desc
   | [.one .nilp, .one .nilp] => ptrNil op true (TI.of T t).desc
   | [.agg xs, .agg ys] => if (TI.of T t).eqn = [] ∨ (TI.of T t).agg = false then bad else (match op, eqCells (TI.of T t).eqn xs ys with
     | .eql, some q => okr (.one (.bool q))
     | .neq, some q => okr (.one (.bool (!q)))
     | _, _ => bad)
   | _ => bad
 | .unOp .not _ _ => match avs with
   | [.one (.bool b)] => okr (.one (.bool (!b)))
   | _ => bad
 | .unOp .neg _ _ => match avs with
   | [.one (.int k n)] => ⟨InR k (-n), .one (.int k (-n)), [], True⟩
   | _ => bad
 | .convert s t _ => match avs with
   | [.one (.int k n)] => (match (TI.of T s).desc, (TI.of T s).ty, (TI.of T t).desc, (TI.of T t).ty with
     | .int, some (.int k1), .int, some (.int k2) => if k1 = k then ⟨InR k2 n, .one (.int k2 n), [], True⟩ else bad
     | _, _, _, _ => bad)
   | [.one c] => strE T m (TI.of T s) (TI.of T t) c
   | _ => bad
 | .alloc t => if isU (TI.of T t) = true then ⟨True, .one (.loc fr 0), [(fr, .cells t [])], True⟩ else (match (TI.of T t).desc with
   | .array n _ u => if 8 ≤ wfOf G o.dst then allocG (wfOf G o.dst - 8) fr t n u else if wfOf G o.dst = 2 then allocZ t fr (TI.of T t).zero else ⟨True, .one (.ep fr u.n 0 0), [(fr, .row t u (List.replicate n u.dflt))], True⟩
   | _ => if 8 ≤ wfOf G o.dst then allocGS (wfOf G o.dst - 8) fr t (TI.of T t).zero else let z := mkZero (TI.of T t).zero (fr + 1)
     if (TI.of T t).zero = [] ∨ 31 < (TI.of T t).zero.length then bad else ⟨True, .one (.loc fr 0), z.2 ++ [(fr, .cells t z.1)], True⟩)
 | .box t _ => match avs with
   | [v] => if v.cells.length = (TI.of T t).size ∧ 0 < (TI.of T t).size ∧ v.cells.all known = true then ⟨True, .one (.loc fr 0), [(fr, .cells t v.cells)], True⟩ else bad
   | _ => bad
 | .load t _ => match avs with
   | [.one x] => (match wfOf G o.dst with | 0 => loadX G.gl m (TI.of T t) x | k + 1 => loadG m (TI.of T t) (k + 1) fr x)
   | _ => bad
 | .store t _ _ => match avs with
   | [.one x, v] => if isU (TI.of T t) = true then storeU v x else storeX m (TI.of T t) fr v x
   | _ => bad
 | .nilCheck _ => match avs with
   | [.one (.loc id off)] => okr (.one (.loc id off))
   | [.one (.rp t x off)] => okr (.one (.rp t x off))
   | [.one (.sp cs off)] => okr (.one (.sp cs off))
   | [.one (.ep id z i off)] => okr (.one (.ep id z i off))
   | _ => bad
 | .build t parts => if isU (TI.of T t) = true then buildU avs else match (TI.of T t).desc with
   | .struct fs => let z := mkZero (TI.of T t).zero fr
     if (TI.of T t).zero = [] ∨ 32 < (TI.of T t).zero.length then bad else match fillC fs z.1 ((parts.toList.map (·.1)).zip avs) with
     | some cs => ⟨True, .agg cs, z.2, True⟩
     | none => bad
   | .array n e u => if (TI.of T e).ty = some u then buildA n u.n fr (TI.of T t) ((parts.toList.map (·.1)).zip avs) else bad
   | _ => bad
 | .buildSlice t len parts => match (TI.of T t).desc with
   | .slice e => if wfOf G o.dst = 7 then bad else if 8 ≤ wfOf G o.dst then (match avs with
     | [v] => if seqIdx (parts.toList.map (·.1)) len (TI.of T e).size avs.length = true then bsG T (wfOf G o.dst) fr e m v else bad
     | _ => bad) else match (TI.of T e).ty with
     | some u => match buildParts T e u m avs with
       | some xs => (match seqIdx (parts.toList.map (·.1)) len (TI.of T e).size avs.length with
         | true => ⟨True, .one (.row fr), (avs.flatMap fun v => (rowsOf v.cells).map (settle m)) ++ [(fr, .row e u xs)], True⟩
         | false => bad)
       | none => bad
     | none => bad
   | _ => bad
 | .fieldAddr s _ f => match (TI.of T s).desc, avs with
   | .struct fs, [.one x] => fieldE fs f x
   | _, _ => bad
 | .field s _ f => match (TI.of T s).desc, avs with
   | .struct fs, [.agg cs] => (match fs[f]? with
     | some (off, sz, ag) => if off + sz ≤ cs.length then okr (avOf ag ((cs.drop off).take sz)) else bad
     | none => bad)
   | _, _ => bad
 | .indexAddr t _ _ => match (TI.of T t).desc, avs with
   | .slice e, [.one x, .one (.int _ i)] => indexE T e m i x
   | .array n e u, [.one (.ep id sz i0 off), .one (.int _ i)] => if i0 = 0 ∧ off = 0 ∧ sz = u.n ∧ (TI.of T e).ty = some u then ⟨0 ≤ i ∧ i < n, .one (.ep id u.n i 0), [], 0 ≤ i ∧ i < n⟩ else bad
   | .array n e u, [.one (.loc id off), .one (.int _ i)] => if (TI.of T e).ty = some u then locA n u.n id off i else bad
   | .array n e u, [.one (.glob g), .one (.int _ i)] => glE T n e u i (findL G.gl g)
   | _, _ => bad
 | .index t _ _ => match (TI.of T t).desc, avs with
   | .str, [.one (.str q), .one (.int _ i)] => ⟨0 ≤ i ∧ i < q.size, .one (.int .u8 (byteAt q i)), [], True⟩
   | _, _ => bad
 | .slice t _ lo hi mx => match (TI.of T t).desc, avs with
   | .slice e, .one x :: rest => (match (TI.of T e).ty with
     | some u => (match wfOf G o.dst with
       | k + 1 => (match lo, hi, mx, rest with
         | none, none, none, [] => winE m u fr x none none (k + 1)
         | some _, none, none, [a] => (match intOf? a with | some a => winE m u fr x (some a) none (k + 1) | none => bad)
         | none, some _, none, [b] => (match intOf? b with | some b => winE m u fr x none (some b) (k + 1) | none => bad)
         | some _, some _, none, [a, b] => (match intOf? a, intOf? b with | some a, some b => winE m u fr x (some a) (some b) (k + 1) | _, _ => bad)
         | _, _, _, _ => bad)
       | 0 => match lo, hi, mx, rest with
       | none, none, none, [] => sliceE m u x none none none
       | some _, none, none, [a] => (match intOf? a with | some a => sliceE m u x (some a) none none | none => bad)
       | none, some _, none, [b] => (match intOf? b with | some b => sliceE m u x none (some b) none | none => bad)
       | some _, some _, none, [a, b] => (match intOf? a, intOf? b with | some a, some b => sliceE m u x (some a) (some b) none | _, _ => bad)
       | none, some _, some _, [b, c] => (match intOf? b, intOf? c with | some b, some c => sliceE m u x none (some b) (some c) | _, _ => bad)
       | some _, some _, some _, [a, b, c] => (match intOf? a, intOf? b, intOf? c with | some a, some b, some c => sliceE m u x (some a) (some b) (some c) | _, _, _ => bad)
       | _, _, _, _ => bad)
     | none => bad)
   | .str, [.one x, .one (.int .i64 l), .one (.int .i64 h)] => (match wfOf G o.dst, lo, hi, mx with | 0, some _, some _, none => strSl x (some l) (some h) none | _, _, _, _ => bad)
   | _, _ => bad
 | .extract _ i => match avs with
   | [.tup vs] => match vs[i]? with | some v => okr v | none => bad
   | _ => bad
 | .makeFunc (.func f) first cap => match first.toList, onesOf avs with
   | [], some cs => okr (.one (.fn f cs))
   | _ :: _, some cs => if cap.toList.length = 0 then okr (.one (.mv f cs)) else bad
   | _, _ => bad
 | .makeSlice t _ _ => match (TI.of T t).desc, avs with
   | .slice e, [.one (.int .i64 n), .one (.int .i64 c)] => (match (TI.of T e).ty with
     | some u => if (TI.of T e).zt = true then (if 8 ≤ wfOf G o.dst then makeSG (wfOf G o.dst - 8) fr e (TI.of T e).bytes n c u else ⟨0 ≤ n ∧ n ≤ c ∧ c * (TI.of T e).bytes ≤ 140737488355328, .one (.row fr), [(fr, .row e u (List.replicate n.toNat u.dflt))], True⟩) else bad
     | none => bad)
   | _, _ => bad
 | .makeMap t r => match (TI.of T t).desc with
   | .map k e => if wfOf G o.dst = 3 then bad else (match (TI.of T k).ty, (TI.of T e).vt with
     | some kt, some vt => if r.isSome = false ∧ kindsOf kt = some (TI.of T k).eqn ∧ (TI.of T k).eqn ≠ [] then ⟨True, .one (.map fr), [(fr, .mapb kt vt (TI.of T k).agg (TI.of T e).agg [])], True⟩ else bad
     | _, _ => bad)
   | _ => bad
 | .mapUpdate t _ _ _ => match (TI.of T t).desc, avs with
   | .map kT eT, [.one (.map id), k, v] => (match m id with
     | .mapb kt vt ka va l => (match impl m kt k.cells, impl m vt v.cells with
       | some k', some x => if (TI.of T kT).ty = some kt ∧ (TI.of T eT).vt = some vt ∧ kindsOf kt = some (TI.of T kT).eqn ∧ (TI.of T kT).eqn ≠ [] ∧ k.cells.all known = true ∧ v.cells.all known = true ∧ rowsOf k.cells = [] ∧ k.ag = ka ∧ v.ag = va ∧ ka = (TI.of T kT).agg ∧ avA v = true then
          ⟨True, .one .undef, (rowsOf v.cells).map (settle m) ++ [(id, .mapb kt vt ka va (mset l k' x))], True⟩ else bad
       | _, _ => bad)
     | _ => bad)
   | _, _ => bad
 | .lookup t _ _ ok => match (TI.of T t).desc, avs with
   | .map kT eT, [.one (.map id), k] => if wfOf G o.dst = 3 then bad else (match m id with
     | .mapb kt vt ka va l => (match impl m kt k.cells with
       | some k' => if (TI.of T kT).ty = some kt ∧ (TI.of T eT).vt = some vt ∧ kindsOf kt = some (TI.of T kT).eqn ∧ (TI.of T kT).eqn ≠ [] ∧ k.cells.all known = true ∧ rowsOf k.cells = [] ∧ (TI.of T eT).vz = true ∧ k.ag = ka ∧ va = (TI.of T eT).agg ∧ ka = (TI.of T kT).agg then
          ⟨True, (if ok then .tup [avOf (TI.of T eT).agg (expl vt ((mget l k').getD vt.dflt)), .one (.bool (mget l k').isSome)] else avOf (TI.of T eT).agg (expl vt ((mget l k').getD vt.dflt))), [], Wf vt ((mget l k').getD vt.dflt)⟩ else bad
       | none => bad)
     | _ => bad)
   | _, _ => bad
 | .call c => match c.callee with
   | .builtin .append => if wfOf G o.dst = 9 then bad else builtinE T .append c.argTypes avs m fr
   | .builtin b => builtinE T b c.argTypes avs m fr
   | .value _ => match avs with
     | .one (.fn f caps) :: args => getL (fun _ _ _ => bad) G.d f (args ++ caps.map capA) m fr
     | .one (.mv f caps) :: args => getL (fun _ _ _ => bad) G.d f (caps.map capA ++ args) m fr
     | _ => bad
   | _ => bad
 | _ => bad
def callOps (c : Call) : List Operand := (match c.callee with | .value f => [f] | .invoke r _ => [r] | .builtin _ => []) ++ c.args.toList
def opsOf : Op → List Operand
 | .move x | .assign x | .box _ x | .load _ x | .nilCheck x | .unOp _ _ x | .convert _ _ x | .fieldAddr _ x _ | .field _ x _ | .extract x _ => [x]
 | .pick c a b => [c, a, b]
 | .build _ ps | .buildSlice _ _ ps => ps.toList.map (·.2)
 | .store _ a v | .binOp _ _ a v _ | .makeSlice _ a v | .indexAddr _ a v | .index _ a v | .lookup _ a v _ => [a, v]
 | .slice _ x l h mx => [x] ++ l.toList ++ h.toList ++ mx.toList
 | .mapUpdate _ mp k v => [mp, k, v]
 | .insert _ mp k v => [mp, k, v]
 | .mapEntry _ mp k => [mp, k]
 | .entryStore _ mp s v => [mp, s, v]
 | .makeFunc _ first captured => first.toList ++ captured.toList
 | .call c => callOps c
 | _ => []
def fineV1 : Value → Bool
 | .int k n => decide (k.min ≤ n ∧ n ≤ k.max)
 | .string s => decide (s.size ≤ 1048576)
 | .slice none l c => decide (l = 0 ∧ c = 0)
 | _ => true
def fineV : Value → Bool
 | .agg cs => cs.toList.all fineV1
 | v => fineV1 v
def fineX : Operand → Bool
 | .const v => fineV v
 | _ => true
def fineO (n : Nat) (o : Oper) : Bool :=
 (match o.dst with | some d => decide (d < n) | none => true) && (opsOf o.op).all fineX && (match o.op with | .select .. => false | .defer .. => false | _ => true)
def fineC (n : Nat) : Code → Bool
 | .region _ ops _ => ops.toList.all (fineO n)
 | .seq a b => fineC n a && fineC n b
 | .cond c a b => fineX c && fineC n a && fineC n b
 | .block _ a => fineC n a
 | .loop a => fineC n a
 | .scope a => fineC n a
 | .rangeFunc g ps a b => fineX g && ps.toList.all (fun p => decide (p < n)) && fineC n a && fineC n b
 | _ => true
def offO (ks : List Nat) (o : Oper) : Bool := match o.dst with | some d => !ks.contains d | none => true
def offC (ks : List Nat) : Code → Bool
 | .region _ ops _ => ops.toList.all (offO ks)
 | .seq a b => offC ks a && offC ks b
 | .cond _ a b => offC ks a && offC ks b
 | .block _ a => offC ks a
 | .loop a => offC ks a
 | .scope a => offC ks a
 | .skip | .ret | .exit _ | .label _ => true
 | _ => false
structure St where
 s : Slots
 m : Heap
 fr : Nat
def guardC (all : List Oper) (s : Nat → AV) (j : Nat) (b : Bool) : Bool :=
 match (all[j]?).bind (·.dst) with
 | some d => (match s d with
   | .one (.bool e) => e == b
   | .ifd c (.one (.bool e)) => c && (e == b)
   | _ => false)
 | none => false
def guardOk (all : List Oper) (s : Nat → AV) (j : Nat) : Prop :=
 match (all[j]?).bind (·.dst) with
 | some d => (match s d with
   | .one (.bool _) => True
   | .ifd _ (.one (.bool _)) => True
   | _ => False)
 | none => False
def stripV : AV → AV
 | .ifd _ v => v
 | v => v
def stripP (c : Bool) : AV → Prop
 | .ifd c' _ => c = true → c' = true
 | _ => True
def allP : List Prop → Prop
 | [] => True
 | p :: ps => p ∧ allP ps
def isPk : Op → Bool
 | .pick _ _ _ => true
 | _ => false
def noop (m : Mem) : Heap → Prop
 | [] => True
 | p :: u => m p.1 = p.2 ∧ noop m u
theorem rB1 {m : Mem} : ∀ {u : Heap}, noop m u → updM m u = updM m []
 | [], _ => rfl
 | (k, b) :: u, h => by
   have e : (fun i => if k = i then b else m i) = m := by
    funext i; by_cases q : k = i
    · subst q; rw [if_pos rfl]; exact h.1.symm
    · rw [if_neg q]
   show updM (fun i => if k = i then b else m i) u = updM m []; rw [e]; exact rB1 h.2
def dem (fr : Nat) (E : Eff) : Eff :=
 match E.u, E.r with
 | [(k, .row _ t xs)], .one (.row k') => if k = fr ∧ k' = fr then ⟨E.pre, .one (.sl t xs false), [], E.asm⟩ else E
 | _, _ => E
def gAvs : Bool → List AV → List AV
 | true, a => a
 | false, a => a.map stripV
def gPre (c : Bool) : Bool → List AV → Prop
 | true, _ => True
 | false, a => allP (a.map (stripP c))
def sget (s : Slots) : Nat → AV := getL (.one .undef) s
def stepE (T : Tab) (G : Env) (all : List Oper) (o : Oper) (s : Nat → AV) (m : Mem) (fr : Nat) : Eff :=
 match o.guard with
 | none => opEff T G o ((opsOf o.op).map (opd s)) m fr
 | some (j, b) =>
   let c := guardC all s j b
   let avs := (opsOf o.op).map (opd s)
   let E := dem fr (opEff T G o (gAvs (isPk o.op) avs) m fr)
   ⟨guardOk all s j ∧ gPre c (isPk o.op) avs ∧ (c = true → E.pre) ∧ (c = true → noop m E.u), .ifd c E.r, [], c = true → E.asm⟩
def putS (s : Slots) (dst : Option Nat) (v : AV) : Slots :=
 match dst with
 | some d => setL s d v
 | none => s
def nilChc (q : Bool) : Option Nat → Option Chc
 | some n => some ⟨Bool, True, fun b => .one (.bool b), fun _ => [], fun b => b = q → n = 0⟩
 | none => none
def altB (m : Mem) : BinOp → Operand → List AV → TD → Option Chc
 | .eql, .const (.slice none 0 0), [.one c, _], .slice _ => nilChc true (lenOf m c)
 | .neq, .const (.slice none 0 0), [.one c, _], .slice _ => nilChc false (lenOf m c)
 | _, _, _, _ => none
def altC (G : Env) (m : Mem) (fr : Nat) : List AV → Option Chc
 | .one (.fn f caps) :: args => match findL G.r f with | some C => some (C (args ++ caps.map capA) m fr) | none => none
 | _ => none
def altE (T : Tab) (G : Env) (op : Op) (avs : List AV) (m : Mem) (fr : Nat) : Option Chc :=
 match op with
 | .binOp o t _ y _ => altB m o y avs (TI.of T t).desc
 | .call c => (match c.callee with | .value _ => altC G m fr avs | _ => none)
 | _ => none
def noR (d : Nat) : List Operand → Bool
 | [] => true
 | .tmp t :: xs => decide (t ≠ d) && noR d xs
 | _ :: xs => noR d xs
def noRead (d : Nat) : List Oper → Bool
 | [] => true
 | o :: os => noR d (opsOf o.op) && noRead d os
def noDst (all : List Oper) : Option Nat → Bool
 | some d => noRead d all
 | none => true
def chkC (E : Eff) : Bool → Option Chc
 | true => some ⟨Unit, E.pre, fun _ => .one .undef, fun _ => [], fun _ => True⟩
 | false => none
def isSl : Op → Bool
 | .slice .. => true
 | _ => false
inductive Two where
 | n
 | y
def Two.b : Two → Bool
 | .n => false
 | .y => true
def Two.u : Two → Heap → Heap
 | .n, _ => []
 | .y, u => u
def Two.a : Two → Bool → Prop → Prop
 | .n, c, _ => c = false
 | .y, c, p => c = true ∧ p
def gdC (g : Prop) (c : Bool) (k : Bool) (avs : List AV) (E : Eff) : Chc :=
 ⟨Two, g ∧ gPre c k avs ∧ (c = true → E.pre), fun q => .ifd q.b E.r, fun q => q.u E.u, fun q => q.a c E.asm⟩
def queB (T : Tab) (e : TypeId) (t : Ty) (fr id sz lo len : Nat) (ys : List t.den) : Blk → Option Chc
 | .row e' u xs => (match castTy u t xs with
   | some xs => if e' = e ∧ sz = t.n then some ⟨Bool, (lo + len = xs.length ∧ 0 < ys.length) ∧ (len + ys.length) * (TI.of T e).bytes ≤ 140737488355328, fun b => .one (.win fr t.n (if b then lo else 0) (len + ys.length)), fun b => [(id, .dead), (fr, .row e t (if b then xs ++ ys else xs.drop lo ++ ys))], fun _ => True⟩ else none
   | none => none)
 | _ => none
def queX (md : Nat) (T : Tab) (G : Env) (op : Op) (avs : List AV) (m : Mem) (fr : Nat) : Option Chc :=
 match op with
 | .call c => (match c.callee with
   | .builtin _ => none
   | _ => altE T G (.call c) avs m fr)
 | op => altE T G op avs m fr
def altO (T : Tab) (G : Env) (all : List Oper) (o : Oper) (s : Nat → AV) (m : Mem) (fr : Nat) : Option Chc :=
 match o.guard with
 | none => if isSl o.op = true then chkC (opEff T G o ((opsOf o.op).map (opd s)) m fr) (noDst all o.dst) else queX (wfOf G o.dst) T G o.op ((opsOf o.op).map (opd s)) m fr
 | some (j, b) => if wfOf G o.dst = 4 then some (gdC (guardOk all s j) (guardC all s j b) (isPk o.op) ((opsOf o.op).map (opd s)) (opEff T G o (gAvs (isPk o.op) ((opsOf o.op).map (opd s))) m fr)) else none
def evOps (T : Tab) (G : Env) (all : List Oper) (base : Nat) : Nat → List Oper → Slots → Heap → (Slots → Heap → Prop) → Prop
 | _, [], s, m, K => K s m
 | i, o :: os, s, m, K => match altO T G all o (sget s) (mem m) (base + 32 * i) with
   | some C => C.pre ∧ ∀ a, C.asm a → evOps T G all base (i + 1) os (putS s o.dst (C.r a)) (setMany m (C.u a)) K
   | none =>
     let E := stepE T G all o (sget s) (mem m) (base + 32 * i)
     E.pre ∧ (E.asm → evOps T G all base (i + 1) os (putS s o.dst E.r) (setMany m E.u) K)
mutual
def idsC : C1 → List Nat
 | .nst fid _ => [fid]
 | .nep fid _ _ _ _ => [fid]
 | .row id | .map id => [id]
 | .win id _ _ _ => [id]
 | .loc id _ => [id]
 | .ep id _ _ _ => [id]
 | .cs id _ => [id]
 | .pk cs => idsCs cs
 | .sp cs _ => idsCs cs
 | .mv _ caps => idsCs caps
 | .fn _ caps => idsCs caps
 | _ => []
def idsCs : List C1 → List Nat
 | [] => []
 | c :: cs => idsC c ++ idsCs cs
end
mutual
def idsA : AV → List Nat
 | .one c => idsC c
 | .agg cs => idsCs cs
 | .tup vs => idsAs vs
 | .ifd _ v => idsA v
def idsAs : List AV → List Nat
 | [] => []
 | v :: vs => idsA v ++ idsAs vs
end
def idsB : Blk → List Nat
 | .cells _ cs => idsCs cs
 | .scell cs => idsCs cs
 | _ => []
def fidB : Blk → List Nat
 | .rowg _ _ _ fid _ _ => [fid]
 | .mapg _ _ fid _ _ => [fid]
 | _ => []
def touch (op : Op) (avs : List AV) (m : Mem) : List Nat :=
 let a := idsAs avs
 match op with
 | .call { callee := .value _, .. } => let b := a ++ a.flatMap fun id => idsB (m id); b ++ b.flatMap fun id => idsB (m id)
 | .call { callee := .builtin _, .. } => a ++ a.flatMap fun id => fidB (m id)
 | .move _ | .assign _ | .fieldAddr _ _ _ | .extract _ _ => []
 | .indexAddr _ _ _ => (match avs with
   | .one (.ep _ _ _ _) :: _ => []
   | _ => a)
 | .load _ _ | .store _ _ _ | .mapEntry _ _ _ | .entryStore _ _ _ _ | .lookup _ _ _ _ => a ++ a.flatMap fun id => fidB (m id)
 | _ => a
def touchM (m : Mem) : List AV → List Nat
 | [.one (.row id)] => id :: fidB (m id)
 | [.one (.map id)] => id :: fidB (m id)
 | _ => []
def isMv : Op → Bool
 | .move _ => true
 | _ => false
def touchX (G : Env) (o : Oper) (avs : List AV) (m : Mem) : List Nat := if isMv o.op = true ∧ wfOf G o.dst = 1 then touchM m avs else touch o.op avs m
def restr (S : List Nat) (m : Mem) : Mem := fun id => if S.contains id then m id else .dead
def keysOk (F : List Nat) (fr : Nat) (u : Heap) : Bool := u.all fun p => F.contains p.1 || (decide (fr ≤ p.1) && decide (p.1 < fr + 32))
def evD (T : Tab) (G : Env) (all : List Oper) (base : Nat) : Nat → List Oper → Slots → Heap → List (List Nat × List Nat) → (Slots → Heap → List (List Nat × List Nat) → Prop) → Prop
 | _, [], s, m, acc, K => K s m acc
 | i, o :: os, s, m, acc, K =>
   let F := touchX G o ((opsOf o.op).map (opd (sget s))) (mem m)
   let E := stepE T G all o (sget s) (restr F (mem m)) (base + 32 * i)
   E.pre ∧ keysOk F (base + 32 * i) E.u = true ∧ (E.asm → evD T G all base (i + 1) os (putS s o.dst E.r) (setMany m E.u) (acc ++ [(F, E.u.map (·.1))]) K)
def dirs (ops : List Oper) (j : Nat) : List Nat :=
 match ops[j]? with
 | some o => (o.after.toList.filter (Region.binds .any)).map (·.on)
 | none => []
def clos (ops : List Oper) : Nat → Nat → List Nat
 | 0, _ => []
 | f + 1, j => (dirs ops j ++ (dirs ops j).flatMap (clos ops f)).eraseDups
def fpOf (tb : List (List Nat × List Nat)) (i : Nat) : List Nat := (tb.getD i ([], [])).1
def kyOf (tb : List (List Nat × List Nat)) (i : Nat) : List Nat := (tb.getD i ([], [])).2
def disj (a b : List Nat) : Bool := a.all fun x => !b.contains x
def looks (ops : List Oper) (o : Oper) : List Nat :=
 ((opsOf o.op).filterMap fun | .tmp t => some t | _ => none) ++ (match o.guard with | some (g, _) => ((ops[g]?).bind (·.dst)).toList | none => [])
def apartO (ops : List Oper) (x y : Oper) : Bool :=
 (match x.dst with | some d => !(looks ops y).contains d && y.dst != some d | none => true) && (match y.dst with | some d => !(looks ops x).contains d | none => true)
def softB (tb : List (List Nat × List Nat)) (j : Nat) (x y : Oper) : Bool :=
 match x.guard, y.guard, x.op, y.op with
 | none, none, .lookup _ _ _ false, .mapEntry _ _ _ => decide ((kyOf tb j).length = 1)
 | _, _, _, _ => false
def apartB (ops : List Oper) (tb : List (List Nat × List Nat)) (i j : Nat) : Bool :=
 match ops[i]?, ops[j]? with
 | some x, some y => apartO ops x y && disj (kyOf tb i) (fpOf tb j) && (disj (kyOf tb j) (fpOf tb i) || softB tb j x y) && disj (kyOf tb i) (kyOf tb j)
 | _, _ => false
def drawOk (ops : List Oper) (tb : List (List Nat × List Nat)) : Bool :=
 (List.range ops.length).all fun i => (dirs ops i).all (fun e => decide (e < i)) &&
   (List.range ops.length).all fun j => decide (j ≤ i) || (clos ops 8 j).contains i || apartB ops tb i j
def keepL (ks : Nat) : Slots → Slots
 | [] => []
 | (k, v) :: l => if (ks >>> k) % 2 = 1 then (k, v) :: keepL ks l else keepL ks l
inductive Ex where | normal | ret | exit (id : Nat)
structure LSpec where
 X : Type
 fr : Nat
 s : X → Slots
 m : X → Heap
 mu : X → Nat
structure RSpec where
 X : List Nat → Type
 fr : Nat
 s : Slots
 m : (p : List Nat) → X p → Heap
def only : Slots → Slots → Slots
 | [], _ => []
 | (k, _) :: r, s => (k, sget s k) :: only r s
structure Mt where
 ok : Prop
 mp : List (Nat × Nat)
 vw : List Nat
def Mt.no : Mt := ⟨False, [], []⟩
def mpGet (pn : Nat) (mp : List (Nat × Nat)) (i : Nat) : Option Nat := if i < pn then some i else findL mp i
def bindId (pn fr' : Nat) (id id' : Nat) (t : Mt) : Mt :=
 match mpGet pn t.mp id' with
 | some j => if j = id then t else Mt.no
 | none => if pn ≤ id ∧ id' < fr' ∧ (t.mp.map (·.2)).contains id = false then ⟨t.ok, t.mp ++ [(id', id)], t.vw⟩ else Mt.no
mutual
def matchC (pn : Nat) (m : Mem) (fr' : Nat) : C1 → C1 → Mt → Mt
 | _, .undef, t => t
 | .int k a, .int k' b, t => if k = k' then ⟨a = b ∧ t.ok, t.mp, t.vw⟩ else Mt.no
 | .bool a, .bool b, t => ⟨a = b ∧ t.ok, t.mp, t.vw⟩
 | .str a, .str b, t => ⟨a = b ∧ t.ok, t.mp, t.vw⟩
 | .nilp, .nilp, t => t
 | .nilfn, .nilfn, t => t
 | .nilsl, .nilsl, t => t
 | .nilsl, .sl _ ys _, t => ⟨ys = [] ∧ t.ok, t.mp, t.vw⟩
 | .sl u xs cp, .sl v ys cp', t => ⟨castTy u v xs = some ys ∧ (cp' = true → cp = true) ∧ t.ok, t.mp, t.vw⟩
 | .row id, .sl v ys cp', t => ⟨view m v (.row id) = some ys ∧ cp' = false ∧ t.ok, t.mp, id :: t.vw⟩
 | .row id, .row id', t => bindId pn fr' id id' t
 | .win id sz lo len, .sl v ys cp', t => ⟨view m v (.win id sz lo len) = some ys ∧ cp' = false ∧ t.ok, t.mp, id :: t.vw⟩
 | .win id sz lo len, .win id' sz' lo' len', t => if sz = sz' then bindId pn fr' id id' ⟨(lo = lo' ∧ len = len') ∧ t.ok, t.mp, t.vw⟩ else Mt.no
 | .loc id off, .loc id' off', t => if off = off' then bindId pn fr' id id' t else Mt.no
 | .ep id sz i off, .ep id' sz' i' off', t => if sz = sz' ∧ off = off' then bindId pn fr' id id' ⟨i = i' ∧ t.ok, t.mp, t.vw⟩ else Mt.no
 | .map id, .map id', t => bindId pn fr' id id' t
 | .fn f cs, .fn g ds, t => if f = g then matchCs pn m fr' cs ds t else Mt.no
 | .glob g, .glob g', t => if g = g' then t else Mt.no
 | .cs id n, .cs id' n', t => if n = n' then bindId pn fr' id id' t else Mt.no
 | .pk cs, .pk ds, t => matchCs pn m fr' cs ds t
 | .sp cs off, .sp ds off', t => if off = off' then matchCs pn m fr' cs ds t else Mt.no
 | .mv f cs, .mv g ds, t => if f = g then matchCs pn m fr' cs ds t else Mt.no
 | _, _, _ => Mt.no
def matchCs (pn : Nat) (m : Mem) (fr' : Nat) : List C1 → List C1 → Mt → Mt
 | [], [], t => t
 | c :: cs, d :: ds, t => matchCs pn m fr' cs ds (matchC pn m fr' c d t)
 | _, _, _ => Mt.no
end
def matchA (pn : Nat) (m : Mem) (fr' : Nat) : AV → AV → Mt → Mt
 | .one c, .one d, t => matchC pn m fr' c d t
 | .agg cs, .agg ds, t => matchCs pn m fr' cs ds t
 | _, .one .undef, t => t
 | _, _, _ => Mt.no
def matchS (pn : Nat) (m : Mem) (fr' : Nat) (s : Slots) : Slots → Mt → Mt
 | [], t => t
 | (i, v) :: r, t => matchS pn m fr' s r (matchA pn m fr' (sget s i) v t)
def matchB (pn : Nat) (m : Mem) (fr' : Nat) : Blk → Blk → Mt → Mt
 | _, .dead, t => t
 | .cells e cs, .cells e' ds, t => if e = e' then matchCs pn m fr' cs ds t else Mt.no
 | .row e u xs, .row e' v ys, t => if e = e' then ⟨castTy u v xs = some ys ∧ t.ok, t.mp, t.vw⟩ else Mt.no
 | .fam e u xss, .fam e' v yss, t => if h : e = e' ∧ u = v then ⟨(h.2 ▸ xss) = yss ∧ t.ok, t.mp, t.vw⟩ else Mt.no
 | .mapg k ka fid ks none, .mapg k' ka' fid' ks' none, t => if h : k = k' ∧ ka = ka' then bindId pn fr' fid fid' ⟨(h.1 ▸ ks) = ks' ∧ t.ok, t.mp, t.vw⟩ else Mt.no
 | .rowg e u p fid xs none, .rowg e' v p' fid' ys none, t => if h : e = e' ∧ u = v ∧ p = p' then bindId pn fr' fid fid' ⟨(h.2.1 ▸ xs) = ys ∧ t.ok, t.mp, t.vw⟩ else Mt.no
 | .mapb k v ka va l, .mapb k' v' ka' va' l', t => if h : k = k' ∧ v = v' ∧ ka = ka' ∧ va = va' then ⟨(h.1 ▸ h.2.1 ▸ l) = l' ∧ t.ok, t.mp, t.vw⟩ else Mt.no
 | .scell cs, .scell ds, t => matchCs pn m fr' cs ds t
 | _, _, _ => Mt.no
def matchM (pn : Nat) (m : Mem) (fr' : Nat) : Heap → Mt → Mt
 | [], t => t
 | (id', b) :: r, t => match mpGet pn t.mp id' with
   | some id => matchM pn m fr' r (matchB pn m fr' (m id) b t)
   | none => Mt.no
def mOk (fr' : Nat) (t : Mt) : Prop := (32 ≤ fr' ∧ t.vw.all (fun i => decide (32 ≤ i) && !(t.mp.map (·.2)).contains i) = true) ∧ t.ok
def sealB (m : Mem) (id : Nat) : Blk → Blk → Mem
 | .rowg e t p fid xs none, .fam _ u xss => if slAt t = some (p, u) then updM m [(fid, .dead), (id, .row e t (putSls u t xs xss))] else m
 | _, _ => m
def fidOf : Blk → Nat
 | .rowg _ _ _ fid _ _ => fid
 | _ => 0
def sealM : List Nat → Mem → Mem
 | [], m => m
 | id :: r, m => sealM r (sealB m id (m id) (m (fidOf (m id))))
def ent (s : Slots) (m : Mem) (fr' : Nat) (s' : Slots) (m' : Heap) : Prop :=
 mOk fr' (matchM 32 m fr' m' (matchS 32 m fr' s s' ⟨True, [], []⟩))
def ev (T : Tab) (G : Env) (ks : Nat) : Code → St → (Ex → St → Prop) → Prop
 | .skip, st, K => K .normal st
 | .label _, st, K => K .normal st
 | .scope b, st, K => ev T G ks b st K
 | .ret, st, K => K .ret st
 | .exit id, st, K => K (.exit id) st
 | .region _ ops false, st, K => evOps T G ops.toList st.fr 0 ops.toList st.s st.m (fun s m => K .normal ⟨keepL ks s, m, st.fr + 32 * ops.size⟩)
 | .region _ ops true, st, K => evD T G ops.toList st.fr 0 ops.toList st.s st.m [] (fun s m tb => drawOk ops.toList tb = true ∧ K .normal ⟨keepL ks s, m, st.fr + 32 * ops.size⟩)
 | .seq a b, st, K => ev T G ks a st (fun e st => match e with | .normal => ev T G ks b st K | e => K e st)
 | .cond c a b, st, K => match opd (sget st.s) c with
   | .one (.bool e) => (e = true → ev T G ks a st K) ∧ (e = false → ev T G ks b st K)
   | _ => False
 | .block id b, st, K => ev T G ks b st (fun e st => match e with
   | .exit j => if j = id then K .normal st else K (.exit j) st
   | .normal => K .normal st
   | .ret => K .ret st)
 | .loop b, st, K => ∃ l : LSpec, (∃ gs x, ent st.s (sealM gs (mem st.m)) l.fr (l.s x) (l.m x)) ∧ ∀ x, ev T G ks b ⟨l.s x, l.m x, l.fr⟩ (fun e st' => match e with
    | .normal => ∃ y, ent st'.s (mem st'.m) l.fr (l.s y) (l.m y) ∧ l.mu y < l.mu x
    | .ret => K .ret st'
    | .exit j => K (.exit j) st')
 | _, _, _ => False
end Go.Ev
