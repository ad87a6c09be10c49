/- Part. -/
import Derived.Test.YtabadacjbkhmkaaGreatDoorEvFun4ToBox
import Derived.Test.YtabadacjbkhmkaaGreatDoorEvOps12ToFrame
import Derived.Test.YtabadacjbkhmkaaGreatDoorCnTab
set_option linter.all false
namespace Go.Ev
section
variable {cx : Cx} {σ : Nat → Value} {N : Nat → Prop} {m : Mem} {w : World} {fr : Nat} {P : Program}
def Cx.bare (cx : Cx) (w : World) : Cx := ⟨w, fun _ => False, fun _ => False, 0, fun _ => .int .i64 0, [], fun _ => none, cx.D, cx.gv⟩
theorem mC0 (h : RepM cx σ N m w) : GlOk (cx.bare w) := by
 intro g v hg; obtain ⟨h1, h2, h3, vs, e, hh, h4, h5⟩ := h.gl g v hg; exact ⟨fun h => h, fun h => h, Nat.lt_of_lt_of_le h3 h.evo.size, vs, e, hh, (h.evo.block g h3 h1).trans h4, fun w2 O hk => h5 w2 O fun b hb hF hM => by
  obtain ⟨f1, _⟩ := h.gl_far b hb hF hM; obtain ⟨g1, g2⟩ := hk b (Nat.lt_of_lt_of_le hb h.evo.size) (fun q => q) (fun q => q); exact ⟨g1.trans f1, g2⟩⟩
theorem rC3 (h : RepM cx σ N m w) : RepM (cx.bare w) σ N (fun _ => .dead) w where
 blk _ := trivial
 fresh _ _ := rfl
 inj _ _ _ h := by cases h
 notF _ _ h := by cases h
 low _ _ h := by cases h
 evo := ⟨rfl, rfl, rfl, fun _ => Nat.le_refl _, Nat.le_refl _, fun _ _ _ => rfl⟩
 hF _ h := h.elim
 hone := h.hone
 fix _ h := absurd h (Nat.not_lt_zero _)
 mks _ h := by cases h
 gl := mC0 h
theorem pB9 (h : RepM cx σ N m w) : Rx.Keeps (rx cx σ N m w) (rx (cx.bare w) σ N (fun _ => .dead) w) :=
 ⟨.ex fun b _ _ => ⟨fun h => h.elim id (fun ⟨_, h, _⟩ => by cases h), rfl⟩, fun _ _ => rfl, fun _ h => h⟩
end
end Go.Ev

namespace Go.Ev
def sealU (id : Nat) (e : TypeId) (t : Ty) (p fid : Nat) (xs : List t.den) : Blk → Option Heap
 | .fam e2 u xss => if slAt t = some (p, u) then some [(fid, .dead), (id, .row e t (putSls u t xs xss))] else none
 | _ => none
def sealOf (m : Mem) : List AV → Option Heap
 | .one (.row id) :: _ => (match m id with
   | .rowg e t p fid xs none => sealU id e t p fid xs (m fid)
   | _ => none)
 | _ => none
def Chc.addU (u : Heap) (C : Chc) : Chc := ⟨C.A, C.pre, C.r, fun a => u ++ C.u a, C.asm⟩
theorem Chc.addU_mk {u : Heap} {A : Type} {p : Prop} {r : A → AV} {v : A → Heap} {q : A → Prop} : Chc.addU u ⟨A, p, r, v, q⟩ = ⟨A, p, r, fun a => u ++ v a, q⟩ := rfl
def sealQ (C : RCtr) (avs : List AV) (m : Mem) (fr : Nat) : Option Heap → Chc
 | some u => Chc.addU u (C avs (updM m u) fr)
 | none => C avs m fr
def sealR (C : RCtr) : RCtr := fun avs m fr => sealQ C avs m fr (sealOf m avs)
theorem uC5 {m : Mem} {op : BinOp} {p : Option Addr} {avs : List AV} {d : TD} : altB m op (.const (.pointer p)) avs d = none := by cases op <;> rfl
attribute [go_sem] uC5 sealR sealOf sealU sealQ Chc.addU_mk
end Go.Ev

set_option maxRecDepth 100000
set_option maxHeartbeats 8000000
namespace Go.Proofs.YtabadacjbkhmkaaGreatDoor
open Go.Ev
theorem has7 : FnHas Tryz.prog 7 := ⟨⟨_, Tryz.func7, by kernel_rfl, by kernel_rfl⟩⟩
theorem has8 : FnHas Tryz.prog 8 := ⟨⟨_, Tryz.func8, by kernel_rfl, by kernel_rfl⟩⟩
theorem has9 : FnHas Tryz.prog 9 := ⟨⟨_, Tryz.func9, by kernel_rfl, by kernel_rfl⟩⟩
theorem has10 : FnHas Tryz.prog 10 := ⟨⟨_, Tryz.func10, by kernel_rfl, by kernel_rfl⟩⟩
theorem has11 : FnHas Tryz.prog 11 := ⟨⟨_, Tryz.func11, by kernel_rfl, by kernel_rfl⟩⟩
theorem has12 : FnHas Tryz.prog 12 := ⟨⟨_, Tryz.func12, by kernel_rfl, by kernel_rfl⟩⟩
theorem has13 : FnHas Tryz.prog 13 := ⟨⟨_, Tryz.func13, by kernel_rfl, by kernel_rfl⟩⟩
theorem has14 : FnHas Tryz.prog 14 := ⟨⟨_, Tryz.func14, by kernel_rfl, by kernel_rfl⟩⟩
theorem has15 : FnHas Tryz.prog 15 := ⟨⟨_, Tryz.func15, by kernel_rfl, by kernel_rfl⟩⟩
theorem has16 : FnHas Tryz.prog 16 := ⟨⟨_, Tryz.func16, by kernel_rfl, by kernel_rfl⟩⟩
theorem has18 : FnHas Tryz.prog 18 := ⟨⟨_, Tryz.func18, by kernel_rfl, by kernel_rfl⟩⟩
theorem has19 : FnHas Tryz.prog 19 := ⟨⟨_, Tryz.func19, by kernel_rfl, by kernel_rfl⟩⟩
theorem has20 : FnHas Tryz.prog 20 := ⟨⟨_, Tryz.func20, by kernel_rfl, by kernel_rfl⟩⟩
theorem has21 : FnHas Tryz.prog 21 := ⟨⟨_, Tryz.func21, by kernel_rfl, by kernel_rfl⟩⟩
theorem has22 : FnHas Tryz.prog 22 := ⟨⟨_, Tryz.func22, by kernel_rfl, by kernel_rfl⟩⟩
theorem has23 : FnHas Tryz.prog 23 := ⟨⟨_, Tryz.func23, by kernel_rfl, by kernel_rfl⟩⟩
theorem has25 : FnHas Tryz.prog 25 := ⟨⟨_, Tryz.func25, by kernel_rfl, by kernel_rfl⟩⟩
theorem has28 : FnHas Tryz.prog 28 := ⟨⟨_, Tryz.func28, by kernel_rfl, by kernel_rfl⟩⟩
theorem has29 : FnHas Tryz.prog 29 := ⟨⟨_, Tryz.func29, by kernel_rfl, by kernel_rfl⟩⟩
theorem has30 : FnHas Tryz.prog 30 := ⟨⟨_, Tryz.func30, by kernel_rfl, by kernel_rfl⟩⟩
theorem has31 : FnHas Tryz.prog 31 := ⟨⟨_, Tryz.func31, by kernel_rfl, by kernel_rfl⟩⟩
theorem has32 : FnHas Tryz.prog 32 := ⟨⟨_, Tryz.func32, by kernel_rfl, by kernel_rfl⟩⟩
theorem has33 : FnHas Tryz.prog 33 := ⟨⟨_, Tryz.func33, by kernel_rfl, by kernel_rfl⟩⟩
theorem has34 : FnHas Tryz.prog 34 := ⟨⟨_, Tryz.func34, by kernel_rfl, by kernel_rfl⟩⟩
theorem has35 : FnHas Tryz.prog 35 := ⟨⟨_, Tryz.func35, by kernel_rfl, by kernel_rfl⟩⟩
theorem has36 : FnHas Tryz.prog 36 := ⟨⟨_, Tryz.func36, by kernel_rfl, by kernel_rfl⟩⟩
theorem has37 : FnHas Tryz.prog 37 := ⟨⟨_, Tryz.func37, by kernel_rfl, by kernel_rfl⟩⟩
theorem has38 : FnHas Tryz.prog 38 := ⟨⟨_, Tryz.func38, by kernel_rfl, by kernel_rfl⟩⟩
theorem has39 : FnHas Tryz.prog 39 := ⟨⟨_, Tryz.func39, by kernel_rfl, by kernel_rfl⟩⟩
theorem has40 : FnHas Tryz.prog 40 := ⟨⟨_, Tryz.func40, by kernel_rfl, by kernel_rfl⟩⟩
theorem has41 : FnHas Tryz.prog 41 := ⟨⟨_, Tryz.func41, by kernel_rfl, by kernel_rfl⟩⟩
theorem has42 : FnHas Tryz.prog 42 := ⟨⟨_, Tryz.func42, by kernel_rfl, by kernel_rfl⟩⟩
theorem has43 : FnHas Tryz.prog 43 := ⟨⟨_, Tryz.func43, by kernel_rfl, by kernel_rfl⟩⟩
theorem has44 : FnHas Tryz.prog 44 := ⟨⟨_, Tryz.func44, by kernel_rfl, by kernel_rfl⟩⟩
theorem has45 : FnHas Tryz.prog 45 := ⟨⟨_, Tryz.func45, by kernel_rfl, by kernel_rfl⟩⟩
theorem has46 : FnHas Tryz.prog 46 := ⟨⟨_, Tryz.func46, by kernel_rfl, by kernel_rfl⟩⟩
theorem has47 : FnHas Tryz.prog 47 := ⟨⟨_, Tryz.func47, by kernel_rfl, by kernel_rfl⟩⟩
theorem has48 : FnHas Tryz.prog 48 := ⟨⟨_, Tryz.func48, by kernel_rfl, by kernel_rfl⟩⟩
theorem has49 : FnHas Tryz.prog 49 := ⟨⟨_, Tryz.func49, by kernel_rfl, by kernel_rfl⟩⟩
theorem has50 : FnHas Tryz.prog 50 := ⟨⟨_, Tryz.func50, by kernel_rfl, by kernel_rfl⟩⟩
theorem has51 : FnHas Tryz.prog 51 := ⟨⟨_, Tryz.func51, by kernel_rfl, by kernel_rfl⟩⟩
theorem has52 : FnHas Tryz.prog 52 := ⟨⟨_, Tryz.func52, by kernel_rfl, by kernel_rfl⟩⟩
theorem has53 : FnHas Tryz.prog 53 := ⟨⟨_, Tryz.func53, by kernel_rfl, by kernel_rfl⟩⟩
theorem has54 : FnHas Tryz.prog 54 := ⟨⟨_, Tryz.func54, by kernel_rfl, by kernel_rfl⟩⟩
theorem has55 : FnHas Tryz.prog 55 := ⟨⟨_, Tryz.func55, by kernel_rfl, by kernel_rfl⟩⟩
theorem has57 : FnHas Tryz.prog 57 := ⟨⟨_, Tryz.func57, by kernel_rfl, by kernel_rfl⟩⟩
theorem has58 : FnHas Tryz.prog 58 := ⟨⟨_, Tryz.func58, by kernel_rfl, by kernel_rfl⟩⟩
theorem has59 : FnHas Tryz.prog 59 := ⟨⟨_, Tryz.func59, by kernel_rfl, by kernel_rfl⟩⟩
theorem has60 : FnHas Tryz.prog 60 := ⟨⟨_, Tryz.func60, by kernel_rfl, by kernel_rfl⟩⟩
theorem has61 : FnHas Tryz.prog 61 := ⟨⟨_, Tryz.func61, by kernel_rfl, by kernel_rfl⟩⟩
theorem has62 : FnHas Tryz.prog 62 := ⟨⟨_, Tryz.func62, by kernel_rfl, by kernel_rfl⟩⟩
theorem has63 : FnHas Tryz.prog 63 := ⟨⟨_, Tryz.func63, by kernel_rfl, by kernel_rfl⟩⟩
theorem has64 : FnHas Tryz.prog 64 := ⟨⟨_, Tryz.func64, by kernel_rfl, by kernel_rfl⟩⟩
theorem has65 : FnHas Tryz.prog 65 := ⟨⟨_, Tryz.func65, by kernel_rfl, by kernel_rfl⟩⟩
theorem has66 : FnHas Tryz.prog 66 := ⟨⟨_, Tryz.func66, by kernel_rfl, by kernel_rfl⟩⟩
theorem has67 : FnHas Tryz.prog 67 := ⟨⟨_, Tryz.func67, by kernel_rfl, by kernel_rfl⟩⟩
theorem has68 : FnHas Tryz.prog 68 := ⟨⟨_, Tryz.func68, by kernel_rfl, by kernel_rfl⟩⟩
theorem has69 : FnHas Tryz.prog 69 := ⟨⟨_, Tryz.func69, by kernel_rfl, by kernel_rfl⟩⟩
theorem has70 : FnHas Tryz.prog 70 := ⟨⟨_, Tryz.func70, by kernel_rfl, by kernel_rfl⟩⟩
theorem has71 : FnHas Tryz.prog 71 := ⟨⟨_, Tryz.func71, by kernel_rfl, by kernel_rfl⟩⟩
theorem has72 : FnHas Tryz.prog 72 := ⟨⟨_, Tryz.func72, by kernel_rfl, by kernel_rfl⟩⟩
theorem has73 : FnHas Tryz.prog 73 := ⟨⟨_, Tryz.func73, by kernel_rfl, by kernel_rfl⟩⟩
theorem has74 : FnHas Tryz.prog 74 := ⟨⟨_, Tryz.func74, by kernel_rfl, by kernel_rfl⟩⟩
theorem has75 : FnHas Tryz.prog 75 := ⟨⟨_, Tryz.func75, by kernel_rfl, by kernel_rfl⟩⟩
theorem has76 : FnHas Tryz.prog 76 := ⟨⟨_, Tryz.func76, by kernel_rfl, by kernel_rfl⟩⟩
theorem has77 : FnHas Tryz.prog 77 := ⟨⟨_, Tryz.func77, by kernel_rfl, by kernel_rfl⟩⟩
theorem has78 : FnHas Tryz.prog 78 := ⟨⟨_, Tryz.func78, by kernel_rfl, by kernel_rfl⟩⟩
theorem has79 : FnHas Tryz.prog 79 := ⟨⟨_, Tryz.func79, by kernel_rfl, by kernel_rfl⟩⟩
theorem has80 : FnHas Tryz.prog 80 := ⟨⟨_, Tryz.func80, by kernel_rfl, by kernel_rfl⟩⟩
theorem has81 : FnHas Tryz.prog 81 := ⟨⟨_, Tryz.func81, by kernel_rfl, by kernel_rfl⟩⟩
theorem has82 : FnHas Tryz.prog 82 := ⟨⟨_, Tryz.func82, by kernel_rfl, by kernel_rfl⟩⟩
theorem has83 : FnHas Tryz.prog 83 := ⟨⟨_, Tryz.func83, by kernel_rfl, by kernel_rfl⟩⟩
theorem has84 : FnHas Tryz.prog 84 := ⟨⟨_, Tryz.func84, by kernel_rfl, by kernel_rfl⟩⟩
theorem has85 : FnHas Tryz.prog 85 := ⟨⟨_, Tryz.func85, by kernel_rfl, by kernel_rfl⟩⟩
theorem has86 : FnHas Tryz.prog 86 := ⟨⟨_, Tryz.func86, by kernel_rfl, by kernel_rfl⟩⟩
theorem has87 : FnHas Tryz.prog 87 := ⟨⟨_, Tryz.func87, by kernel_rfl, by kernel_rfl⟩⟩
theorem has88 : FnHas Tryz.prog 88 := ⟨⟨_, Tryz.func88, by kernel_rfl, by kernel_rfl⟩⟩
theorem has89 : FnHas Tryz.prog 89 := ⟨⟨_, Tryz.func89, by kernel_rfl, by kernel_rfl⟩⟩
theorem has90 : FnHas Tryz.prog 90 := ⟨⟨_, Tryz.func90, by kernel_rfl, by kernel_rfl⟩⟩
theorem has91 : FnHas Tryz.prog 91 := ⟨⟨_, Tryz.func91, by kernel_rfl, by kernel_rfl⟩⟩
theorem has92 : FnHas Tryz.prog 92 := ⟨⟨_, Tryz.func92, by kernel_rfl, by kernel_rfl⟩⟩
theorem has93 : FnHas Tryz.prog 93 := ⟨⟨_, Tryz.func93, by kernel_rfl, by kernel_rfl⟩⟩
theorem has94 : FnHas Tryz.prog 94 := ⟨⟨_, Tryz.func94, by kernel_rfl, by kernel_rfl⟩⟩
theorem has95 : FnHas Tryz.prog 95 := ⟨⟨_, Tryz.func95, by kernel_rfl, by kernel_rfl⟩⟩
theorem has96 : FnHas Tryz.prog 96 := ⟨⟨_, Tryz.func96, by kernel_rfl, by kernel_rfl⟩⟩
theorem has97 : FnHas Tryz.prog 97 := ⟨⟨_, Tryz.func97, by kernel_rfl, by kernel_rfl⟩⟩
theorem has98 : FnHas Tryz.prog 98 := ⟨⟨_, Tryz.func98, by kernel_rfl, by kernel_rfl⟩⟩
theorem has99 : FnHas Tryz.prog 99 := ⟨⟨_, Tryz.func99, by kernel_rfl, by kernel_rfl⟩⟩
theorem has100 : FnHas Tryz.prog 100 := ⟨⟨_, Tryz.func100, by kernel_rfl, by kernel_rfl⟩⟩
theorem has101 : FnHas Tryz.prog 101 := ⟨⟨_, Tryz.func101, by kernel_rfl, by kernel_rfl⟩⟩
theorem has102 : FnHas Tryz.prog 102 := ⟨⟨_, Tryz.func102, by kernel_rfl, by kernel_rfl⟩⟩
theorem has103 : FnHas Tryz.prog 103 := ⟨⟨_, Tryz.func103, by kernel_rfl, by kernel_rfl⟩⟩
theorem has104 : FnHas Tryz.prog 104 := ⟨⟨_, Tryz.func104, by kernel_rfl, by kernel_rfl⟩⟩
theorem has105 : FnHas Tryz.prog 105 := ⟨⟨_, Tryz.func105, by kernel_rfl, by kernel_rfl⟩⟩
theorem has106 : FnHas Tryz.prog 106 := ⟨⟨_, Tryz.func106, by kernel_rfl, by kernel_rfl⟩⟩
theorem has107 : FnHas Tryz.prog 107 := ⟨⟨_, Tryz.func107, by kernel_rfl, by kernel_rfl⟩⟩
theorem has108 : FnHas Tryz.prog 108 := ⟨⟨_, Tryz.func108, by kernel_rfl, by kernel_rfl⟩⟩
theorem has109 : FnHas Tryz.prog 109 := ⟨⟨_, Tryz.func109, by kernel_rfl, by kernel_rfl⟩⟩
theorem has110 : FnHas Tryz.prog 110 := ⟨⟨_, Tryz.func110, by kernel_rfl, by kernel_rfl⟩⟩
theorem has111 : FnHas Tryz.prog 111 := ⟨⟨_, Tryz.func111, by kernel_rfl, by kernel_rfl⟩⟩
theorem has112 : FnHas Tryz.prog 112 := ⟨⟨_, Tryz.func112, by kernel_rfl, by kernel_rfl⟩⟩
theorem has113 : FnHas Tryz.prog 113 := ⟨⟨_, Tryz.func113, by kernel_rfl, by kernel_rfl⟩⟩
theorem has115 : FnHas Tryz.prog 115 := ⟨⟨_, Tryz.func115, by kernel_rfl, by kernel_rfl⟩⟩
theorem has116 : FnHas Tryz.prog 116 := ⟨⟨_, Tryz.func116, by kernel_rfl, by kernel_rfl⟩⟩
theorem has117 : FnHas Tryz.prog 117 := ⟨⟨_, Tryz.func117, by kernel_rfl, by kernel_rfl⟩⟩
theorem has118 : FnHas Tryz.prog 118 := ⟨⟨_, Tryz.func118, by kernel_rfl, by kernel_rfl⟩⟩
theorem has119 : FnHas Tryz.prog 119 := ⟨⟨_, Tryz.func119, by kernel_rfl, by kernel_rfl⟩⟩
theorem has120 : FnHas Tryz.prog 120 := ⟨⟨_, Tryz.func120, by kernel_rfl, by kernel_rfl⟩⟩
theorem has121 : FnHas Tryz.prog 121 := ⟨⟨_, Tryz.func121, by kernel_rfl, by kernel_rfl⟩⟩
theorem has122 : FnHas Tryz.prog 122 := ⟨⟨_, Tryz.func122, by kernel_rfl, by kernel_rfl⟩⟩
theorem has123 : FnHas Tryz.prog 123 := ⟨⟨_, Tryz.func123, by kernel_rfl, by kernel_rfl⟩⟩
theorem has124 : FnHas Tryz.prog 124 := ⟨⟨_, Tryz.func124, by kernel_rfl, by kernel_rfl⟩⟩
theorem has125 : FnHas Tryz.prog 125 := ⟨⟨_, Tryz.func125, by kernel_rfl, by kernel_rfl⟩⟩
theorem has126 : FnHas Tryz.prog 126 := ⟨⟨_, Tryz.func126, by kernel_rfl, by kernel_rfl⟩⟩
theorem has127 : FnHas Tryz.prog 127 := ⟨⟨_, Tryz.func127, by kernel_rfl, by kernel_rfl⟩⟩
theorem has130 : FnHas Tryz.prog 130 := ⟨⟨_, Tryz.func130, by kernel_rfl, by kernel_rfl⟩⟩
theorem has131 : FnHas Tryz.prog 131 := ⟨⟨_, Tryz.func131, by kernel_rfl, by kernel_rfl⟩⟩
theorem has132 : FnHas Tryz.prog 132 := ⟨⟨_, Tryz.func132, by kernel_rfl, by kernel_rfl⟩⟩
theorem has137 : FnHas Tryz.prog 137 := ⟨⟨_, Tryz.func137, by kernel_rfl, by kernel_rfl⟩⟩
theorem has149 : FnHas Tryz.prog 149 := ⟨⟨_, Tryz.func149, by kernel_rfl, by kernel_rfl⟩⟩
theorem has150 : FnHas Tryz.prog 150 := ⟨⟨_, Tryz.func150, by kernel_rfl, by kernel_rfl⟩⟩
def goMod (x n : Int) : Int := if n < 1 then 0 else if x.tmod n < 0 then x.tmod n + n else x.tmod n
theorem hC3 (x n : Int) (h : 1 ≤ n) : -n < x.tmod n ∧ x.tmod n < n := by
 have h1 := Int.tmod_lt_of_pos x (show 0 < n by omega); have h2 := Int.lt_tmod_of_pos x (show 0 < n by omega); omega
theorem xA0 (x n : Int) (h : 1 ≤ n) : 0 ≤ goMod x n ∧ goMod x n < n := by
 have := hC3 x n h; unfold goMod; rw [if_neg (by omega)]; split <;> omega
def con61 : Con := { ps := [.d false yI, .d false yI], rs := [.d false yI], pre := fun _ => True, out := fun x => (goMod x.1 x.2.1, ()), nw := id }
theorem c61 : CtrOk Tryz.prog 61 con61.ctr :=
 aA0 eA0 eN rfl Tryz.func61 rfl con61 2131 (by kernel_rfl) (by decide) (by decide) rfl (by decide) rfl (by
  rintro ⟨(x : Int), (n : Int), _⟩ hpre hwf X hT hG hk hK
  (simp -implicitDefEqProofs (maxSteps := 4000000) only [go_sem, con61, hT, hG, hk, hK, Tryz.results61] at hwf ⊢)
  unfold goMod; by_cases hn : n < 1
  · simp [hn]
  · have hb := hC3 x n (by omega); have hn0 : n ≠ 0 := by omega
    simp only [hn, if_false, not_false_eq_true, true_implies, false_implies, true_and]; refine ⟨⟨hn0, by omega, by omega⟩, fun h => ⟨⟨by omega, by omega⟩, ?_⟩, fun h => ?_⟩
    · rw [if_pos h]
    · rw [if_neg h])
abbrev Src := List Int × Int
def Src.raw (s : Src) : Int := if s.2 ≥ s.1.length then 0 else s.1.getD s.2.toNat 0
def Src.step (s : Src) : Src := if s.2 ≥ s.1.length then s else (s.1, s.2 + 1)
theorem Src.step_pos (s : Src) (h : 0 ≤ s.2) : 0 ≤ s.step.2 := by unfold Src.step; split; exact h; exact Int.le_trans h (by simp only; omega)
def con62 : Con := { ps := [.p 75 ySR], rs := [.d false yI], pre := fun x => 0 ≤ x.1.2, out := fun x => (Src.raw x.1, ()), nw := fun x => (Src.step x.1, ()) }
theorem c62 : CtrOk Tryz.prog 62 con62.ctr :=
 aA0 eA0 eN rfl Tryz.func62 rfl con62 4101 (by kernel_rfl) (by decide) (by decide) rfl (by decide) rfl (by
  rintro ⟨⟨(l : List Int), (a : Int)⟩, _⟩ hpre hwf X hT hG hk hK
  (simp -implicitDefEqProofs (maxSteps := 4000000) only [go_sem, con62, hT, hG, hk, hK, Tryz.results62] at hwf ⊢); (try simp (disch := decide +kernel) only [drawn, true_and, and_true])
  intro hl; have hpre : 0 ≤ a := hpre; have hl' := hl; simp only [maxLen] at hl'; unfold Src.step Src.raw; refine ⟨fun h => ?_, fun h => ⟨⟨by omega, by omega⟩, ⟨by omega, by omega⟩, ⟨by omega, by omega⟩, fun _ _ => ?_⟩⟩
  · simp [show (a : Int) ≥ (l.length : Int) from h]
  · simp [show ¬ (a : Int) ≥ (l.length : Int) from h])
def con31 : Con := { ps := [.p 75 ySR, .d false yI], rs := [.d false yI], pre := fun x => 0 ≤ x.1.2, out := fun x => (goMod (Src.raw x.1) x.2.1, ()), nw := fun x => (Src.step x.1, x.2) }
theorem c31 : CtrOk Tryz.prog 31 con31.ctr :=
 aA0 eA0 (eC c62 has62 (eC c61 has61 eN)) rfl Tryz.func31 rfl con31 19 (by kernel_rfl) (by decide) (by decide) rfl (by decide) rfl (by
  rintro ⟨⟨(l : List Int), (a : Int)⟩, (n : Int), _⟩ hpre hwf X hT hG hk hK
  (simp -implicitDefEqProofs (maxSteps := 4000000) only [go_sem, con31, con62, con61, hT, hG, hk, hK, Tryz.results31] at hwf ⊢)
  exact hpre)
def con8 : Con := { ps := [.d false (.sl yI)], rs := [.p 75 ySR], pre := fun x => True, out := fun x => ((x.1.take 2000, 0), ()), nw := id }
theorem c8 : CtrOk Tryz.prog 8 con8.ctr :=
 aA0 eA0 eN rfl Tryz.func8 rfl con8 37 (by kernel_rfl) (by decide) (by decide) rfl (by decide) rfl (by
  rintro ⟨(l : List Int), _⟩ hpre hwf X hT hG hk hK
  (simp -implicitDefEqProofs (maxSteps := 4000000) only [go_sem, con8, hT, hG, hk, hK, Tryz.results8] at hwf ⊢)
  refine fun _ => ⟨fun h => ⟨⟨by omega, by omega, by omega⟩, rfl⟩, fun h => ?_⟩; rw [List.take_of_length_le (by omega)])
def con29 : Con := { ps := [.p 75 ySR, .d false yI, .d false yI], rs := [.d false yI], pre := fun x => 0 ≤ x.1.2 ∧ -1000000 ≤ x.2.1 ∧ x.2.1 ≤ x.2.2.1 ∧ x.2.2.1 ≤ 1000000, out := fun x => (x.2.1 + goMod (Src.raw x.1) (x.2.2.1 - x.2.1 + 1), ()), nw := fun x => (Src.step x.1, x.2) }
theorem c29 : CtrOk Tryz.prog 29 con29.ctr :=
 aA0 eA0 (eC c31 has31 eN) rfl Tryz.func29 rfl con29 71 (by kernel_rfl) (by decide) (by decide) rfl (by decide) rfl (by
  rintro ⟨⟨(l : List Int), (a : Int)⟩, (lo : Int), (hi : Int), _⟩ hpre hwf X hT hG hk hK
  (simp -implicitDefEqProofs (maxSteps := 4000000) only [go_sem, con29, con31, hT, hG, hk, hK, Tryz.results29] at hwf ⊢)
  obtain ⟨h1, h2, h3, h4⟩ : 0 ≤ a ∧ -1000000 ≤ lo ∧ lo ≤ hi ∧ hi ≤ 1000000 := hpre; have := xA0 (Src.raw (l, a)) (hi - lo + 1) (by omega); refine ⟨⟨by omega, by omega⟩, ⟨by omega, by omega⟩, h1, fun _ => ⟨by omega, by omega⟩⟩)
theorem Src.step_pos' {s : Src} (h : 0 ≤ s.2) : 0 ≤ (Src.step s).2 := Src.step_pos s h
def con38 : Con := { ps := [.p 75 ySR, .d false (.sl yI)], rs := [.d false yI], pre := fun (x : Src × List Int × Unit) => 0 ≤ x.1.2 ∧ 0 < x.2.1.length, out := fun (x : Src × List Int × Unit) => (x.2.1.getD (goMod (Src.raw x.1) x.2.1.length).toNat 0, ()), nw := fun x => (Src.step x.1, x.2) }
theorem c38 : CtrOk Tryz.prog 38 con38.ctr :=
 aA0 eA0 (eC c31 has31 eN) rfl Tryz.func38 rfl con38 19 (by kernel_rfl) (by decide) (by decide) rfl (by decide) rfl (by
  rintro ⟨⟨(s : List Int), (a : Int)⟩, (l : List Int), _⟩ hpre hwf X hT hG hk hK
  (simp -implicitDefEqProofs (maxSteps := 4000000) only [go_sem, bP, con38, con31, hT, hG, hk, hK, Tryz.results38] at hwf ⊢)
  obtain ⟨h1, h2⟩ : 0 ≤ a ∧ 0 < l.length := hpre; have hb := xA0 (Src.raw (s, a)) l.length (by omega)
  (repeat' with_reducible first | refine And.intro ?_ ?_ | intro _) <;> try first | with_reducible (first | assumption | omega | contradiction) | decide)
def con35 : Con := { ps := [.p 75 ySR], rs := [.d false .bool], pre := fun x => True, out := fun (x : Src × Unit) => (decide (x.1.2 < x.1.1.length), ()), nw := id }
theorem c35 : CtrOk Tryz.prog 35 con35.ctr :=
 aA0 eA0 eN rfl Tryz.func35 rfl con35 5 (by kernel_rfl) (by decide) (by decide) rfl (by decide) rfl (by
  rintro ⟨⟨(l : List Int), (a : Int)⟩, _⟩ hpre hwf X hT hG hk hK
  (simp -implicitDefEqProofs (maxSteps := 4000000) only [go_sem, con35, hT, hG, hk, hK, Tryz.results35] at hwf ⊢); (try simp (disch := decide +kernel) only [drawn, true_and, and_true])
  exact fun _ => trivial)
def con32 : Con := { ps := [.d false (.sl yI), .d false yI], rs := [.d false .bool], pre := fun _ => True, out := fun (x : List Int × Int × Unit) => (x.1.any (fun y : Int => decide (x.2.1 = y)), ()), nw := id }
theorem c32 : CtrOk Tryz.prog 32 con32.ctr :=
 aA0 eA0 eN rfl Tryz.func32 rfl con32 131635 (by kernel_rfl) (by decide) (by decide) rfl (by decide) rfl (by
  rintro ⟨(l : List Int), (f : Int), _⟩ hpre hwf X hT hG hk hK
  (simp -implicitDefEqProofs (maxSteps := 4000000) only [go_sem, bP, con32, hT, hG, hk, hK, Tryz.results32] at hwf ⊢)
  refine cA0 ⟨{ i : Nat // i ≤ l.length ∧ l.any (fun y : Int => decide (f = y)) = (l.drop i).any (fun y : Int => decide (f = y)) }, 1000, fun i => [(0, .one (.sl yI l false)), (1, .one (.int .i64 f)), (5, .one (.int .i64 i.1))], fun _ => [], fun i => l.length - i.1⟩ ⟨0, by simp, by simp⟩ ?_ ?_
  · simp only [go_sem]; rfl
  · rintro ⟨i, (hi : i ≤ l.length), (he : l.any (fun y : Int => decide (f = y)) = (l.drop i).any (fun y : Int => decide (f = y)))⟩
    (simp -implicitDefEqProofs (maxSteps := 4000000) only [go_sem, bP, con32, hT, hG, hk, hK, Tryz.results32])
    refine fun _ => ⟨fun hlt => ?_, fun hge => ?_⟩
    · have hi' : i < l.length := by omega
      have ek : ∀ z, l.getD (i : Int).toNat z = l[i] := fun z => by simp [hi']
      simp only [ek]; have hst : l.any (fun y : Int => decide (f = y)) = (decide (f = l[i]) || (l.drop (i + 1)).any (fun y : Int => decide (f = y))) := by
       rw [he, List.drop_eq_getElem_cons hi', List.any_cons]
      (repeat' with_reducible first | refine And.intro ?_ ?_ | intro _) <;> try first | with_reducible (first | assumption | omega | contradiction) | decide
      · rename_i h; rw [hst]; simp [h]
      · rename_i h; refine dA0 ⟨i + 1, by omega, by rw [hst, decide_eq_false (fun k => h k.symm), Bool.false_or]⟩ (by simp only [go_sem]; first | rfl | ((repeat' apply And.intro) <;> first | rfl | assumption | omega)) (by dsimp only; omega)
    · rw [he, List.drop_of_length_le (by omega)]; rfl)
def con13 : Con := { ps := [.d false (.sl yI), .d false (.sl yI)], rs := [.d false .bool], pre := fun x => True, out := fun (x : List Int × List Int × Unit) => (decide (x.1 = x.2.1), ()), nw := id }
theorem c13 : CtrOk Tryz.prog 13 con13.ctr :=
 aA0 eA0 eN rfl Tryz.func13 rfl con13 33571891 (by kernel_rfl) (by decide) (by decide) rfl (by decide) rfl (by
  rintro ⟨(a : List Int), (b : List Int), _⟩ hpre hwf X hT hG hk hK
  (simp -implicitDefEqProofs (maxSteps := 4000000) only [go_sem, bP, con13, hT, hG, hk, hK, Tryz.results13] at hwf ⊢); (try simp (disch := decide +kernel) only [drawn, true_and, and_true])
  clear hwf; refine fun _ _ => ⟨fun h => ?_, fun h => ?_⟩
  · rw [eq_comm, decide_eq_false_iff_not]; intro q; exact h (by rw [q])
  · refine cA0 ⟨{ i : Nat // i ≤ a.length ∧ a.take i = b.take i }, 1000, fun q => [(0, .one (.sl yI a false)), (1, .one (.sl yI b false)), (5, .one (.int .i64 q.1))], fun q => [], fun q => a.length - q.1⟩ ⟨0, Nat.zero_le _, rfl⟩ ?_ ?_
    · simp only [go_sem]; rfl
    · rintro ⟨i, (hi : i ≤ a.length), (he : a.take i = b.take i)⟩
      (simp -implicitDefEqProofs (maxSteps := 4000000) only [go_sem, bP, con13, hT, hG, hk, hK, Tryz.results13]); (try simp (disch := decide +kernel) only [drawn, true_and, and_true])
      obtain ⟨o, ho⟩ : ∃ o, a.getD i 0 = o := ⟨_, rfl⟩; have eo : a.getD (i : Int).toNat 0 = o := ho; obtain ⟨u, hu⟩ : ∃ o, b.getD i 0 = o := ⟨_, rfl⟩; have eu : b.getD (i : Int).toNat 0 = u := hu
      try simp only [eo, eu]
      refine fun _ => ⟨fun hlt => ?_, fun hge => ?_⟩
      · have hia : i < a.length := by omega
        have hib : i < b.length := by omega
        (repeat' with_reducible first | refine And.intro ?_ ?_ | intro _) <;> try first | with_reducible (first | assumption | omega | contradiction) | decide
        all_goals first
         | omega
         | (have hne : ¬ o = u := by assumption
            rw [eq_comm, decide_eq_false_iff_not]; intro q; subst q
            exact hne (ho.symm.trans hu))
         | (have hne : o = u := by assumption
            refine dA0 ⟨i + 1, by omega, ?_⟩ ?_ (by dsimp only; omega)
            · rw [tsE hia, tsE hib, he]; have e1 : a[i] = o := by rw [← ho]; simp [hia]
              have e2 : b[i] = u := by rw [← hu]; simp [hib]
              rw [e1, e2, hne]
            · simp only [go_sem]
              try rfl)
      · have e1 := List.take_of_length_le (l := a) (i := i) (by omega); have e2 := List.take_of_length_le (l := b) (i := i) (by omega); have : a = b := by rw [← e1, ← e2]; exact he
        (repeat' with_reducible first | refine And.intro ?_ ?_ | intro _) <;> try first | with_reducible (first | assumption | omega | contradiction) | decide
        all_goals simp [this])
def truS (s : Src) : Nat → Src
 | 0 => s
 | k + 1 => (truS s k).step
def truL (s : Src) : Nat → List Bool
 | 0 => []
 | k + 1 => truL s k ++ [decide (goMod (truS s k).raw 2 = 0)]
theorem aA7 {s : Src} (h : 0 ≤ s.2) : ∀ k, 0 ≤ (truS s k).2
 | 0 => h
 | k + 1 => Src.step_pos' (aA7 h k)
theorem qB7 (s : Src) : ∀ k, (truL s k).length = k
 | 0 => rfl
 | k + 1 => by simp [truL, qB7 s k]
def truK (s : Src) (n : Int) : Nat := ([n, n, n, 2, 0].getD (goMod s.raw 5).toNat 0).toNat
theorem oD1 (s : Src) (n : Int) (h0 : 0 ≤ n) : (truK s n : Int) = [n, n, n, 2, 0].getD (goMod s.raw 5).toNat 0 ∧ (truK s n ≤ n.toNat ∨ truK s n ≤ 2) := by
 have hb := xA0 s.raw 5 (by omega); unfold truK; generalize (goMod s.raw 5).toNat = q
 match q with
 | 0 => simp; omega
 | 1 => simp; omega
 | 2 => simp; omega
 | 3 => simp
 | 4 => simp
 | q + 5 => simp
def con12 : Con := { ps := [.p 75 ySR, .d false yI], rs := [.d false (.sl .bool)], pre := fun (x : Src × Int × Unit) => 0 ≤ x.1.2 ∧ 0 ≤ x.2.1 ∧ x.2.1 ≤ 1000, out := fun (x : Src × Int × Unit) => (truL x.1.step (truK x.1 x.2.1), ()), nw := fun (x : Src × Int × Unit) => (truS x.1.step (truK x.1 x.2.1), x.2) }
theorem c12 : CtrOk Tryz.prog 12 con12.ctr :=
 aA0 eA0 (eC c38 has38 (eC c31 has31 eN)) rfl Tryz.func12 rfl con12 16499 (by kernel_rfl) (by decide) (by decide) rfl (by decide) rfl (by
  rintro ⟨⟨(s : List Int), (a : Int)⟩, (n : Int), _⟩ hpre hwf X hT hG hk hK
  (simp -implicitDefEqProofs (maxSteps := 4000000) only [go_sem, bP, con12, con38, con31, hT, hG, hk, hK, Tryz.results12] at hwf ⊢)
  obtain ⟨h1, h2, h3⟩ : 0 ≤ a ∧ 0 ≤ n ∧ n ≤ 1000 := hpre; clear hwf; obtain ⟨k1, k2⟩ := oD1 (s, a) n h2; refine ⟨h1, fun _ => ?_⟩; simp only [show ((5 : Nat) : Int) = 5 from rfl]; rw [← k1]; refine cA0 ⟨{ k : Nat // k ≤ truK (s, a) n }, 1000, fun k => [(0, .one (.loc 0 0)), (1, .one (.int .i64 n)), (5, .one (.row 64)), (6, .one (.int .i64 ((truK (s, a) n : Int) - k.1)))], fun k => [(0, .cells 75 [.sl yI (truS (Src.step (s, a)) k.1).1 false, .int .i64 (truS (Src.step (s, a)) k.1).2]), (64, .row 4 .bool (truL (Src.step (s, a)) k.1))], fun k => truK (s, a) n - k.1⟩ ⟨0, by omega⟩ ?_ ?_
  · simp only [go_sem]; simp only [truS, truL]
    try first | rfl | (and_intros <;> first | trivial | rfl | omega)
  · rintro ⟨k, (hk0 : k ≤ truK (s, a) n)⟩
    (simp -implicitDefEqProofs (maxSteps := 4000000) only [go_sem, bP, con12, con38, con31, hT, hG, hk, hK, Tryz.results12])
    have hp := aA7 (Src.step_pos' (s := (s, a)) h1) k; have hl := qB7 (Src.step (s, a)) k; refine ⟨fun hlt => ⟨hp, fun _ => ⟨by omega, by omega, ?_⟩⟩, fun hge => ?_⟩
    · refine dA0 ⟨k + 1, by omega⟩ ?_ ?_
      · simp only [go_sem]; simp only [truS, truL]
        try first | rfl | (and_intros <;> first | trivial | rfl | omega)
      · dsimp only; omega
    · have : k = truK (s, a) n := by omega
      subst this
      try first | rfl | (and_intros <;> first | trivial | rfl | omega))
abbrev Nd := ByteArray × Int × Int × Int × List Int
abbrev Dv := Int × Int × Int
abbrev Ly := List Nd × List Dv
def nd0 : Nd := (ByteArray.empty, 0, 0, 0, [])
def exN (k : Int) : Nat := if k = 4 ∨ k = 5 ∨ k = 6 then 2 else if k = 8 ∨ k = 9 then 0 else 1
def strN (k : Int) : Bool := decide (1 ≤ k) && decide (k ≤ 6)
structure NdOk (n : Nat) (f : Nat → Nd) (i : Nat) : Prop where
 kd : 1 ≤ (f i).2.1 ∧ (f i).2.1 ≤ 9
 ln : strN (f i).2.1 = true → 1 ≤ (f i).2.2.1 ∧ (f i).2.2.1 ≤ 8
 lo : (f i).2.1 = 5 → 2 ≤ (f i).2.2.1
 l0 : strN (f i).2.1 = false → (f i).2.2.1 = 0
 zn : (f i).2.2.2.1 = 0 ∨ (f i).2.2.2.1 = 1
 ex : (f i).2.2.2.2.length = exN (f i).2.1
 fw : ∀ (k : Nat) e, (f i).2.2.2.2[k]? = some e → (((f i).2.1 = 5 ∧ k = 0) ∧ e = i) ∨ (¬ ((f i).2.1 = 5 ∧ k = 0) ∧ (i : Int) < e ∧ e < n)
 ne : ∀ a b, (f i).2.2.2.2 = [a, b] → a ≠ b
 z0 : (f i).2.1 = 1 ∨ (f i).2.1 = 3 ∨ (f i).2.1 = 6 → (f i).2.2.2.1 = 0
 z1 : (f i).2.1 = 7 ∨ (f i).2.1 = 8 → (f i).2.2.2.1 = 1
 zz : ∀ (k : Nat) e, (f i).2.2.2.2[k]? = some e → (f e.toNat).2.1 ≠ 1 ∧ (f e.toNat).2.2.2.1 = if (f i).2.1 = 6 ∧ k = 1 then 1 else (f i).2.2.2.1
structure DevR (ns : List Nd) (ds : List Dv) : Prop where
 len : ds.length ≤ 24
 ok : ∀ d ∈ ds, (d.1 = 1 ∨ d.1 = 2) ∧ 0 ≤ d.2.1 ∧ d.2.1 < ns.length ∧ 0 ≤ d.2.2 ∧ d.2.2 < (ns.getD d.2.1.toNat nd0).2.2.1
 nd : ds.Nodup
structure GoodL (l : Ly) : Prop where
 n1 : 1 ≤ l.1.length
 n24 : l.1.length ≤ 24
 nd : ∀ i, i < l.1.length → NdOk l.1.length (fun i => l.1.getD i nd0) i
 tot : (l.1.map (fun x => x.2.2.1)).sum ≤ 80
 nm : ∀ i, i < l.1.length → ∃ c : Int, 65 ≤ c ∧ c ≤ 90 ∧ (l.1.getD i nd0).1 = strOf [c]
 nmd : ∀ i j, i < l.1.length → j < l.1.length → (l.1.getD i nd0).1 = (l.1.getD j nd0).1 → i = j
 en : (l.1.getD 0 nd0).2.1 = 1
 dv : DevR l.1 l.2
def othF (l : List Int) (nt : Int) : List Int := l.filter (fun y => decide (y ≠ nt))
theorem pA3 {l : List Int} {nt : Int} {i : Nat} (h : i < l.length) : othF (l.take (i + 1)) nt = if l[i] ≠ nt then othF (l.take i) nt ++ [l[i]] else othF (l.take i) nt := by
 unfold othF; rw [tsE h, List.filter_append]; by_cases e : l[i] = nt <;> simp [e]
theorem jA7 (l : List Int) (nt : Int) : (othF l nt).length ≤ l.length := List.length_filter_le _ _
def othV (s : Src) (l : List Int) (nt : Int) : Int := if (othF l nt).length = 0 then -1 else (othF l nt).getD (goMod s.raw (othF l nt).length).toNat 0
def othS (s : Src) (l : List Int) (nt : Int) : Src := if (othF l nt).length = 0 then s else s.step
theorem wB3 (s : Src) (l : List Int) (nt : Int) : (othV s l nt = -1 ∧ ∀ y ∈ l, y = nt) ∨ (othV s l nt ∈ l ∧ othV s l nt ≠ nt) := by
 unfold othV; split
 · rename_i h; refine .inl ⟨rfl, fun y hy => ?_⟩; have h0 := List.eq_nil_of_length_eq_zero h; apply Classical.byContradiction; intro hne; have : y ∈ othF l nt := List.mem_filter.2 ⟨hy, by simpa using hne⟩; rw [h0] at this; cases this
 · rename_i h; have hb := xA0 s.raw (othF l nt).length (by omega); have hlt : (goMod s.raw (othF l nt).length).toNat < (othF l nt).length := by omega
   have hm : (othF l nt).getD (goMod s.raw (othF l nt).length).toNat 0 ∈ othF l nt := by
    rw [gdE, List.getElem?_eq_getElem hlt]; exact List.getElem_mem hlt
   obtain ⟨h1, h2⟩ := List.mem_filter.1 hm; exact .inr ⟨h1, by simpa using h2⟩
theorem aB8 {s : Src} (l : List Int) (nt : Int) (h : 0 ≤ s.2) : 0 ≤ (othS s l nt).2 := by
 unfold othS; split
 · exact h
 · exact Src.step_pos' h
def con60 : Con := { ps := [.p 75 ySR, .d false (.sl yI), .d false yI], rs := [.d false yI], pre := fun (x : Src × List Int × Int × Unit) => 0 ≤ x.1.2 ∧ x.2.1.length ≤ 1000, out := fun (x : Src × List Int × Int × Unit) => (othV x.1 x.2.1 x.2.2.1, ()), nw := fun (x : Src × List Int × Int × Unit) => (othS x.1 x.2.1 x.2.2.1, x.2) }
theorem c60 : CtrOk Tryz.prog 60 con60.ctr :=
 aA0 eA0 (eC c31 has31 eN) rfl Tryz.func60 rfl con60 1074794951 (by kernel_rfl) (by decide) (by decide) rfl (by decide) rfl (by
  rintro ⟨⟨(s : List Int), (a : Int)⟩, (l : List Int), (nt : Int), _⟩ hpre hwf X hT hG hk hK
  (simp -implicitDefEqProofs (maxSteps := 4000000) only [go_sem, bP, con60, con31, hT, hG, hk, hK, Tryz.results60] at hwf ⊢)
  obtain ⟨h1, h2⟩ : 0 ≤ a ∧ l.length ≤ 1000 := hpre; clear hwf; refine cA0 ⟨{ i : Nat // i ≤ l.length }, 1000, fun i => [(0, .one (.loc 0 0)), (1, .one (.sl yI l false)), (2, .one (.int .i64 nt)), (7, .one (.row 64)), (8, .one (.int .i64 i.1))], fun i => [(0, .cells 75 [.sl yI s false, .int .i64 a]), (64, .row 3 yI (othF (l.take i.1) nt))], fun i => l.length - i.1⟩ ⟨0, Nat.zero_le _⟩ ?_ ?_
  · simp only [go_sem]
    try first | rfl | (and_intros <;> first | trivial | rfl | omega)
  · rintro ⟨i, (hi : i ≤ l.length)⟩
    (simp -implicitDefEqProofs (maxSteps := 4000000) only [go_sem, bP, con60, con31, hT, hG, hk, hK, Tryz.results60])
    have hol := jA7 (l.take i) nt; rw [List.length_take] at hol; refine fun _ => ⟨fun hlt => ?_, fun hge => ?_⟩
    · have hi' : i < l.length := by omega
      have ek : ∀ z, l.getD (i : Int).toNat z = l[i] := fun z => by simp [hi']
      simp only [ek]; have hst := pA3 (nt := nt) hi'
      (repeat' with_reducible first | refine And.intro ?_ ?_ | intro _) <;> try first | with_reducible (first | assumption | omega | contradiction) | decide
      · have h : ¬ l[i] = nt := by assumption
        refine dA0 ⟨i + 1, by omega⟩ ?_ ?_
        · simp only [go_sem]; rw [hst, if_pos h]
          try first | rfl | (and_intros <;> first | trivial | rfl | omega)
        · dsimp only; omega
      · refine dA0 ⟨i + 1, by omega⟩ ?_ ?_
        · simp only [go_sem]; rw [hst, if_neg (by simp [*])]
          try first | rfl | (and_intros <;> first | trivial | rfl | omega)
        · dsimp only; omega
    · rw [List.take_of_length_le (by omega)]; unfold othS othV; refine fun _ => ⟨fun h => ?_, fun h _ => ?_⟩
      · have h : (othF l nt).length = 0 := by omega
        simp [h]
      · have h : ¬ (othF l nt).length = 0 := by omega
        have hb := xA0 (Src.raw (s, a)) (othF l nt).length (by omega); simp only [if_neg h]; exact ⟨h1, fun _ => ⟨hb, fun _ => ⟨hb, fun _ => ⟨trivial, trivial, trivial⟩⟩⟩⟩)
def StripR (K : List Int) (i zone : Int) (T : List Int) (y : Nd) : Prop :=
 y.1 = ByteArray.empty ∧ y.2.2.2.1 = zone ∧
 ((y.2.1 = 5 ∧ 5 ∈ K ∧ 2 ≤ y.2.2.1 ∧ y.2.2.1 ≤ 4 ∧ ∃ e ∈ T, y.2.2.2.2 = [i, e]) ∨
  (y.2.1 = 4 ∧ 4 ∈ K ∧ 1 ≤ y.2.2.1 ∧ y.2.2.1 ≤ 3 ∧ ∃ e ∈ T, ∃ e' ∈ T, e ≠ e' ∧ y.2.2.2.2 = [e, e']) ∨
  (((y.2.1 ∈ K ∧ y.2.1 ≠ 4 ∧ y.2.1 ≠ 5) ∨ (4 ∈ K ∧ y.2.1 = 2)) ∧ 1 ≤ y.2.2.1 ∧ y.2.2.1 ≤ 3 ∧ ∃ e ∈ T, y.2.2.2.2 = [e]))
def con30 : RCon := { ps := [.p 75 ySR, .d false yI, .d false yI, .d false (.sl yI), .d false (.sl yI)], rs := [.d true yNO], pre := fun (x : Src × Int × Int × List Int × List Int × Unit) => 0 ≤ x.1.2 ∧ 0 < x.2.2.2.1.length ∧ 0 < x.2.2.2.2.1.length ∧ x.2.2.2.2.1.length ≤ 1000 ∧ (∀ e ∈ x.2.2.2.2.1, 0 ≤ e), rel := fun (x : Src × Int × Int × List Int × List Int × Unit) (y : Nd × Unit) (z : Src × Int × Int × List Int × List Int × Unit) => 0 ≤ z.1.2 ∧ StripR x.2.2.2.1 x.2.1 x.2.2.1 x.2.2.2.2.1 y.1 }
theorem c30 : RCtrOk Tryz.prog 30 con30.rctr :=
 iA6 eA0 (eC c38 has38 (eC c29 has29 (eC c60 has60 eN))) rfl Tryz.func30 rfl con30 70919070432287 (by kernel_rfl) (by decide) (by decide) rfl (by decide) rfl (by
  rintro ⟨⟨(s : List Int), (a : Int)⟩, (i : Int), (zone : Int), (K : List Int), (T : List Int), _⟩ hpre hwf X hT hG hk hK
  (simp -implicitDefEqProofs (maxSteps := 4000000) only [go_sem, bP, con30, con38, con29, con60, hT, hG, hk, hK, Tryz.results30] at hwf ⊢)
  obtain ⟨h1, h2, h3, h4, h5⟩ : 0 ≤ a ∧ 0 < K.length ∧ 0 < T.length ∧ T.length ≤ 1000 ∧ (∀ e ∈ T, 0 ≤ e) := hpre; clear hwf; have hk0 := xA0 (Src.raw (s, a)) K.length (by omega); obtain ⟨k0, ek0⟩ : ∃ k0, K.getD (goMod (Src.raw (s, a)) K.length).toNat 0 = k0 := ⟨_, rfl⟩; have hkm : k0 ∈ K := by
   rw [← ek0, gdE, List.getElem?_eq_getElem (by omega)]; exact List.getElem_mem _
  have p1 : 0 ≤ (Src.step (s, a)).2 := Src.step_pos' h1; have hr := xA0 (Src.step (s, a)).raw (3 - 1 + 1) (by omega); have p2 := Src.step_pos' p1; have o1 := wB3 (Src.step (s, a)).step T (-1); have p3 := aB8 (s := (Src.step (s, a)).step) T (-1) p2; rw [ek0]; generalize goMod (Src.step (s, a)).raw (3 - 1 + 1) = r at *; generalize othV (Src.step (s, a)).step T (-1) = e1 at *; have o2 := wB3 (othS (Src.step (s, a)).step T (-1)) T e1; have p4 := aB8 (s := othS (Src.step (s, a)).step T (-1)) T e1 p3; generalize othS (othS (Src.step (s, a)).step T (-1)) T e1 = s4 at *; generalize othV (othS (Src.step (s, a)).step T (-1)) T e1 = e2 at *; generalize othS (Src.step (s, a)).step T (-1) = s3 at *; have m1 : e1 ∈ T := by
   rcases o1 with ⟨_, h⟩ | h
   · obtain ⟨x, hx⟩ := List.exists_mem_of_length_pos h3; have := h x hx; have := h5 x hx; omega
   · exact h.1
  have m2 : ¬ e2 < 0 → e2 ∈ T ∧ e1 ≠ e2 := fun h => by
   rcases o2 with ⟨h', _⟩ | h'
   · omega
   · exact ⟨h'.1, fun k => h'.2 k.symm⟩
  refine ⟨⟨h1, h2⟩, fun _ => ⟨⟨p1, by decide, by decide, by decide⟩, fun _ => ⟨⟨p2, h4⟩, fun _ => ⟨fun h => ⟨by omega, ?_⟩, fun hn => ⟨fun h => ⟨⟨p3, h4⟩, fun _ => ⟨fun hl => ?_, fun hl => ?_⟩⟩, fun hn4 => ?_⟩⟩⟩⟩⟩
  · refine ⟨((ByteArray.empty, k0, 1 + r + 1, zone, [i, e1]), ()), (s3, i, zone, K, T, ()), ⟨p3, rfl, rfl, .inl ⟨h, by rw [← h]; exact hkm, by dsimp only; omega, by dsimp only; omega, e1, m1, rfl⟩⟩, rfl, rfl, rfl, rfl, rfl, rfl, rfl⟩
  · refine ⟨((ByteArray.empty, 2, 1 + r, zone, [e1]), ()), (s4, i, zone, K, T, ()), ⟨p4, rfl, rfl, .inr (.inr ⟨.inr ⟨by rw [← h]; exact hkm, rfl⟩, by dsimp only; omega, by dsimp only; omega, e1, m1, rfl⟩)⟩, rfl, rfl, rfl, rfl, rfl, rfl, rfl⟩
  · obtain ⟨m3, m4⟩ := m2 hl; refine ⟨((ByteArray.empty, k0, 1 + r, zone, [e1, e2]), ()), (s4, i, zone, K, T, ()), ⟨p4, rfl, rfl, .inr (.inl ⟨h, by rw [← h]; exact hkm, by dsimp only; omega, by dsimp only; omega, e1, m1, e2, m3, m4, rfl⟩)⟩, rfl, rfl, rfl, rfl, rfl, rfl, rfl⟩
  · refine ⟨((ByteArray.empty, k0, 1 + r, zone, [e1]), ()), (s3, i, zone, K, T, ()), ⟨p3, rfl, rfl, .inr (.inr ⟨.inl ⟨hkm, hn4, hn⟩, by dsimp only; omega, by dsimp only; omega, e1, m1, rfl⟩)⟩, rfl, rfl, rfl, rfl, rfl, rfl, rfl⟩)
structure DevI (ns : List Nd) (i w : Int) (ds : List Dv) : Prop where
 len : ds.length ≤ 24
 ok : ∀ d ∈ ds, (d.1 = 1 ∨ d.1 = 2) ∧ 0 ≤ d.2.1 ∧ d.2.1 < ns.length ∧ 0 ≤ d.2.2 ∧ d.2.2 < (ns.getD d.2.1.toNat nd0).2.2.1
 lt : ∀ d ∈ ds, d.2.1 < i ∨ (d.2.1 = i ∧ d.2.2 < w)
 nd : ds.Nodup
theorem DevI.add {ns : List Nd} {i w : Int} {E : List Dv} (h : DevI ns i w E) (hw : 0 ≤ w) (k : List Int) (hk : k = [] ∨ k = [2] ∨ k = [1] ∨ k = [2, 1]) (hl : (E ++ k.map (fun k => (k, i, w))).length ≤ 24) (hi : k ≠ [] → 0 ≤ i ∧ i < ns.length ∧ w < (ns.getD i.toNat nd0).2.2.1) :
 DevI ns i (w + 1) (E ++ k.map (fun k => (k, i, w))) := by
 have hm : ∀ d ∈ k.map (fun k : Int => ((k, i, w) : Dv)), (d.1 = 1 ∨ d.1 = 2) ∧ d.2.1 = i ∧ d.2.2 = w ∧ k ≠ [] := by
  intro d hd; obtain ⟨q, hq, rfl⟩ := List.mem_map.1 hd
  rcases hk with rfl | rfl | rfl | rfl <;> simp at hq ⊢ <;> omega
 refine ⟨hl, fun d hd => ?_, fun d hd => ?_, ?_⟩
 · rcases List.mem_append.1 hd with hd | hd
   · exact h.ok d hd
   · obtain ⟨h1, h2, h3, h4⟩ := hm d hd; obtain ⟨g1, g2, g3⟩ := hi h4; rw [h2, h3]; exact ⟨h1, g1, g2, hw, g3⟩
 · rcases List.mem_append.1 hd with hd | hd
   · rcases h.lt d hd with q | q
     · exact .inl q
     · exact .inr ⟨q.1, by omega⟩
   · obtain ⟨h1, h2, h3, h4⟩ := hm d hd; exact .inr ⟨h2, by omega⟩
 · rw [List.nodup_append]; refine ⟨h.nd, ?_, fun d hd d' hd' e => ?_⟩
   · rcases hk with rfl | rfl | rfl | rfl <;> simp
   · obtain ⟨h1, h2, h3, h4⟩ := hm d' hd'; rw [← e] at h2 h3
     rcases h.lt d hd with q | q <;> omega
theorem DevI.up {ns : List Nd} {i w : Int} {E : List Dv} (h : DevI ns i w E) : DevI ns (i + 1) 0 E :=
 ⟨h.len, h.ok, fun d hd => .inl (by rcases h.lt d hd with q | q <;> omega), h.nd⟩
def con33 : RCon := { ps := [.p 75 ySR, .d true yLY], rs := [.o 111 yPL], pre := fun (x : Src × Ly × Unit) => 0 ≤ x.1.2 ∧ x.2.1.1.length ≤ 1000 ∧ (∀ y ∈ x.2.1.1, y.2.2.1 ≤ 1000), rel := fun (x : Src × Ly × Unit) (y : List Dv × Unit) (z : Src × Ly × Unit) => 0 ≤ z.1.2 ∧ DevR x.2.1.1 y.1 }
theorem c33 : RCtrOk Tryz.prog 33 con33.rctr :=
 iA6 (G := ⟨[(31, con31.ctr)], [], [(40, 4), (66, 4)], [], []⟩) eA0 (EnvOk.cons c31 has31 EnvOk.nil) rfl Tryz.func33 rfl con33 295165919577870705147 (by kernel_rfl) (by decide) (by decide) rfl (by decide) rfl (by
  rintro ⟨⟨(s : List Int), (a : Int)⟩, ⟨(ns : List Nd), (ds : List Dv)⟩, _⟩ hpre hwf X hT hG hk hK
  (simp -implicitDefEqProofs (maxSteps := 4000000) only [go_sem, bP, con33, con31, hT, hG, hk, hK, Tryz.results33] at hwf ⊢)
  obtain ⟨h1, h2, h3⟩ : 0 ≤ a ∧ ns.length ≤ 1000 ∧ (∀ y ∈ ns, y.2.2.1 ≤ 1000) := hpre; clear hwf; refine cA0 ⟨{ q : Nat × Src × List Dv // q.1 ≤ ns.length ∧ 0 ≤ q.2.1.2 ∧ DevI ns q.1 0 q.2.2 }, 1000, fun q => [(0, .one (.loc 0 0)), (3, .one (.loc 65 0)), (5, .one (.row 64)), (6, .one (.int .i64 q.1.1))], fun q => [(0, .cells 75 [.sl yI q.1.2.1.1 false, .int .i64 q.1.2.1.2]), (65, .cells 30 [.sl yNO ns false, .sl yPL ds false]), (64, .row 111 yPL q.1.2.2)], fun q => ns.length - q.1.1⟩ ⟨(0, (s, a), []), by dsimp only; omega, h1, by simp, by simp, by simp, by simp⟩ ?_ ?_
  · simp only [go_sem]; rfl
  · rintro ⟨⟨i, ⟨(s1 : List Int), (a1 : Int)⟩, (D : List Dv)⟩, (hi : i ≤ ns.length), (ha1 : 0 ≤ a1), (hD : DevI ns i 0 D)⟩
    (simp -implicitDefEqProofs (maxSteps := 4000000) only [go_sem, bP, con33, con31, hT, hG, hk, hK, Tryz.results33])
    refine fun _ => ⟨fun hlt => ?_, fun hge => ?_⟩
    · have hi' : i < ns.length := by omega
      have ek : ∀ z, ns.getD (i : Int).toNat z = ns[i] := fun z => by simp [hi']
      have eg : ns.getD (i : Int).toNat nd0 = ns[i] := ek _; have hb := h3 ns[i] (List.getElem_mem hi'); refine cA0 ⟨{ q : Nat × Src × List Dv // ((q.1 : Int) ≤ ns[i].2.2.1 ∨ q.1 = 0) ∧ 0 ≤ q.2.1.2 ∧ DevI ns i q.1 q.2.2 }, 2000, fun q => [(0, .one (.loc 0 0)), (3, .one (.loc 65 0)), (5, .one (.row 64)), (6, .one (.int .i64 i)), (7, .one (.int .i64 q.1.1))], fun q => [(0, .cells 75 [.sl yI q.1.2.1.1 false, .int .i64 q.1.2.1.2]), (65, .cells 30 [.sl yNO ns false, .sl yPL ds false]), (64, .row 111 yPL q.1.2.2)], fun q => ns[i].2.2.1.toNat - q.1.1⟩ ⟨(0, (s1, a1), D), .inr rfl, ha1, hD⟩ ?_ ?_
      · simp only [go_sem]; rfl
      · rintro ⟨⟨w, ⟨(s2 : List Int), (a2 : Int)⟩, (E : List Dv)⟩, hw, (ha2 : 0 ≤ a2), (hE : DevI ns i w E)⟩
        (simp -implicitDefEqProofs (maxSteps := 4000000) only [go_sem, bP, con33, con31, hT, hG, hk, hK, Tryz.results33])
        simp only [ek]; have hb1 := xA0 (Src.raw (s2, a2)) 3 (by omega); have p1 : 0 ≤ (Src.step (s2, a2)).2 := Src.step_pos' ha2; have p2 := Src.step_pos' p1; have hel := hE.len; have hlen : (E ++ [((2, (i : Int), (w : Int)) : Dv)]).length = E.length + 1 := by simp
        (repeat' with_reducible first | refine And.intro ?_ ?_ | intro _) <;> try first | with_reducible (first | assumption | omega | contradiction) | decide
        all_goals first
         | exact p1
         | (refine dA0 ⟨(w + 1, (s2, a2), E ++ ([] : List Int).map (fun k => (k, (i : Int), (w : Int)))), .inl (by omega), ha2, hE.add (by omega) [] (by simp) (by simp only [List.map_cons, List.map_nil, List.length_append, List.length_cons, List.length_nil]; omega) (fun _ => ⟨by omega, by omega, by rw [eg]; assumption⟩)⟩ ?_ (by dsimp only; omega)
            simp only [go_sem]
            try simp only [List.append_assoc, List.cons_append, List.nil_append]
            try first | rfl | (and_intros <;> first | trivial | rfl | omega)
            done)
         | (refine dA0 ⟨(w + 1, (s2, a2), E ++ ([2] : List Int).map (fun k => (k, (i : Int), (w : Int)))), .inl (by omega), ha2, hE.add (by omega) [2] (by simp) (by simp only [List.map_cons, List.map_nil, List.length_append, List.length_cons, List.length_nil]; omega) (fun _ => ⟨by omega, by omega, by rw [eg]; assumption⟩)⟩ ?_ (by dsimp only; omega)
            simp only [go_sem]
            try simp only [List.append_assoc, List.cons_append, List.nil_append]
            try first | rfl | (and_intros <;> first | trivial | rfl | omega)
            done)
         | (refine dA0 ⟨(w + 1, (s2, a2), E ++ ([1] : List Int).map (fun k => (k, (i : Int), (w : Int)))), .inl (by omega), ha2, hE.add (by omega) [1] (by simp) (by simp only [List.map_cons, List.map_nil, List.length_append, List.length_cons, List.length_nil]; omega) (fun _ => ⟨by omega, by omega, by rw [eg]; assumption⟩)⟩ ?_ (by dsimp only; omega)
            simp only [go_sem]
            try simp only [List.append_assoc, List.cons_append, List.nil_append]
            try first | rfl | (and_intros <;> first | trivial | rfl | omega)
            done)
         | (refine dA0 ⟨(w + 1, (s2, a2), E ++ ([2, 1] : List Int).map (fun k => (k, (i : Int), (w : Int)))), .inl (by omega), ha2, hE.add (by omega) [2, 1] (by simp) (by simp only [List.map_cons, List.map_nil, List.length_append, List.length_cons, List.length_nil]; omega) (fun _ => ⟨by omega, by omega, by rw [eg]; assumption⟩)⟩ ?_ (by dsimp only; omega)
            simp only [go_sem]
            try simp only [List.append_assoc, List.cons_append, List.nil_append]
            try first | rfl | (and_intros <;> first | trivial | rfl | omega)
            done)
         | (refine dA0 ⟨(w + 1, Src.step (s2, a2), E ++ ([] : List Int).map (fun k => (k, (i : Int), (w : Int)))), .inl (by omega), p1, hE.add (by omega) [] (by simp) (by simp only [List.map_cons, List.map_nil, List.length_append, List.length_cons, List.length_nil]; omega) (fun _ => ⟨by omega, by omega, by rw [eg]; assumption⟩)⟩ ?_ (by dsimp only; omega)
            simp only [go_sem]
            try simp only [List.append_assoc, List.cons_append, List.nil_append]
            try first | rfl | (and_intros <;> first | trivial | rfl | omega)
            done)
         | (refine dA0 ⟨(w + 1, Src.step (s2, a2), E ++ ([2] : List Int).map (fun k => (k, (i : Int), (w : Int)))), .inl (by omega), p1, hE.add (by omega) [2] (by simp) (by simp only [List.map_cons, List.map_nil, List.length_append, List.length_cons, List.length_nil]; omega) (fun _ => ⟨by omega, by omega, by rw [eg]; assumption⟩)⟩ ?_ (by dsimp only; omega)
            simp only [go_sem]
            try simp only [List.append_assoc, List.cons_append, List.nil_append]
            try first | rfl | (and_intros <;> first | trivial | rfl | omega)
            done)
         | (refine dA0 ⟨(w + 1, Src.step (s2, a2), E ++ ([1] : List Int).map (fun k => (k, (i : Int), (w : Int)))), .inl (by omega), p1, hE.add (by omega) [1] (by simp) (by simp only [List.map_cons, List.map_nil, List.length_append, List.length_cons, List.length_nil]; omega) (fun _ => ⟨by omega, by omega, by rw [eg]; assumption⟩)⟩ ?_ (by dsimp only; omega)
            simp only [go_sem]
            try simp only [List.append_assoc, List.cons_append, List.nil_append]
            try first | rfl | (and_intros <;> first | trivial | rfl | omega)
            done)
         | (refine dA0 ⟨(w + 1, Src.step (s2, a2), E ++ ([2, 1] : List Int).map (fun k => (k, (i : Int), (w : Int)))), .inl (by omega), p1, hE.add (by omega) [2, 1] (by simp) (by simp only [List.map_cons, List.map_nil, List.length_append, List.length_cons, List.length_nil]; omega) (fun _ => ⟨by omega, by omega, by rw [eg]; assumption⟩)⟩ ?_ (by dsimp only; omega)
            simp only [go_sem]
            try simp only [List.append_assoc, List.cons_append, List.nil_append]
            try first | rfl | (and_intros <;> first | trivial | rfl | omega)
            done)
         | (refine dA0 ⟨(w + 1, (Src.step (s2, a2)).step, E ++ ([] : List Int).map (fun k => (k, (i : Int), (w : Int)))), .inl (by omega), p2, hE.add (by omega) [] (by simp) (by simp only [List.map_cons, List.map_nil, List.length_append, List.length_cons, List.length_nil]; omega) (fun _ => ⟨by omega, by omega, by rw [eg]; assumption⟩)⟩ ?_ (by dsimp only; omega)
            simp only [go_sem]
            try simp only [List.append_assoc, List.cons_append, List.nil_append]
            try first | rfl | (and_intros <;> first | trivial | rfl | omega)
            done)
         | (refine dA0 ⟨(w + 1, (Src.step (s2, a2)).step, E ++ ([2] : List Int).map (fun k => (k, (i : Int), (w : Int)))), .inl (by omega), p2, hE.add (by omega) [2] (by simp) (by simp only [List.map_cons, List.map_nil, List.length_append, List.length_cons, List.length_nil]; omega) (fun _ => ⟨by omega, by omega, by rw [eg]; assumption⟩)⟩ ?_ (by dsimp only; omega)
            simp only [go_sem]
            try simp only [List.append_assoc, List.cons_append, List.nil_append]
            try first | rfl | (and_intros <;> first | trivial | rfl | omega)
            done)
         | (refine dA0 ⟨(w + 1, (Src.step (s2, a2)).step, E ++ ([1] : List Int).map (fun k => (k, (i : Int), (w : Int)))), .inl (by omega), p2, hE.add (by omega) [1] (by simp) (by simp only [List.map_cons, List.map_nil, List.length_append, List.length_cons, List.length_nil]; omega) (fun _ => ⟨by omega, by omega, by rw [eg]; assumption⟩)⟩ ?_ (by dsimp only; omega)
            simp only [go_sem]
            try simp only [List.append_assoc, List.cons_append, List.nil_append]
            try first | rfl | (and_intros <;> first | trivial | rfl | omega)
            done)
         | (refine dA0 ⟨(w + 1, (Src.step (s2, a2)).step, E ++ ([2, 1] : List Int).map (fun k => (k, (i : Int), (w : Int)))), .inl (by omega), p2, hE.add (by omega) [2, 1] (by simp) (by simp only [List.map_cons, List.map_nil, List.length_append, List.length_cons, List.length_nil]; omega) (fun _ => ⟨by omega, by omega, by rw [eg]; assumption⟩)⟩ ?_ (by dsimp only; omega)
            simp only [go_sem]
            try simp only [List.append_assoc, List.cons_append, List.nil_append]
            try first | rfl | (and_intros <;> first | trivial | rfl | omega)
            done)
         | (refine dA0 ⟨(i + 1, (s2, a2), E), by dsimp only; omega, ha2, hE.up⟩ ?_ (by dsimp only; omega)
            simp only [go_sem]
            try rfl
            done)
    · exact ⟨(D, ()), ((s1, a1), (ns, ds), ()), ⟨ha1, ⟨hD.len, hD.ok, hD.nd⟩⟩, rfl, rfl, rfl⟩)
end Go.Proofs.YtabadacjbkhmkaaGreatDoor
