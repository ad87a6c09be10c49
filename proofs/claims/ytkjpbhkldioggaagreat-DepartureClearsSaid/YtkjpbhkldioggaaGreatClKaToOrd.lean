/- Part. -/
import Derived.Test.YtkjpbhkldioggaaGreatClTab
import Derived.Test.YtkjpbhkldioggaaGreatEvFun5
import Derived.Shelf.SortM.Plain
import Derived.Shelf.SortM.SortNone
import Derived.Shelf.SlSortCmp.WholeK
import Derived.Shelf.SlSortCmp.NoneTotal
import Derived.Test.YtkjpbhkldioggaaGreatEvSimp
set_option linter.all false
set_option maxRecDepth 100000
set_option maxHeartbeats 4000000
namespace Go.Proofs.YtkjpbhkldioggaaGreat
open Go.Ev
theorem has4 : FnHas Tryz.prog 4 := ⟨⟨_, Tryz.func4, by kernel_rfl, by kernel_rfl⟩⟩
theorem has5 : FnHas Tryz.prog 5 := ⟨⟨_, Tryz.func5, by kernel_rfl, by kernel_rfl⟩⟩
theorem has6 : FnHas Tryz.prog 6 := ⟨⟨_, Tryz.func6, by kernel_rfl, by kernel_rfl⟩⟩
theorem has7 : FnHas Tryz.prog 7 := ⟨⟨_, Tryz.func7, by kernel_rfl, by kernel_rfl⟩⟩
theorem has8 : FnHas Tryz.prog 8 := ⟨⟨_, Tryz.func8, by kernel_rfl, by kernel_rfl⟩⟩
theorem has9 : FnHas Tryz.prog 9 := ⟨⟨_, Tryz.func9, by kernel_rfl, by kernel_rfl⟩⟩
theorem has10 : FnHas Tryz.prog 10 := ⟨⟨_, Tryz.func10, by kernel_rfl, by kernel_rfl⟩⟩
theorem has11 : FnHas Tryz.prog 11 := ⟨⟨_, Tryz.func11, by kernel_rfl, by kernel_rfl⟩⟩
theorem has12 : FnHas Tryz.prog 12 := ⟨⟨_, Tryz.func12, by kernel_rfl, by kernel_rfl⟩⟩
theorem has13 : FnHas Tryz.prog 13 := ⟨⟨_, Tryz.func13, by kernel_rfl, by kernel_rfl⟩⟩
theorem has14 : FnHas Tryz.prog 14 := ⟨⟨_, Tryz.func14, by kernel_rfl, by kernel_rfl⟩⟩
theorem has15 : FnHas Tryz.prog 15 := ⟨⟨_, Tryz.func15, by kernel_rfl, by kernel_rfl⟩⟩
theorem has16 : FnHas Tryz.prog 16 := ⟨⟨_, Tryz.func16, by kernel_rfl, by kernel_rfl⟩⟩
theorem has17 : FnHas Tryz.prog 17 := ⟨⟨_, Tryz.func17, by kernel_rfl, by kernel_rfl⟩⟩
theorem has18 : FnHas Tryz.prog 18 := ⟨⟨_, Tryz.func18, by kernel_rfl, by kernel_rfl⟩⟩
theorem has19 : FnHas Tryz.prog 19 := ⟨⟨_, Tryz.func19, by kernel_rfl, by kernel_rfl⟩⟩
theorem has20 : FnHas Tryz.prog 20 := ⟨⟨_, Tryz.func20, by kernel_rfl, by kernel_rfl⟩⟩
theorem has21 : FnHas Tryz.prog 21 := ⟨⟨_, Tryz.func21, by kernel_rfl, by kernel_rfl⟩⟩
theorem has22 : FnHas Tryz.prog 22 := ⟨⟨_, Tryz.func22, by kernel_rfl, by kernel_rfl⟩⟩
theorem has23 : FnHas Tryz.prog 23 := ⟨⟨_, Tryz.func23, by kernel_rfl, by kernel_rfl⟩⟩
theorem has24 : FnHas Tryz.prog 24 := ⟨⟨_, Tryz.func24, by kernel_rfl, by kernel_rfl⟩⟩
theorem has25 : FnHas Tryz.prog 25 := ⟨⟨_, Tryz.func25, by kernel_rfl, by kernel_rfl⟩⟩
theorem has26 : FnHas Tryz.prog 26 := ⟨⟨_, Tryz.func26, by kernel_rfl, by kernel_rfl⟩⟩
theorem has27 : FnHas Tryz.prog 27 := ⟨⟨_, Tryz.func27, by kernel_rfl, by kernel_rfl⟩⟩
theorem has28 : FnHas Tryz.prog 28 := ⟨⟨_, Tryz.func28, by kernel_rfl, by kernel_rfl⟩⟩
theorem has29 : FnHas Tryz.prog 29 := ⟨⟨_, Tryz.func29, by kernel_rfl, by kernel_rfl⟩⟩
theorem has30 : FnHas Tryz.prog 30 := ⟨⟨_, Tryz.func30, by kernel_rfl, by kernel_rfl⟩⟩
theorem has31 : FnHas Tryz.prog 31 := ⟨⟨_, Tryz.func31, by kernel_rfl, by kernel_rfl⟩⟩
theorem has32 : FnHas Tryz.prog 32 := ⟨⟨_, Tryz.func32, by kernel_rfl, by kernel_rfl⟩⟩
theorem has33 : FnHas Tryz.prog 33 := ⟨⟨_, Tryz.func33, by kernel_rfl, by kernel_rfl⟩⟩
theorem has34 : FnHas Tryz.prog 34 := ⟨⟨_, Tryz.func34, by kernel_rfl, by kernel_rfl⟩⟩
theorem has35 : FnHas Tryz.prog 35 := ⟨⟨_, Tryz.func35, by kernel_rfl, by kernel_rfl⟩⟩
theorem has36 : FnHas Tryz.prog 36 := ⟨⟨_, Tryz.func36, by kernel_rfl, by kernel_rfl⟩⟩
theorem has37 : FnHas Tryz.prog 37 := ⟨⟨_, Tryz.func37, by kernel_rfl, by kernel_rfl⟩⟩
theorem has38 : FnHas Tryz.prog 38 := ⟨⟨_, Tryz.func38, by kernel_rfl, by kernel_rfl⟩⟩
theorem has39 : FnHas Tryz.prog 39 := ⟨⟨_, Tryz.func39, by kernel_rfl, by kernel_rfl⟩⟩
theorem has40 : FnHas Tryz.prog 40 := ⟨⟨_, Tryz.func40, by kernel_rfl, by kernel_rfl⟩⟩
theorem has41 : FnHas Tryz.prog 41 := ⟨⟨_, Tryz.func41, by kernel_rfl, by kernel_rfl⟩⟩
theorem has42 : FnHas Tryz.prog 42 := ⟨⟨_, Tryz.func42, by kernel_rfl, by kernel_rfl⟩⟩
theorem has43 : FnHas Tryz.prog 43 := ⟨⟨_, Tryz.func43, by kernel_rfl, by kernel_rfl⟩⟩
theorem has44 : FnHas Tryz.prog 44 := ⟨⟨_, Tryz.func44, by kernel_rfl, by kernel_rfl⟩⟩
theorem has45 : FnHas Tryz.prog 45 := ⟨⟨_, Tryz.func45, by kernel_rfl, by kernel_rfl⟩⟩
theorem has46 : FnHas Tryz.prog 46 := ⟨⟨_, Tryz.func46, by kernel_rfl, by kernel_rfl⟩⟩
theorem has47 : FnHas Tryz.prog 47 := ⟨⟨_, Tryz.func47, by kernel_rfl, by kernel_rfl⟩⟩
theorem has48 : FnHas Tryz.prog 48 := ⟨⟨_, Tryz.func48, by kernel_rfl, by kernel_rfl⟩⟩
theorem has49 : FnHas Tryz.prog 49 := ⟨⟨_, Tryz.func49, by kernel_rfl, by kernel_rfl⟩⟩
theorem has50 : FnHas Tryz.prog 50 := ⟨⟨_, Tryz.func50, by kernel_rfl, by kernel_rfl⟩⟩
theorem has51 : FnHas Tryz.prog 51 := ⟨⟨_, Tryz.func51, by kernel_rfl, by kernel_rfl⟩⟩
theorem has52 : FnHas Tryz.prog 52 := ⟨⟨_, Tryz.func52, by kernel_rfl, by kernel_rfl⟩⟩
theorem has53 : FnHas Tryz.prog 53 := ⟨⟨_, Tryz.func53, by kernel_rfl, by kernel_rfl⟩⟩
theorem has54 : FnHas Tryz.prog 54 := ⟨⟨_, Tryz.func54, by kernel_rfl, by kernel_rfl⟩⟩
theorem has55 : FnHas Tryz.prog 55 := ⟨⟨_, Tryz.func55, by kernel_rfl, by kernel_rfl⟩⟩
theorem has56 : FnHas Tryz.prog 56 := ⟨⟨_, Tryz.func56, by kernel_rfl, by kernel_rfl⟩⟩
theorem has57 : FnHas Tryz.prog 57 := ⟨⟨_, Tryz.func57, by kernel_rfl, by kernel_rfl⟩⟩
theorem has58 : FnHas Tryz.prog 58 := ⟨⟨_, Tryz.func58, by kernel_rfl, by kernel_rfl⟩⟩
theorem has59 : FnHas Tryz.prog 59 := ⟨⟨_, Tryz.func59, by kernel_rfl, by kernel_rfl⟩⟩
theorem has60 : FnHas Tryz.prog 60 := ⟨⟨_, Tryz.func60, by kernel_rfl, by kernel_rfl⟩⟩
theorem has61 : FnHas Tryz.prog 61 := ⟨⟨_, Tryz.func61, by kernel_rfl, by kernel_rfl⟩⟩
theorem has62 : FnHas Tryz.prog 62 := ⟨⟨_, Tryz.func62, by kernel_rfl, by kernel_rfl⟩⟩
theorem has63 : FnHas Tryz.prog 63 := ⟨⟨_, Tryz.func63, by kernel_rfl, by kernel_rfl⟩⟩
theorem has64 : FnHas Tryz.prog 64 := ⟨⟨_, Tryz.func64, by kernel_rfl, by kernel_rfl⟩⟩
theorem has65 : FnHas Tryz.prog 65 := ⟨⟨_, Tryz.func65, by kernel_rfl, by kernel_rfl⟩⟩
theorem has66 : FnHas Tryz.prog 66 := ⟨⟨_, Tryz.func66, by kernel_rfl, by kernel_rfl⟩⟩
theorem has67 : FnHas Tryz.prog 67 := ⟨⟨_, Tryz.func67, by kernel_rfl, by kernel_rfl⟩⟩
theorem has68 : FnHas Tryz.prog 68 := ⟨⟨_, Tryz.func68, by kernel_rfl, by kernel_rfl⟩⟩
theorem has69 : FnHas Tryz.prog 69 := ⟨⟨_, Tryz.func69, by kernel_rfl, by kernel_rfl⟩⟩
theorem has70 : FnHas Tryz.prog 70 := ⟨⟨_, Tryz.func70, by kernel_rfl, by kernel_rfl⟩⟩
theorem has71 : FnHas Tryz.prog 71 := ⟨⟨_, Tryz.func71, by kernel_rfl, by kernel_rfl⟩⟩
theorem has72 : FnHas Tryz.prog 72 := ⟨⟨_, Tryz.func72, by kernel_rfl, by kernel_rfl⟩⟩
theorem has73 : FnHas Tryz.prog 73 := ⟨⟨_, Tryz.func73, by kernel_rfl, by kernel_rfl⟩⟩
theorem has74 : FnHas Tryz.prog 74 := ⟨⟨_, Tryz.func74, by kernel_rfl, by kernel_rfl⟩⟩
theorem has75 : FnHas Tryz.prog 75 := ⟨⟨_, Tryz.func75, by kernel_rfl, by kernel_rfl⟩⟩
theorem has76 : FnHas Tryz.prog 76 := ⟨⟨_, Tryz.func76, by kernel_rfl, by kernel_rfl⟩⟩
theorem has77 : FnHas Tryz.prog 77 := ⟨⟨_, Tryz.func77, by kernel_rfl, by kernel_rfl⟩⟩
theorem has78 : FnHas Tryz.prog 78 := ⟨⟨_, Tryz.func78, by kernel_rfl, by kernel_rfl⟩⟩
theorem has79 : FnHas Tryz.prog 79 := ⟨⟨_, Tryz.func79, by kernel_rfl, by kernel_rfl⟩⟩
theorem has80 : FnHas Tryz.prog 80 := ⟨⟨_, Tryz.func80, by kernel_rfl, by kernel_rfl⟩⟩
theorem has81 : FnHas Tryz.prog 81 := ⟨⟨_, Tryz.func81, by kernel_rfl, by kernel_rfl⟩⟩
theorem has82 : FnHas Tryz.prog 82 := ⟨⟨_, Tryz.func82, by kernel_rfl, by kernel_rfl⟩⟩
theorem has85 : FnHas Tryz.prog 85 := ⟨⟨_, Tryz.func85, by kernel_rfl, by kernel_rfl⟩⟩
theorem has86 : FnHas Tryz.prog 86 := ⟨⟨_, Tryz.func86, by kernel_rfl, by kernel_rfl⟩⟩
theorem has87 : FnHas Tryz.prog 87 := ⟨⟨_, Tryz.func87, by kernel_rfl, by kernel_rfl⟩⟩
theorem has88 : FnHas Tryz.prog 88 := ⟨⟨_, Tryz.func88, by kernel_rfl, by kernel_rfl⟩⟩
theorem has89 : FnHas Tryz.prog 89 := ⟨⟨_, Tryz.func89, by kernel_rfl, by kernel_rfl⟩⟩
theorem has90 : FnHas Tryz.prog 90 := ⟨⟨_, Tryz.func90, by kernel_rfl, by kernel_rfl⟩⟩
theorem has91 : FnHas Tryz.prog 91 := ⟨⟨_, Tryz.func91, by kernel_rfl, by kernel_rfl⟩⟩
theorem has92 : FnHas Tryz.prog 92 := ⟨⟨_, Tryz.func92, by kernel_rfl, by kernel_rfl⟩⟩
theorem has93 : FnHas Tryz.prog 93 := ⟨⟨_, Tryz.func93, by kernel_rfl, by kernel_rfl⟩⟩
theorem has95 : FnHas Tryz.prog 95 := ⟨⟨_, Tryz.func95, by kernel_rfl, by kernel_rfl⟩⟩
theorem has97 : FnHas Tryz.prog 97 := ⟨⟨_, Tryz.func97, by kernel_rfl, by kernel_rfl⟩⟩
theorem has98 : FnHas Tryz.prog 98 := ⟨⟨_, Tryz.func98, by kernel_rfl, by kernel_rfl⟩⟩
theorem has99 : FnHas Tryz.prog 99 := ⟨⟨_, Tryz.func99, by kernel_rfl, by kernel_rfl⟩⟩
theorem has100 : FnHas Tryz.prog 100 := ⟨⟨_, Tryz.func100, by kernel_rfl, by kernel_rfl⟩⟩
theorem has111 : FnHas Tryz.prog 111 := ⟨⟨_, Tryz.func111, by kernel_rfl, by kernel_rfl⟩⟩
theorem has112 : FnHas Tryz.prog 112 := ⟨⟨_, Tryz.func112, by kernel_rfl, by kernel_rfl⟩⟩
theorem has135 : FnHas Tryz.prog 135 := ⟨⟨_, Tryz.func135, by kernel_rfl, by kernel_rfl⟩⟩
theorem has136 : FnHas Tryz.prog 136 := ⟨⟨_, Tryz.func136, by kernel_rfl, by kernel_rfl⟩⟩
theorem has144 : FnHas Tryz.prog 144 := ⟨⟨_, Tryz.func144, by kernel_rfl, by kernel_rfl⟩⟩
theorem has145 : FnHas Tryz.prog 145 := ⟨⟨_, Tryz.func145, by kernel_rfl, by kernel_rfl⟩⟩
theorem has146 : FnHas Tryz.prog 146 := ⟨⟨_, Tryz.func146, by kernel_rfl, by kernel_rfl⟩⟩
def goMod (x n : Int) : Int := if n < 1 then 0 else if x.tmod n < 0 then x.tmod n + n else x.tmod n
theorem tmod_bd (x n : Int) (h : 1 ≤ n) : -n < x.tmod n ∧ x.tmod n < n := by
 have h1 := Int.tmod_lt_of_pos x (show 0 < n by omega); have h2 := Int.lt_tmod_of_pos x (show 0 < n by omega); omega
theorem goMod_bd (x n : Int) (h : 1 ≤ n) : 0 ≤ goMod x n ∧ goMod x n < n := by
 have := tmod_bd x n h; unfold goMod; rw [if_neg (by omega)]; split <;> omega
def con18 : Con := { ps := [.d false yI, .d false yI], rs := [.d false yI], pre := fun _ => True, out := fun x => (goMod x.1 x.2.1, ()), nw := id }
theorem c18 : CtrOk Tryz.prog 18 con18.ctr :=
 con_sound (G := ⟨[], [], [], [], []⟩) tab_ok EnvOk.nil rfl Tryz.func18 rfl con18 2131 (by kernel_rfl) (by decide) (by decide) rfl (by decide) rfl (by
  rintro ⟨(x : Int), (n : Int), _⟩ hpre hwf X hT hG hk hK
  (simp -implicitDefEqProofs only [go_sem, con18, hT, hG, hk, hK, Tryz.results18] at hwf ⊢)
  unfold goMod; by_cases hn : n < 1
  · simp [hn]
  · have hb := tmod_bd x n (by omega); have hn0 : n ≠ 0 := by omega
    simp only [hn, if_false, not_false_eq_true, true_implies, false_implies, true_and]; refine ⟨⟨hn0, by omega, by omega⟩, fun h => ⟨⟨by omega, by omega⟩, ?_⟩, fun h => ?_⟩
    · rw [if_pos h]
    · rw [if_neg h])
abbrev Src := List Int × Int
def Src.raw (s : Src) : Int := if s.2 ≥ s.1.length then 0 else s.1.getD s.2.toNat 0
def Src.step (s : Src) : Src := if s.2 ≥ s.1.length then s else (s.1, s.2 + 1)
theorem Src.step_pos (s : Src) (h : 0 ≤ s.2) : 0 ≤ s.step.2 := by unfold Src.step; split; exact h; exact Int.le_trans h (by simp only; omega)
def con54 : Con := { ps := [.p 65 ySR], rs := [.d false yI], pre := fun x => 0 ≤ x.1.2, out := fun x => (Src.raw x.1, ()), nw := fun x => (Src.step x.1, ()) }
theorem c54 : CtrOk Tryz.prog 54 con54.ctr :=
 con_sound (G := ⟨[], [], [], [], []⟩) tab_ok EnvOk.nil rfl Tryz.func54 rfl con54 4101 (by kernel_rfl) (by decide) (by decide) rfl (by decide) rfl (by
  rintro ⟨⟨(l : List Int), (a : Int)⟩, _⟩ hpre hwf X hT hG hk hK
  (simp -implicitDefEqProofs only [go_sem, con54, hT, hG, hk, hK, Tryz.results54] at hwf ⊢); (try simp (disch := decide +kernel) only [drawn, true_and, and_true])
  intro hl; have hpre : 0 ≤ a := hpre; have hl' := hl; simp only [maxLen] at hl'; unfold Src.step Src.raw; refine ⟨fun h => ?_, fun h => ⟨⟨by omega, by omega⟩, ⟨by omega, by omega⟩, ⟨by omega, by omega⟩, fun _ _ => ?_⟩⟩
  · simp [show (a : Int) ≥ (l.length : Int) from h]
  · simp [show ¬ (a : Int) ≥ (l.length : Int) from h])
def con19 : Con := { ps := [.p 65 ySR, .d false yI], rs := [.d false yI], pre := fun x => 0 ≤ x.1.2, out := fun x => (goMod (Src.raw x.1) x.2.1, ()), nw := fun x => (Src.step x.1, x.2) }
theorem c19 : CtrOk Tryz.prog 19 con19.ctr :=
 con_sound (G := ⟨[(54, con54.ctr), (18, con18.ctr)], [], [], [], []⟩) tab_ok (EnvOk.cons c54 has54 (EnvOk.cons c18 has18 EnvOk.nil)) rfl Tryz.func19 rfl con19 19 (by kernel_rfl) (by decide) (by decide) rfl (by decide) rfl (by
  rintro ⟨⟨(l : List Int), (a : Int)⟩, (n : Int), _⟩ hpre hwf X hT hG hk hK
  (simp -implicitDefEqProofs only [go_sem, con19, con54, con18, hT, hG, hk, hK, Tryz.results19] at hwf ⊢)
  exact hpre)
def con4 : Con := { ps := [.d false (.sl yI)], rs := [.p 65 ySR], pre := fun x => True, out := fun x => ((x.1.take 2000, 0), ()), nw := id }
theorem c4 : CtrOk Tryz.prog 4 con4.ctr :=
 con_sound (G := ⟨[], [], [], [], []⟩) tab_ok EnvOk.nil rfl Tryz.func4 rfl con4 37 (by kernel_rfl) (by decide) (by decide) rfl (by decide) rfl (by
  rintro ⟨(l : List Int), _⟩ hpre hwf X hT hG hk hK
  (simp -implicitDefEqProofs only [go_sem, con4, hT, hG, hk, hK, Tryz.results4] at hwf ⊢)
  refine fun _ => ⟨fun h => ⟨⟨by omega, by omega, by omega⟩, rfl⟩, fun h => ?_⟩; rw [List.take_of_length_le (by omega)])
abbrev Flt := ByteArray × Int × ByteArray × Int
def inV (n a b : Int) : Bool := decide (a ≤ n) && decide (n ≤ b)
def letterV (n : Int) : Bool := decide (65 ≤ n) && decide (n ≤ 90)
def con144 : Con := { ps := [.d false (.int .u8)], rs := [.d false .bool], pre := fun _ => True, out := fun x => (letterV x.1, ()), nw := id }
theorem c144 : CtrOk Tryz.prog 144 con144.ctr :=
 con_sound (G := ⟨[], [], [], [], []⟩) tab_ok EnvOk.nil rfl Tryz.func144 rfl con144 5 (by kernel_rfl) (by decide) (by decide) rfl (by decide) rfl (by
  rintro ⟨(n : Int), _⟩ hpre hwf X hT hG hk hK
  (simp -implicitDefEqProofs only [go_sem, bP, con144, hT, hG, hk, hK, Tryz.results144] at hwf ⊢)
  (repeat' with_reducible first | refine And.intro ?_ ?_ | intro _) <;> try first | with_reducible (first | assumption | omega | contradiction) | decide
  rfl)
def digitV (n : Int) : Bool := decide (48 ≤ n) && decide (n ≤ 57)
def con145 : Con := { ps := [.d false (.int .u8)], rs := [.d false .bool], pre := fun _ => True, out := fun x => (digitV x.1, ()), nw := id }
theorem c145 : CtrOk Tryz.prog 145 con145.ctr :=
 con_sound (G := ⟨[], [], [], [], []⟩) tab_ok EnvOk.nil rfl Tryz.func145 rfl con145 5 (by kernel_rfl) (by decide) (by decide) rfl (by decide) rfl (by
  rintro ⟨(n : Int), _⟩ hpre hwf X hT hG hk hK
  (simp -implicitDefEqProofs only [go_sem, bP, con145, hT, hG, hk, hK, Tryz.results145] at hwf ⊢)
  (repeat' with_reducible first | refine And.intro ?_ ?_ | intro _) <;> try first | with_reducible (first | assumption | omega | contradiction) | decide
  rfl)
def allFrom (p : Int → Bool) (s : ByteArray) : Nat → Nat → Bool
 | _, 0 => true
 | i, n + 1 => p (byteAt s i) && allFrom p s (i + 1) n
def con146 : Con := { ps := [.d false .str, .cl 144 []], rs := [.d false .bool], pre := fun _ => True, out := fun x => (allFrom letterV x.1 0 (ByteArray.size x.1), ()), nw := id }
theorem c146 : CtrOk Tryz.prog 146 con146.ctr :=
 con_sound (G := ⟨[(144, con144.ctr)], [], [], [], []⟩) tab_ok (EnvOk.cons c144 has144 EnvOk.nil) rfl Tryz.func146 rfl con146 66483 (by kernel_rfl) (by decide) (by decide) rfl (by decide) rfl (by
  rintro ⟨(s : ByteArray), _⟩ hpre hwf X hT hG hk hK
  (simp -implicitDefEqProofs only [go_sem, bP, con146, con144, hT, hG, hk, hK, Tryz.results146] at hwf ⊢)
  intro hl; refine evk_loop ⟨{ i : Nat // i ≤ s.size ∧ allFrom letterV s 0 s.size = allFrom letterV s i (s.size - i) }, 1000, fun i => [(0, .one (.str s)), (1, .one (.fn 144 [])), (7, .one (.int .i64 s.size)), (8, .one (.int .i64 i.1))], fun _ => [], fun i => s.size - i.1⟩ ⟨0, by simp, by simp⟩ ?_ ?_
  · simp only [go_sem]; rfl
  · rintro ⟨i, (hi : i ≤ s.size), (he : allFrom letterV s 0 s.size = allFrom letterV s i (s.size - i))⟩
    (simp -implicitDefEqProofs only [go_sem, bP, con146, con144, hT, hG, hk, hK, Tryz.results146])
    refine ⟨fun hlt => ?_, fun hge => ?_⟩
    · have hi' : i < s.size := by omega
      have hst : allFrom letterV s 0 s.size = (letterV (byteAt s i) && allFrom letterV s (i + 1) (s.size - (i + 1))) := by
       rw [he, show s.size - i = (s.size - (i + 1)) + 1 by omega, allFrom]
      (repeat' with_reducible first | refine And.intro ?_ ?_ | intro _) <;> try first | with_reducible (first | assumption | omega | contradiction) | decide
      · rename_i h; rw [hst, h]; rfl
      · rename_i h; refine fin_lp ⟨i + 1, by omega, ?_⟩ ?_ ?_
        · show allFrom letterV s 0 s.size = allFrom letterV s (i + 1) (s.size - (i + 1)); rw [hst, h]; rfl
        · simp only [go_sem]; rfl
        · show s.size - (i + 1) < s.size - i; omega
    · rw [he, show s.size - i = 0 by omega]; rfl)
def lettersV (s : ByteArray) (a b : Int) : Bool := decide ((s.size : Int) ≥ a) && decide ((s.size : Int) ≤ b) && allFrom letterV s 0 s.size
def con136 : Con := { ps := [.d false .str, .d false yI, .d false yI], rs := [.d false .bool], pre := fun _ => True, out := fun x => (lettersV x.1 x.2.1 x.2.2.1, ()), nw := id }
theorem c136 : CtrOk Tryz.prog 136 con136.ctr :=
 con_sound (G := ⟨[(146, con146.ctr)], [], [], [], []⟩) tab_ok (EnvOk.cons c146 has146 EnvOk.nil) rfl Tryz.func136 rfl con136 71 (by kernel_rfl) (by decide) (by decide) rfl (by decide) rfl (by
  rintro ⟨(s : ByteArray), (a : Int), (b : Int), _⟩ hpre hwf X hT hG hk hK
  (simp -implicitDefEqProofs only [go_sem, bP, con136, con146, hT, hG, hk, hK, Tryz.results136] at hwf ⊢)
  (repeat' with_reducible first | refine And.intro ?_ ?_ | intro _) <;> try first | with_reducible (first | assumption | omega | contradiction) | decide
  rfl)
def carF (s : ByteArray) : Nat → Nat → Nat → Bool
 | _, 0, k => decide (0 < k)
 | i, n + 1, k => if letterV (byteAt s i) then carF s (i + 1) n (k + 1) else if digitV (byteAt s i) then carF s (i + 1) n k else false
def carrierV (s : ByteArray) : Bool := if (s.size : Int) ≠ 2 then false else carF s 0 s.size 0
def con135 : Con := { ps := [.d false .str], rs := [.d false .bool], pre := fun _ => True, out := fun x => (carrierV x.1, ()), nw := id }
theorem c135 : CtrOk Tryz.prog 135 con135.ctr :=
 con_sound (G := ⟨[(144, con144.ctr), (145, con145.ctr)], [], [], [], []⟩) tab_ok (EnvOk.cons c144 has144 (EnvOk.cons c145 has145 EnvOk.nil)) rfl Tryz.func135 rfl con135 1060509 (by kernel_rfl) (by decide) (by decide) rfl (by decide) rfl (by
  rintro ⟨(s : ByteArray), _⟩ hpre hwf X hT hG hk hK
  (simp -implicitDefEqProofs only [go_sem, bP, con135, con144, con145, hT, hG, hk, hK, Tryz.results135] at hwf ⊢)
  (repeat' with_reducible first | refine And.intro ?_ ?_ | intro _) <;> try first | with_reducible (first | assumption | omega | contradiction) | decide
  · rename_i h; unfold carrierV; rw [if_pos h]
  · rename_i h2 hl; have e0 : carrierV s = carF s 0 s.size 0 := by unfold carrierV; rw [if_neg (by omega)]
    refine evk_loop ⟨{ q : Nat × Nat // q.1 ≤ s.size ∧ q.2 ≤ q.1 ∧ carF s 0 s.size 0 = carF s q.1 (s.size - q.1) q.2 }, 1000, fun q => [(0, .one (.str s)), (3, .one (.int .i64 q.1.2)), (9, .one (.int .i64 s.size)), (10, .one (.int .i64 q.1.1))], fun _ => [], fun q => s.size - q.1.1⟩ ⟨(0, 0), by simp, by simp, by simp⟩ ?_ ?_
    · simp only [go_sem]; rfl
    · rintro ⟨⟨i, k⟩, (hi : i ≤ s.size), (hki : k ≤ i), (he : carF s 0 s.size 0 = carF s i (s.size - i) k)⟩
      (simp -implicitDefEqProofs only [go_sem, bP, con135, con144, con145, hT, hG, hk, hK, Tryz.results135])
      refine ⟨fun hlt => ?_, fun hge => ?_⟩
      · have hi' : i < s.size := by omega
        have hst : carF s 0 s.size 0 = if letterV (byteAt s i) then carF s (i + 1) (s.size - (i + 1)) (k + 1) else if digitV (byteAt s i) then carF s (i + 1) (s.size - (i + 1)) k else false := by
         rw [he, show s.size - i = (s.size - (i + 1)) + 1 by omega, carF]
        (repeat' with_reducible first | refine And.intro ?_ ?_ | intro _) <;> try first | with_reducible (first | assumption | omega | contradiction) | decide
        · rename_i h; refine fin_lp ⟨(i + 1, k + 1), by omega, by omega, by dsimp only; rw [hst, if_pos h]⟩ (by simp only [go_sem]; first | rfl | ((repeat' apply And.intro) <;> first | rfl | assumption | omega)) (by dsimp only; omega)
        · rename_i h1 h; rw [e0, hst, if_neg (by rw [h1]; simp), if_neg (by rw [h]; simp)]
        · rename_i h1 h; refine fin_lp ⟨(i + 1, k), by omega, by omega, by dsimp only; rw [hst, if_neg (by rw [h1]; simp), if_pos h]⟩ (by simp only [go_sem]; first | rfl | ((repeat' apply And.intro) <;> first | rfl | assumption | omega)) (by dsimp only; omega)
      · rw [e0, he, show s.size - i = 0 by omega]; rw [carF]; rw [decide_eq_decide]; omega)
def fltOk (f : Flt) : Bool := carrierV f.1 && decide (f.2.1 ≥ 1) && decide (f.2.1 ≤ 9999) && lettersV f.2.2.1 0 1 && decide (f.2.2.2 ≥ 0) && decide (f.2.2.2 ≤ 99)
def con112 : Con := { ps := [.d true yFL], rs := [.d false .bool], pre := fun _ => True, out := fun x => (fltOk x.1, ()), nw := id }
theorem c112 : CtrOk Tryz.prog 112 con112.ctr :=
 con_sound (G := ⟨[(135, con135.ctr), (136, con136.ctr)], [], [], [], []⟩) tab_ok (EnvOk.cons c135 has135 (EnvOk.cons c136 has136 EnvOk.nil)) rfl Tryz.func112 rfl con112 7 (by kernel_rfl) (by decide) (by decide) rfl (by decide) rfl (by
  rintro ⟨⟨a1, (a2 : Int), a3, (a4 : Int)⟩, _⟩ hpre hwf X hT hG hk hK
  (simp -implicitDefEqProofs only [go_sem, bP, con112, con135, con136, hT, hG, hk, hK, Tryz.results112] at hwf ⊢)
  (repeat' with_reducible first | refine And.intro ?_ ?_ | intro _) <;> try first | with_reducible (first | assumption | omega | contradiction) | decide
  rfl)
end Go.Proofs.YtkjpbhkldioggaaGreat

namespace Go.Ev
open Go.Sort (putCells putRow mapBlock onCells grow Holds)
section
variable {cx : Cx} {σ : Nat → Value} {N : Nat → Prop} {m : Mem} {w : World} {P : Program}
theorem putCells_list (F cur : Array Value) (h : F.size ≤ cur.size) : (putCells id 0 F cur).toList = F.toList ++ cur.toList.drop F.size := by
 apply List.ext_getElem
 · simp [putCells]; omega
 · intro k h1 h2; have hk : k < cur.size := by simpa [putCells] using h1
   simp only [putCells, Array.getElem_toList, Array.getElem_mapIdx, List.getElem_append, Array.length_toList, List.getElem_drop, Nat.zero_le, true_and, Nat.zero_add, Nat.sub_zero, id]; split
   · rename_i hlt; exact getElem!_pos F k hlt
   · rename_i hlt; congr 1; omega
theorem putRow_map {α : Type} [Inhabited α] (enc : α → Value) (w : World) (g : Nat) (d : Array α) : putRow enc w g 0 d = putRow id w g 0 (d.map enc) := by
 unfold putRow; refine Go.Sort.mapBlock_congr _ _ _ _ fun c _ _ _ => ?_; apply Array.ext
 · simp [putCells]
 · intro k h1 h2; simp only [putCells, Array.getElem_mapIdx, Array.size_map, Nat.sub_zero, id]; split
   · rename_i hlt; rw [getElem!_pos d k (by omega), getElem!_pos (d.map enc) k (by simp; omega)]; simp
   · rfl
structure Sorted (w w' : World) (g : Nat) (e : TypeId) (cur : Array Value) (F : Array Value) : Prop where
 os : w'.os = w.os
 tape : w'.tape = w.tape
 output : w'.output = w.output
 size : w.heap.size ≤ w'.heap.size
 drawn : w.drawn ≤ w'.drawn
 block : ∀ b, b < w.heap.size → b ≠ g → w'.heap[b]? = w.heap[b]?
 row : ∃ cur' : Array Value, w'.heap[g]? = some (.cells cur' e (0, 0)) ∧ cur'.toList = F.toList ++ cur.toList.drop F.size
theorem sorted_world {g : Nat} {e : TypeId} {cur F : Array Value} (hg : w.heap[g]? = some (.cells cur e (0, 0))) (hF : F.size ≤ cur.size) (n : Nat) (os : Array Obj) : Sorted w (grow (putRow id (Go.Sort.ahead w n) g 0 F) os) g e cur F := by
 have hlt : g < w.heap.size := (Array.getElem?_eq_some_iff.1 hg).1; refine ⟨rfl, rfl, rfl, by simp, by simp [grow, putRow, mapBlock, Go.Sort.ahead], fun b hb hne => ?_, putCells id 0 F cur, ?_, putCells_list F cur hF⟩
 · rw [Go.Sort.heap_grow_old _ _ (by simpa using hb)]; simp [putRow, mapBlock, Go.Sort.ahead, Array.getElem?_modify, Ne.symm hne]
 · rw [Go.Sort.heap_grow_old _ _ (by simpa using hlt)]; simp [putRow, mapBlock, Go.Sort.ahead, Array.getElem?_modify, hg, onCells]
theorem row_sorted (h : RepM cx σ N m w) {id : Nat} (hn : ¬ N id) {e : TypeId} {t : Ty} {xs : List t.den} (hm : m id = .row e t xs) {g cap : Nat} {cur : Array Value} (hσ : σ id = .slice (some ⟨g, 0, none⟩) xs.length cap) (hc : 0 < cap)
 (hg : w.heap[g]? = some (.cells cur e (0, 0))) (hlc : xs.length ≤ cap) (hcm : cap ≤ maxLen) (hcs : cur.size = cap * t.n) {xs' : List t.den} (hl : xs'.length = xs.length) {F : Array Value} (hF : roAll (ro w (Owned cx σ m) t) xs' F.toList) {w' : World} (hw : Sorted w w' g e cur F) (fr : Nat) (p : Prop) {q : Prop} (hq : q) :
 Res cx σ N m w fr ⟨p, .tup [], [(id, .row e t xs')], q⟩ (.tuple #[]) w' := by
 have hFl := roAll_len (fun x c => ro_len t x c) _ _ hF; rw [Array.length_toList] at hFl; obtain ⟨cur', hg', hcur'⟩ := hw.row; obtain ⟨g1, g2⟩ := h.step (σ' := σ) (N' := Nx N fr) (m' := upd m id (.row e t xs')) (w' := w') (fun i => i = id) (fun _ k => k.1)
  (fun i k => by
    by_cases hi : i = id
    · subst hi; exact absurd k.1 hn
    · rw [upd_ne _ _ hi]; exact h.fresh i k.1)
  (fun i k => ⟨upd_ne _ _ k, rfl⟩) (fun _ _ => rfl)
  (fun b hb hx => hw.block b hb (fun e' => hx id rfl (by rw [hm]; rfl) (by rw [hσ, e']; exact .inl (blkOf_slice hc)))) ⟨hw.size, hw.drawn⟩ hw.os hw.tape hw.output
  (fun i b hi _ hb => .inr ⟨id, rfl, by rw [hm]; rfl, by rw [← hi]; exact hb⟩)
  (fun i i' b hi hi' _ _ _ _ => hi.trans hi'.symm) (fun i _ => h.hone i)
  (fun hk i hi => by
    subst hi; rw [upd_same]; have hfit : xs.length * t.n ≤ cap * t.n := Nat.mul_le_mul_right _ hlc; refine ⟨xs'.length, F.toList, rfl, ?_, roAll_mono (ro_keep hk.k t) _ _ hF⟩; simp only [rx]; rw [hσ, ← hl]; refine rowR_of (by rw [Array.length_toList, hFl]) hg' (by omega) hcm ?_ ?_
    · rw [← Array.length_toList, hcur']; simp only [List.length_append, Array.length_toList, List.length_drop, hcs, hFl, hl]; omega
    · rw [hcur', ← hFl, ← Array.length_toList]; exact List.take_left)
 refine ⟨σ, g1, g2, ?_, hq⟩; unfold repA; exact ⟨[], rfl, by unfold repAs; rfl⟩
def sortI (xs : List Int) : List Int := xs.mergeSort fun x y => decide (x ≤ y)
theorem ro_ints {O : Nat → Prop} {k : IntKind} : ∀ (xs : List Int) (flat : List Value), roAll (ro w O (.int k)) xs flat → flat = xs.map (Value.int k) ∧ ∀ x ∈ xs, InR k x
 | [], flat, h => ⟨h, by simp⟩
 | x :: xs, _, ⟨c, d, e, h, hr⟩ => by
   obtain ⟨h1, h2⟩ := ro_ints xs d hr; obtain ⟨g1, g2⟩ := h; refine ⟨by rw [e, g1, h1]; rfl, fun y hy => ?_⟩
   rcases List.mem_cons.1 hy with rfl | hy
   · exact g2
   · exact h2 y hy
theorem ints_ro {O : Nat → Prop} {k : IntKind} : ∀ (xs : List Int), (∀ x ∈ xs, InR k x) → roAll (ro w O (.int k)) xs (xs.map (Value.int k))
 | [], _ => rfl
 | x :: xs, h => ⟨[.int k x], _, rfl, ⟨rfl, h x List.mem_cons_self⟩, ints_ro xs fun y hy => h y (List.mem_cons_of_mem _ hy)⟩
def sortCon (e : TypeId) : Con := { ps := [.o e (.int .i64)], rs := [], pre := fun x => x.1.length < 4611686018427387904, out := fun _ => (), nw := fun x => (sortI x.1, ()) }
theorem sort_int {ρ : Go.Shelf.Ren} (L : Go.Proofs.SlLaysM.n5 P ρ) (e : TypeId) : CtrOk P (ρ.f 5) (sortCon e).ctr := by
 intro D gv hDS cx hcd σ N m w fr avs vs h hfr hreps hp; unfold Con.ctr Con.effO at hp ⊢
 cases hrd : rds m (sortCon e).ps avs with
 | none => rw [hrd] at hp; exact hp.elim
 | some x =>
   rw [hrd] at hp; simp only at hp ⊢; split at hp
   · rename_i hid; rw [if_pos hid]; obtain ⟨xs, u⟩ := x; cases u
     match avs, hrd, hreps, hid with
     | [v], hrd, hreps, hid =>
       simp only [sortCon, rds] at hrd; obtain ⟨h1, _⟩ := implP_some hrd; obtain ⟨id, rfl, h2⟩ := rd_o h1; have hm := rdRow_some h2; unfold repAs at hreps; obtain ⟨v0, r, rfl, h3, h4⟩ := hreps; unfold repAs at h4; subst h4; unfold repA repC at h3; obtain ⟨hn, rfl⟩ := h3; simp only [rx] at hn ⊢; have hsz : xs.length < 4611686018427387904 := hp; have goal_eff : ∀ (w' : World), Res cx σ N m w fr ⟨xs.length < 4611686018427387904, .tup [], [(id, .row e (.int .i64) (sortI xs))], True⟩ (.tuple #[]) w' →
        ∃ v, Ending.returned (.tuple #[]) = .returned v ∧ Res cx σ N m w fr ((sortCon e).eff [.one (.row id)] m fr (xs, ())) v w' := fun w' hr => ⟨_, rfl, hr⟩
       have hb := h.blk id; rw [hm] at hb; obtain ⟨n', flat, rfl, k1, k2⟩ := hb; simp only [rx] at k1 k2; obtain ⟨hfl, hin⟩ := ro_ints xs flat k2
       rcases k1.2 with ⟨e2, a0, e1⟩ | ⟨g, cap, cur, hc, e1, hg, hlc, hcm, hcs, htk⟩
       · have hx : xs = [] := List.eq_nil_of_length_eq_zero e2; subst hx; rw [e1]; refine (Go.Proofs.AnyM.slices_Sort_int_none L a0 0 w).mono ?_; rintro e' w' ⟨rfl, rfl⟩; refine goal_eff _ ?_; have hs : sortI [] = [] := by simp [sortI]
         rw [hs]; obtain ⟨g1, g2⟩ := h.weaken (N' := Nx N fr) (fun _ k => k.1); have hmm : updM m [(id, Blk.row e (.int .i64) [])] = m := same_row hm; refine ⟨σ, ?_, ?_, ?_, trivial⟩ <;> simp only [hmm]
         · exact g1
         · exact g2
         · unfold repA; exact ⟨[], rfl, by unfold repAs; rfl⟩
       · have hcz : flat.length = xs.length * 1 := k1.1; have hH : Holds (Value.int .i64) w g 0 xs.toArray := by
          intro j hj; have hj' : j < xs.length := by simpa using hj
          rw [Nat.zero_add]; refine ⟨?_, by simp [World.frozen?, hg]⟩; refine rowR_cells k1 (g := g) (by rw [e1]; exact blkOf_slice hc) j _ ?_; rw [hfl, List.getElem?_map, List.getElem?_eq_getElem hj', getElem!_pos xs.toArray j hj]; rfl
         have hlt : g < w.heap.size := (Array.getElem?_eq_some_iff.1 hg).1; rw [e1]; refine (Go.Proofs.AnyM.slices_Sort_int L g 0 cap xs w hH hlt hsz).mono ?_; rintro e' w' ⟨rfl, n, os, rfl⟩; refine goal_eff _ ?_; rw [putRow_map]; have hl : (sortI xs).length = xs.length := List.length_mergeSort xs; refine row_sorted h hn hm e1 hc hg hlc hcm hcs hl ?_ (sorted_world hg ?_ n os) fr _ trivial
         · have : ((sortI xs).toArray.map (Value.int .i64)).toList = (sortI xs).map (Value.int .i64) := by simp
           rw [show (List.mergeSort xs fun x y => decide (x ≤ y)) = sortI xs from rfl, this]; exact ints_ro _ fun x hx => hin x ((List.mergeSort_perm xs _).mem_iff.1 hx)
         · have h9 : cap * 1 = cur.size := hcs.symm; simp only [List.map_toArray, List.size_toArray, List.length_map, List.length_mergeSort]
           omega
     | [], hrd, _, _ => simp [sortCon, rds] at hrd
     | _ :: _ :: _, hrd, _, _ => 
       simp only [sortCon, rds] at hrd; obtain ⟨_, h2⟩ := implP_some hrd; cases h2
   · exact hp.elim
end
end Go.Ev

namespace Go.Ev
open Go.Sort (putCells putRow mapBlock onCells grow Holds flatK HoldsK putRowK SWO PermIn SortedIn)
open Go.Proofs (CmpLays ltOf sortWorldK)
section
variable {cx : Cx} {σ : Nat → Value} {N : Nat → Prop} {m : Mem} {w : World} {P : Program}
abbrev El (w : World) (O : Nat → Prop) (t : Ty) := { p : t.den × List Value // ro w O t p.1 p.2 }
def El.enc {O : Nat → Prop} {t : Ty} (p : El w O t) : List Value := p.1.2
theorem roAll_els {O : Nat → Prop} {t : Ty} : ∀ (xs : List t.den) (flat : List Value), roAll (ro w O t) xs flat → ∃ d : List (El w O t), d.map (fun p => p.1.1) = xs ∧ d.flatMap El.enc = flat
 | [], flat, h => ⟨[], rfl, by rw [show flat = [] from h]; rfl⟩
 | x :: xs, _, ⟨c, r, e, h, hr⟩ => by
   obtain ⟨d, h1, h2⟩ := roAll_els xs r hr; exact ⟨⟨(x, c), h⟩ :: d, by simp [h1], by rw [e, List.flatMap_cons, h2]; rfl⟩
theorem els_roAll {O : Nat → Prop} {t : Ty} : ∀ (d : List (El w O t)), roAll (ro w O t) (d.map (fun p => p.1.1)) (d.flatMap El.enc)
 | [] => rfl
 | p :: d => ⟨p.1.2, _, rfl, p.2, els_roAll d⟩
theorem flatMap_get {α : Type} (enc : α → List Value) (k : Nat) (hk0 : 0 < k) (hk : ∀ x, (enc x).length = k) : ∀ (d : List α) (t : Nat), (d.flatMap enc)[t]? = (d[t / k]?).bind (fun x => (enc x)[t % k]?)
 | [], t => by simp
 | x :: d, t => by
   rw [List.flatMap_cons]; by_cases h : t < k
   · rw [List.getElem?_append_left (by rw [hk]; exact h), Nat.div_eq_of_lt h, Nat.mod_eq_of_lt h]; rfl
   · obtain ⟨s, rfl⟩ : ∃ s, t = s + k := ⟨t - k, by omega⟩; rw [List.getElem?_append_right (by rw [hk]; omega), hk, Nat.add_sub_cancel, flatMap_get enc k hk0 hk d s, Nat.add_div_right _ hk0, Nat.add_mod_right]; rfl
theorem flatK_list {α : Type} [Inhabited α] (enc : α → List Value) (k : Nat) (hk0 : 0 < k) (hk : ∀ x, (enc x).length = k) (d : Array α) : (flatK enc k d).toList = d.toList.flatMap enc := by
 apply List.ext_getElem?; intro t; rw [flatMap_get enc k hk0 hk]; by_cases h : t < d.size * k
 · have h1 : t / k < d.size := Nat.div_lt_of_lt_mul (by rw [Nat.mul_comm]; exact h); have h2 : t % k < k := Nat.mod_lt _ hk0; have h3 : t < (flatK enc k d).toList.length := by simpa using h
   rw [List.getElem?_eq_getElem h3, Array.getElem_toList, ← getElem!_pos (flatK enc k d) t (by simpa using h), Go.Sort.get_flatK _ _ _ _ h]; rw [List.getElem?_eq_getElem (by simpa using h1), Option.bind_some, Array.getElem_toList, getElem!_pos d _ h1, List.getElem?_eq_getElem (by rw [hk]; exact h2), getElem!_pos _ _ (by rw [hk]; exact h2)]
 · rw [List.getElem?_eq_none (by simp; omega)]; have : d.size ≤ t / k := (Nat.le_div_iff_mul_le hk0).2 (by omega); rw [List.getElem?_eq_none (by simpa using this)]; rfl
theorem callFunc_enter {g : FuncId} (h : FnHas P g) (args : Array Value) (w : World) : (callFunc g args).run P w = .ok (.enter g args) w := by
 obtain ⟨fn, hfn, hname, hbody⟩ := h; have hname' : fn.name ≠ "runtime.NumGoroutine" := by simpa using hname
 have hbody' : fn.body ≠ none := by intro hh; rw [hh] at hbody; cases hbody
 simp [callFunc, hfn, hname', hbody']
theorem grown_eq {W w' : World} (h1 : w'.os = W.os) (h2 : w'.tape = W.tape) (h3 : w'.output = W.output) (h4 : W.drawn ≤ w'.drawn) (h5 : W.heap.size ≤ w'.heap.size) (h6 : ∀ b, b < W.heap.size → w'.heap[b]? = W.heap[b]?) : ∃ q os', w' = grow (W.drewN q) os' := by
 refine ⟨w'.drawn - W.drawn, w'.heap.extract W.heap.size w'.heap.size, ?_⟩; have e1 : w'.heap = W.heap ++ w'.heap.extract W.heap.size w'.heap.size := by
  apply Array.ext_getElem?; intro i; by_cases hi : i < W.heap.size
  · rw [Array.getElem?_append_left hi]; exact h6 i hi
  · rw [Array.getElem?_append_right (by omega), Array.getElem?_extract]; by_cases hi2 : i < w'.heap.size
    · rw [if_pos (by omega)]; congr 1; omega
    · rw [if_neg (by omega), Array.getElem?_eq_none (by omega)]
 have e2 : w'.drawn = W.drawn + (w'.drawn - W.drawn) := by omega
 obtain ⟨a, b, c, d, e⟩ := W; obtain ⟨a', b', c', d', e'⟩ := w'; simp only at h1 h2 h3 e1 e2; subst h1 h2 h3; simp only [grow, World.drewN, ← e1, ← e2]
def cmpCon (t : Ty) (c : t.den → t.den → Int) : Con := { ps := [.d true t, .d true t], rs := [.d false (.int .i64)], pre := fun _ => True, out := fun x => (c x.1 x.2.1, ()), nw := id }
theorem impl_self (m : Mem) : ∀ (t : Ty) (y : t.den), impl m t (expl t y) = some y
 | .int k, n => by simp [impl, expl, implI]
 | .bool, b => rfl
 | .str, s => rfl
 | .unit, _ => rfl
 | .sl t, xs => by simp [impl, expl, implL, view, castTy]
 | .pair a b, p => by
   have h1 : (expl a p.1 ++ expl b p.2).take a.n = expl a p.1 := by rw [← expl_len a p.1]; exact List.take_left
   have h2 : (expl a p.1 ++ expl b p.2).drop a.n = expl b p.2 := by rw [← expl_len a p.1]; exact List.drop_left
   show implP (impl m a ((expl a p.1 ++ expl b p.2).take a.n)) (impl m b ((expl a p.1 ++ expl b p.2).drop a.n)) = some p; rw [h1, h2, impl_self m a, impl_self m b]; rfl
theorem cmp_lays (h : RepM cx σ N m w) {t : Ty} {c : t.den → t.den → Int} {g : FuncId} (hS : StrictP P) (hc : CtrOk P g (cmpCon t c).ctr) [Inhabited (El w (Owned cx σ m) t)] {blk : Nat} (hown : Owned cx σ m blk) (hb : blk < w.heap.size) (size : Nat) :
 CmpLays P g #[] (El.enc (w := w) (O := Owned cx σ m) (t := t)) t.n (fun x y => c x.1.1 y.1.1) blk 0 size w := by
 intro q os dk hdk x y; generalize hW : sortWorldK El.enc t.n w blk 0 q dk os = W; have w1 : W.heap.size = w.heap.size + os.size := by rw [← hW]; simp [sortWorldK, putRowK, Go.Sort.ahead]
 have w2 : ∀ b, b < w.heap.size → b ≠ blk → W.heap[b]? = w.heap[b]? := fun b hb' hne => by
  rw [← hW]; unfold sortWorldK; rw [Go.Sort.heap_grow_old _ _ (by simpa [putRowK, Go.Sort.ahead] using hb')]; simp [putRowK, putRow, mapBlock, Go.Sort.ahead, Array.getElem?_modify, Ne.symm hne]
 let cx' : Cx := ⟨W, Owned cx σ m, fun _ => False, 0, fun _ => .bool false, [], fun _ => none, True, []⟩
 have olt : ∀ b, Owned cx σ m b → b < w.heap.size := by
  rintro b (hb | ⟨id, h1, h2⟩)
  · exact h.hF b hb
  · exact repB_lt (h.blk id) h1 b h2
 have hM : RepM cx' (fun _ => .bool false) (fun _ => True) (fun _ => .dead) W :=
  ⟨fun _ => trivial, fun _ _ => rfl, fun _ _ _ ho => (by cases ho), fun _ _ ho => (by cases ho), fun _ _ ho => (by cases ho), ⟨rfl, rfl, rfl, fun _ => Nat.le_refl _, Nat.le_refl _, fun _ _ _ => rfl⟩,
    fun b hb' => by have := olt b hb'; omega, fun _ => rfl, (fun i hi => by cases hi), (fun _ hD => by cases hD), fun _ _ h => by cases h⟩
 have hK : Keep w W (Owned cx σ m) (Owned cx' (fun _ => .bool false) (fun _ => .dead)) := (.ex fun b hb' hno => ⟨by
  rintro (h1 | ⟨id, h1, _⟩)
  · exact hno h1
  · (cases h1), w2 b hb' (fun e => hno (e ▸ hown))⟩)
 have hx := expl_rep (x := rx cx' (fun _ => .bool false) (fun _ => True) (fun _ => .dead) W) t x.1.1 x.1.2 (ro_keep hK t _ _ x.2); have hy := expl_rep (x := rx cx' (fun _ => .bool false) (fun _ => True) (fun _ => .dead) W) t y.1.1 y.1.2 (ro_keep hK t _ _ y.2); have hrd : rds (fun _ => .dead) (cmpCon t c).ps [.agg (expl t x.1.1), .agg (expl t y.1.1)] = some (x.1.1, y.1.1, ()) := by
  simp only [cmpCon, rds, rd, impl_self, implP]
 have heff : (cmpCon t c).ctr [.agg (expl t x.1.1), .agg (expl t y.1.1)] (fun _ => .dead) 0 = (cmpCon t c).eff [.agg (expl t x.1.1), .agg (expl t y.1.1)] (fun _ => .dead) 0 (x.1.1, y.1.1, ()) := by
  unfold Con.ctr Con.effO; rw [hrd]; simp only; rw [if_pos]; simp [okIds, cmpCon, pids, pid]
 have hcall := hc True [] (fun _ => hS) cx' ⟨rfl, rfl⟩ (fun _ => .bool false) (fun _ => True) (fun _ => .dead) W 0 [.agg (expl t x.1.1), .agg (expl t y.1.1)] [.agg x.1.2.toArray, .agg y.1.2.toArray] hM (fun _ _ _ => trivial)
  (by
    unfold repAs; refine ⟨_, _, rfl, by unfold repA; exact ⟨_, rfl, hx⟩, ?_⟩; unfold repAs; refine ⟨_, _, rfl, by unfold repA; exact ⟨_, rfl, hy⟩, ?_⟩; unfold repAs; rfl) (by rw [heff]; trivial)
 rw [heff] at hcall; refine hcall.mono ?_; rintro e w' ⟨v, rfl, σ', h1, _, h3, _⟩; have h3' : v = .int .i64 (c x.1.1 y.1.1) := by
  simp only [Con.eff, cmpCon, ravs, rav, avOf, expl, pack, Bool.false_eq_true, if_false] at h3; exact (of_int h3).1
 have ev := h1.evo; refine ⟨by rw [h3'], ?_⟩; exact grown_eq ev.os ev.tape ev.output (ev.drawn trivial) ev.size (fun b hb' => ev.block b hb' (fun hf => hf))
def sortFCon (e : TypeId) (t : Ty) (g : FuncId) (c : t.den → t.den → Int) : RCon := { ps := [.o e t, .cl g []], rs := [], pre := fun x => x.1.length < 4611686018427387904, rel := fun x _ z => z.1.Perm x.1 ∧ z.1.Pairwise (fun a b => ¬ c b a < 0) }
theorem sort_func {ρ : Go.Shelf.Ren} (L : Go.Proofs.SlLaysF0.n6 P ρ) {e : TypeId} {t : Ty} (hpos : 0 < t.n) (aE : ∀ w, (isAgg (ρ.t 24)).run P w = .ok true w) (zE : ∀ w, (Go.sizeOf (ρ.t 24)).run P w = .ok t.n w)
 {g : FuncId} {c : t.den → t.den → Int} (hS : StrictP P) (hc : CtrOk P g (cmpCon t c).ctr) (hg : FnHas P g) (hO : SWO (fun x y => decide (c x y < 0))) : RCtrOk P (ρ.f 6) (sortFCon e t g c).rctr := by
 intro D gv hDS cx hcd σ N m w fr avs vs h hfr hreps hp; unfold RCon.rctr RCon.chcO at hp ⊢
 cases hrd : rds m (sortFCon e t g c).ps avs with
 | none => rw [hrd] at hp; exact hp.elim
 | some x =>
   rw [hrd] at hp; simp only at hp ⊢; split at hp
   · rename_i hid; rw [if_pos hid]; obtain ⟨xs, u, u'⟩ := x; cases u; cases u'
     match avs, hrd, hreps, hid with
     | [v, f], hrd, hreps, hid =>
       simp only [sortFCon, rds] at hrd; obtain ⟨h1, hr2⟩ := implP_some hrd; obtain ⟨hf1, _⟩ := implP_some hr2; obtain ⟨id, rfl, h2⟩ := rd_o h1; obtain ⟨caps, rfl, hcp⟩ := rd_cl hf1; have hcaps : caps = [] := by
        cases caps with
        | nil => rfl
        | cons _ _ => simp [rdCaps] at hcp
       subst hcaps; have hm := rdRow_some h2; unfold repAs at hreps; obtain ⟨v0, r, rfl, h3, h4⟩ := hreps; unfold repAs at h4; obtain ⟨v1, r1, rfl, h5, h6⟩ := h4; unfold repAs at h6; subst h6; unfold repA repC at h3 h5; obtain ⟨hn, rfl⟩ := h3; obtain ⟨ws, rfl, h7⟩ := h5; rw [repCs_nil] at h7; subst h7; simp only [rx] at hn ⊢; have hsz : xs.length < 4611686018427387904 := hp; have goal_eff : ∀ (w' : World) (ys : List t.den), ys.Perm xs → ys.Pairwise (fun a b => ¬ c b a < 0) → Res cx σ N m w fr ⟨xs.length < 4611686018427387904, .tup [], [(id, .row e t ys)], True⟩ (.tuple #[]) w' →
        ∃ v, Ending.returned (.tuple #[]) = .returned v ∧ ∃ a, Res cx σ N m w fr ⟨((sortFCon e t g c).chc [.one (.row id), .one (.fn g [])] m fr (xs, (), ())).pre, ((sortFCon e t g c).chc [.one (.row id), .one (.fn g [])] m fr (xs, (), ())).r a,
          ((sortFCon e t g c).chc [.one (.row id), .one (.fn g [])] m fr (xs, (), ())).u a, ((sortFCon e t g c).chc [.one (.row id), .one (.fn g [])] m fr (xs, (), ())).asm a⟩ v w' := by
        rintro w' ys hys1 hys2 ⟨σ', r1, r2, r3, _⟩; refine ⟨_, rfl, ((), (ys, (), ())), σ', ?_, ?_, r3, ⟨hys1, hys2⟩, trivial⟩
        · have : (((sortFCon e t g c).chc [.one (.row id), .one (.fn g [])] m fr (xs, (), ())).u ((), (ys, (), ()))) = [(id, .row e t ys)] := by
           simp [RCon.chc, sortFCon, updC, rws, rw1, pupd, pid, nbl, pbl, capIds, capBlks, rheap, capRows]
          rw [this]; exact r1
        · have : (((sortFCon e t g c).chc [.one (.row id), .one (.fn g [])] m fr (xs, (), ())).u ((), (ys, (), ()))) = [(id, .row e t ys)] := by
           simp [RCon.chc, sortFCon, updC, rws, rw1, pupd, pid, nbl, pbl, capIds, capBlks, rheap, capRows]
          rw [this]; exact r2
       have hb := h.blk id; rw [hm] at hb; obtain ⟨n', flat, rfl, k1, k2⟩ := hb; simp only [rx] at k1 k2; have none_case : xs = [] → ∀ a0 cap0, σ id = .slice a0 0 cap0 → Calls P (ρ.f 6) #[σ id, .func (.func g) #[] #[]] w fun e_1 w' => ∃ v, e_1 = .returned v ∧ ∃ a, Res cx σ N m w fr ⟨((sortFCon e t g c).chc [.one (.row id), .one (.fn g [])] m fr (xs, (), ())).pre, ((sortFCon e t g c).chc [.one (.row id), .one (.fn g [])] m fr (xs, (), ())).r a,
        ((sortFCon e t g c).chc [.one (.row id), .one (.fn g [])] m fr (xs, (), ())).u a, ((sortFCon e t g c).chc [.one (.row id), .one (.fn g [])] m fr (xs, (), ())).asm a⟩ v w' := by
        intro hx a0 cap0 e1; subst hx; rw [e1]; refine (Go.Proofs.AnyF.slices_SortFunc_none L a0 cap0 _ w).mono ?_; rintro e' w' ⟨rfl, rfl⟩; refine goal_eff _ [] (List.Perm.refl _) List.Pairwise.nil ?_; obtain ⟨g1, g2⟩ := h.weaken (N' := Nx N fr) (fun _ k => k.1); have hmm : updM m [(id, Blk.row e t [])] = m := same_row hm; refine ⟨σ, ?_, ?_, ?_, trivial⟩ <;> simp only [hmm]
        · exact g1
        · exact g2
        · unfold repA; exact ⟨[], rfl, by unfold repAs; rfl⟩
       rcases k1.2 with ⟨e2, a0, e1⟩ | ⟨g0, cap, cur, hcp0, e1, hg0, hlc, hcm, hcs, htk⟩
       · exact none_case (List.eq_nil_of_length_eq_zero e2) a0 0 e1
       · by_cases hx0 : xs = []
         · exact none_case hx0 _ cap (by rw [e1, hx0]; rfl)
         · obtain ⟨d, hd1, hd2⟩ := roAll_els xs flat k2; have hdn : d ≠ [] := by rintro rfl; exact hx0 hd1.symm
           letI : Inhabited (El w (Owned cx σ m) t) := ⟨d.head hdn⟩
           have hdl : d.length = xs.length := by rw [← hd1, List.length_map]
           have hk : ∀ x : El w (Owned cx σ m) t, (El.enc x).length = t.n := fun x => ro_len t _ _ x.2; have ho1 : ∀ x : El w (Owned cx σ m) t, ∀ v ∈ El.enc x, v.oneCell' = true := fun x => ro_one t _ _ x.2; have hFl := flatK_list El.enc t.n hpos hk d.toArray; rw [List.toList_toArray, hd2] at hFl; have hlt : g0 < w.heap.size := (Array.getElem?_eq_some_iff.1 hg0).1; have hH : HoldsK El.enc t.n w g0 0 d.toArray := by
            intro j hj; rw [Nat.zero_add]; refine ⟨rowR_cells k1 (g := g0) (by rw [e1]; exact blkOf_slice hcp0) j _ ?_, by simp [World.frozen?, hg0]⟩; rw [← hFl, Array.getElem?_toList, Array.getElem?_eq_getElem hj, getElem!_pos _ j hj]; rfl
           have hown : Owned cx σ m g0 := .inr ⟨id, by rw [hm]; rfl, by rw [e1]; exact .inl (blkOf_slice hcp0)⟩; have hO' : SWO (ltOf fun x y : El w (Owned cx σ m) t => c x.1.1 y.1.1) := ⟨fun x => hO.irrefl x.1.1, fun x y z => hO.trans x.1.1 y.1.1 z.1.1, fun x y z => hO.ntrans x.1.1 y.1.1 z.1.1⟩; have hcall := Go.Proofs.AnyQ.slices_SortFunc L t.n aE zE El.enc hk ho1 (fun x y : El w (Owned cx σ m) t => c x.1.1 y.1.1) hO' g #[] g0 0 cap d.toArray w (callFunc_enter hg) (cmp_lays h hS hc hown hlt _) hH hlt (by simpa [hdl] using hsz); rw [e1, ← hdl]; simp only [List.size_toArray] at hcall; refine hcall.mono ?_; rintro e' w' ⟨rfl, d', n, os, hperm, hsort, rfl⟩; obtain ⟨hps, _, hpp⟩ := hperm; simp only [List.size_toArray] at hps hpp; have hpp' : d'.toList.Perm d := by
            have e1 : d'.extract 0 d.length = d' := by rw [← hps]; exact Array.extract_size
            have e2 : d.toArray.extract 0 d.length = d.toArray := by
             have := Array.extract_size (xs := d.toArray); simp
            rw [e1, e2] at hpp; simpa using hpp
           have hl' : (d'.toList.map (fun p => p.1.1)).length = xs.length := by simp [hps, hdl]
           refine goal_eff _ (d'.toList.map (fun p => p.1.1)) (by rw [← hd1]; exact hpp'.map _) ?_ ?_
           · rw [List.pairwise_map, List.pairwise_iff_getElem]; intro i j hi hj hij; have := hsort i j (Nat.zero_le _) hij (by simpa [hps] using hj); rw [getElem!_pos d' i (by simpa using hi), getElem!_pos d' j (by simpa using hj)] at this; simp only [ltOf, decide_eq_false_iff_not] at this; simpa using this
           · refine row_sorted h hn hm e1 hcp0 hg0 hlc hcm hcs hl' ?_ (sorted_world hg0 ?_ n os) fr _ trivial
             · rw [flatK_list El.enc t.n hpos hk]; exact els_roAll d'.toList
             · rw [Go.Sort.size_flatK, hps, hdl, hcs]
               exact Nat.mul_le_mul_right _ hlc
     | [], hrd, _, _ => simp [sortFCon, rds] at hrd
     | [_], hrd, _, _ =>
       simp only [sortFCon, rds] at hrd; obtain ⟨_, h2⟩ := implP_some hrd
       cases h2
     | _ :: _ :: _ :: _, hrd, _, _ =>
       simp only [sortFCon, rds] at hrd; obtain ⟨_, h2⟩ := implP_some hrd; obtain ⟨_, h3⟩ := implP_some h2; cases h3
   · exact hp.elim
end
end Go.Ev

namespace Go.Ev
open Go.Sort (SWO)
def cmpV (a b : Int) : Int := if a < b then -1 else if a > b then 1 else 0
def orV : List Int → Int
 | [] => 0
 | x :: l => if x = 0 then orV l else x
structure Cmp {α : Type} (c : α → α → Int) : Prop where
 eq : ∀ a b, c a b = 0 ↔ a = b
 anti : ∀ a b, c a b < 0 ↔ 0 < c b a
 trans : ∀ a b d, c a b < 0 → c b d < 0 → c a d < 0
 unit : ∀ a b, -1 ≤ c a b ∧ c a b ≤ 1
theorem cmpV_cmp : Cmp cmpV := by
 refine ⟨fun a b => ?_, fun a b => ?_, fun a b d => ?_, fun a b => ?_⟩ <;> unfold cmpV
 · split
   · omega
   · split <;> omega
 · (repeat' split) <;> omega
 · intro h1 h2; have a1 : a < b := by
    apply Classical.byContradiction; intro h; rw [if_neg h] at h1; split at h1 <;> omega
   have a2 : b < d := by
    apply Classical.byContradiction; intro h; rw [if_neg h] at h2; split at h2 <;> omega
   rw [if_pos (by omega)]; omega
 · split
   · omega
   · split <;> omega
def lexC {α β : Type} (c : α → α → Int) (d : β → β → Int) (x y : α × β) : Int := if c x.1 y.1 = 0 then d x.2 y.2 else c x.1 y.1
theorem Cmp.lex {α β : Type} {c : α → α → Int} {d : β → β → Int} (hc : Cmp c) (hd : Cmp d) : Cmp (lexC c d) := by
 have sym : ∀ a b, c a b = 0 → c b a = 0 := fun a b h => (hc.eq b a).2 ((hc.eq a b).1 h).symm; refine ⟨fun a b => ?_, fun a b => ?_, fun a b e => ?_, fun a b => ?_⟩ <;> unfold lexC
 · by_cases h : c a.1 b.1 = 0
   · rw [if_pos h, hd.eq]; have := (hc.eq _ _).1 h; exact ⟨fun k => Prod.ext this k, fun k => by rw [k]⟩
   · rw [if_neg h]; exact ⟨fun k => absurd k h, fun k => absurd ((hc.eq _ _).2 (by rw [k])) h⟩
 · by_cases h : c a.1 b.1 = 0
   · rw [if_pos h, if_pos (sym _ _ h)]; exact hd.anti _ _
   · rw [if_neg h, if_neg (fun k => h (sym _ _ k))]; exact hc.anti _ _
 · by_cases h : c a.1 b.1 = 0
   · have e1 := (hc.eq _ _).1 h; rw [if_pos h, e1]; by_cases h2 : c b.1 e.1 = 0
     · simp only [h2, if_true]; exact hd.trans _ _ _
     · simp only [h2, if_false]; exact fun _ k => k
   · rw [if_neg h]; by_cases h2 : c b.1 e.1 = 0
     · rw [if_pos h2, ← (hc.eq _ _).1 h2, if_neg h]; exact fun k _ => k
     · rw [if_neg h2]; intro k1 k2; have := hc.trans _ _ _ k1 k2; rw [if_neg (by omega)]; exact this
 · split
   · exact hd.unit _ _
   · exact hc.unit _ _
theorem Cmp.swo {α : Type} {c : α → α → Int} (h : Cmp c) : SWO (fun x y => decide (c x y < 0)) := by
 refine ⟨fun x => ?_, fun x y z h1 h2 => ?_, fun x y z h1 h2 => ?_⟩
 · have := (h.eq x x).2 rfl; exact decide_eq_false (by omega)
 · exact decide_eq_true (h.trans x y z (of_decide_eq_true h1) (of_decide_eq_true h2))
 · have a1 := of_decide_eq_false h1; have a2 := of_decide_eq_false h2; refine decide_eq_false fun k => ?_; by_cases e : c x y = 0
   · rw [(h.eq _ _).1 e] at k; exact a2 k
   · have := h.anti x y; have b := h.anti y x; have e2 : c y x ≠ 0 := fun q => e ((h.eq _ _).2 ((h.eq _ _).1 q).symm); have : c y x < 0 := by omega
     exact a2 (h.trans _ _ _ this k)
def sortBy {α : Type} (c : α → α → Int) (l : List α) : List α := l.mergeSort (fun a b => decide (c a b ≤ 0))
theorem sortBy_perm {α : Type} (c : α → α → Int) (l : List α) : (sortBy c l).Perm l := List.mergeSort_perm l _
theorem Cmp.tot {α : Type} {c : α → α → Int} (h : Cmp c) (a b : α) : ¬ c a b ≤ 0 → c b a < 0 := fun k => (h.anti b a).2 (by omega)
theorem sortBy_sorted {α : Type} {c : α → α → Int} (h : Cmp c) (l : List α) : (sortBy c l).Pairwise (fun a b => c a b ≤ 0) := by
 have k := List.pairwise_mergeSort (le := fun a b : α => decide (c a b ≤ 0)) (fun a b d h1 h2 => by
  have h1 := of_decide_eq_true h1; have h2 := of_decide_eq_true h2; refine decide_eq_true ?_; by_cases e1 : c a b = 0
  · rw [(h.eq _ _).1 e1]; exact h2
  · by_cases e2 : c b d = 0
    · rw [← (h.eq _ _).1 e2]; exact h1
    · have := h.trans a b d (by omega) (by omega); omega) (fun a b => by
  simp only [Bool.or_eq_true, decide_eq_true_eq]; by_cases q : c a b ≤ 0
  · exact .inl q
  · have := h.tot _ _ q; exact .inr (by omega)) l
 exact k.imp (fun h => by simpa using h)
theorem sortBy_eq {α : Type} {c : α → α → Int} (h : Cmp c) {l z : List α} (hp : z.Perm l) (hs : z.Pairwise (fun a b => ¬ c b a < 0)) : z = sortBy c l := by
 refine List.Perm.eq_of_pairwise (le := fun a b : α => ¬ c b a < 0) (fun a b _ _ h1 h2 => ?_) hs ((sortBy_sorted h l).imp (fun {a b} q k => by
  have := (h.anti b a).1 k; omega)) (hp.trans (sortBy_perm c l).symm)
 have := h.anti b a; exact (h.eq _ _).1 (by omega)
end Go.Ev
