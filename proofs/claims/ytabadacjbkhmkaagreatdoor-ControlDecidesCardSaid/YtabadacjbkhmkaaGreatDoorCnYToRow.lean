/- Part. -/
import Derived.Test.YtabadacjbkhmkaaGreatDoorCnSdToX
import Derived.Test.YtabadacjbkhmkaaGreatDoorCnTToRb
import Derived.Test.YtabadacjbkhmkaaGreatDoorEvTab
import Derived.OpenShut
import Derived.JoinedCond
import Derived.Below
import Derived.ChangeSame
import Derived.ChangeArms
import Derived.WideKeyArgs
set_option linter.all false
set_option maxRecDepth 100000
set_option maxHeartbeats 8000000
namespace Go.Proofs.YtabadacjbkhmkaaGreatDoor
open Go.Ev
theorem CmdOk.poss {ns : List Nd} {c : List Int} (h : CmdOk ns c) : Poss ns c [] := ⟨h.1, h.2, fun y hy => (by cases hy), by decide, fun i j _ hj => absurd hj (by simp)⟩
def con25 : Con := { ps := [.d true yLY, .d true yBE, .d false (.sl yI)], rs := [.d true yBE, .d false yI], pre := fun (x : Ly × Be × List Int × Unit) => GoodL x.1 ∧ BeOk x.1.1 800000 x.2.1 ∧ CmdOk x.1.1 x.2.2.1, out := fun (x : Ly × Be × List Int × Unit) => ((stepB x.1.1 x.2.2.1 x.2.1).1, (stepB x.1.1 x.2.2.1 x.2.1).2, ()), nw := id }
theorem c25 : CtrOk Tryz.prog 25 con25.ctr :=
 aA0 eA0 (eC c53 has53 (eC c54 has54 eN)) rfl Tryz.func25 rfl con25 2271 (by kernel_rfl) (by decide) (by decide) rfl (by decide) rfl (by
  rintro ⟨⟨(ns : List Nd), (ds : List Dv)⟩, ⟨(u : Int), (l : List Hy)⟩, (c : List Int), _⟩ hpre hwf X hT hG hk hK; obtain ⟨hg, hb, hc⟩ : GoodL (ns, ds) ∧ BeOk ns 800000 (u, l) ∧ CmdOk ns c := hpre; have hps := hc.poss
  (simp -implicitDefEqProofs (maxSteps := 4000000) only [go_sem, bP, con25, con53, con54, hT, hG, hk, hK, Tryz.results25] at hwf ⊢)
  clear hwf; exact ⟨⟨hg, hps⟩, fun _ => ⟨False.elim, hg, hb, hc⟩⟩)
def ebH (b : Be) (bag : Int) : Nat → List Hy
 | 0 => []
 | i + 1 => if (enterV (b.2.getD i hy0).2 bag).2 = 0 then addV (ebH b bag i) ((b.2.getD i hy0).1, (enterV (b.2.getD i hy0).2 bag).1) else ebH b bag i
def ebB (b : Be) (bag : Int) : Be × Int := endV (b.1, ebH b bag b.2.length)
theorem zB0 {ds : List Dv} {ns : List Nd} (hg : GoodL (ns, ds)) {p : Pl} (hp : FitP ns p) {K : Nat} (hb : BinK K p) {bag : Int} (h : (enterV p bag).2 = 0) : FitP ns (enterV p bag).1 ∧ BinK K (enterV p bag).1 := by
 unfold enterV at h ⊢; split at h
 · cases h
 · split at h
   · cases h
   · rename_i h1 h2; rw [if_neg h1, if_neg h2]; refine ⟨⟨by dsimp only; rw [List.length_set]; exact hp.sl, hp.bl, fun i hi => ?_⟩, hb⟩; dsimp only; by_cases e : i = 0
     · subst e; have := hp.sl; rw [show (p.1.set 0 ((p.1.getD 0 []).set 0 bag)).getD 0 [] = (p.1.getD 0 []).set 0 bag by simp [show 0 < p.1.length by omega], List.length_set]; exact hp.ln 0 hi
     · rw [getD_set_ne e]; exact hp.ln i hi
theorem zC0 {ds : List Dv} {ns : List Nd} (hg : GoodL (ns, ds)) {K : Nat} {b : Be} (hb : BeOk ns K b) {bag : Int} : ∀ i, i ≤ b.2.length → (∀ x ∈ ebH b bag i, HyOk ns b.1 K x) ∧ (ebH b bag i).length ≤ i
 | 0, _ => ⟨fun x hx => (by cases hx), by simp [ebH]⟩
 | i + 1, hi => by
   have ih := zC0 hg hb (bag := bag) i (by omega); have hh := hb.ok _ (yA4 (d := hy0) (show i < b.2.length by omega)); unfold ebH; split
   · rename_i h; have h1 := zB0 hg hh.ft hh.bk h; refine ⟨xC1 ih.1 ⟨hh.u0, hh.u1, h1.1, h1.2⟩, ?_⟩; have := oB6 (ebH b bag i) ((b.2.getD i hy0).1, (enterV (b.2.getD i hy0).2 bag).1); omega
   · exact ⟨ih.1, by omega⟩
theorem iC8 {ds : List Dv} {ns : List Nd} (hg : GoodL (ns, ds)) {K : Nat} {b : Be} (hb : BeOk ns K b) (bag : Int) : BeOk ns K (ebB b bag).1 := by
 have h := zC0 hg hb (bag := bag) _ (Nat.le_refl _); unfold ebB endV; split
 · exact ⟨Int.le_refl _, by decide, Nat.zero_le _, fun x hx => by cases hx⟩
 · split
   · exact ⟨Int.le_refl _, by decide, Nat.zero_le _, fun x hx => by cases hx⟩
   · rename_i h1 h2; exact ⟨hb.u0, hb.u2, Nat.le_of_not_lt h2, h.1⟩
def con22 : Con := { ps := [.d true yLY, .d true yBE, .d false yI, .d false yI], rs := [.d true yBE, .d false yI], pre := fun (x : Ly × Be × Int × Int × Unit) => GoodL x.1 ∧ BeOk x.1.1 900000 x.2.1 ∧ x.2.2.1 = 0 ∧ 1 ≤ x.2.2.2.1 ∧ x.2.2.2.1 ≤ 40, out := fun (x : Ly × Be × Int × Int × Unit) => ((ebB x.2.1 x.2.2.2.1).1, (ebB x.2.1 x.2.2.2.1).2, ()), nw := id }
theorem c22 : CtrOk Tryz.prog 22 con22.ctr :=
 aA0 eA0 (eC c37 has37 (eC c49 has49 (eC c50 has50 eN))) rfl Tryz.func22 rfl con22 18446885087149571903 (by kernel_rfl) (by decide) (by decide) rfl (by decide) rfl (by
  rintro ⟨⟨(ns : List Nd), (ds : List Dv)⟩, ⟨(u : Int), (l : List Hy)⟩, (n : Int), (bag : Int), _⟩ hpre hwf X hT hG hk hK; obtain ⟨hg, hb, rfl, h1, h2⟩ : GoodL (ns, ds) ∧ BeOk ns 900000 (u, l) ∧ n = 0 ∧ 1 ≤ bag ∧ bag ≤ 40 := hpre
  (simp -implicitDefEqProofs (maxSteps := 4000000) only [go_sem, bP, con22, con37, con49, con50, hT, hG, hk, hK, Tryz.results22] at hwf ⊢); (try simp (disch := decide +kernel) only [drawn, true_and, and_true])
  clear hwf; have hn1 : 1 ≤ ns.length := hg.n1; have h40 : l.length ≤ 40 := hb.n40; have hen := hg.en; dsimp only at hen; have en0 : ∀ z, ns.getD 0 z = ns.getD 0 nd0 := fun z => by simp [show 0 < ns.length by omega]
  have hok := zC0 hg hb (bag := bag); have hsb : ebB (u, l) bag = endV (u, ebH (u, l) bag l.length) := rfl; simp only [en0]; refine fun _ => ⟨fun h => absurd h (by omega), fun _ => ⟨⟨by omega, by omega⟩, fun _ _ => ⟨fun h => absurd hen h, fun _ => ?_⟩⟩⟩; refine cA0 ⟨{ i : Nat // i ≤ l.length }, 1000, fun i => [(2, .one (.int .i64 0)), (3, .one (.int .i64 bag)), (4, .one (.loc 64 0)), (5, .one (.loc 65 0)), (8, .one (.loc 66 0)), (10, .one (.loc 67 0)), (11, .one (.int .i64 (i.1 : Int)))], fun i => [(64, .cells 30 [.sl yNO ns false, .sl yPL ds false]), (65, .cells 34 [.int .i64 u, .sl yHY l false]), (66, .cells 34 [.undef, .undef]), (67, .cells 34 [.int .i64 u, .row 68]), (68, .row 50 yHY (ebH (u, l) bag i.1))], fun i => l.length - i.1⟩ ⟨0, Nat.zero_le _⟩ ?_ ?_
  · simp only [go_sem]; simp only [ebH]
    try first | rfl | (and_intros <;> first | trivial | rfl | omega)
  · rintro ⟨i, (hi : i ≤ l.length)⟩; obtain ⟨o1, o2⟩ := hok i hi; have hst : ebH (u, l) bag (i + 1) = if (enterV (l.getD i hy0).2 bag).2 = 0 then addV (ebH (u, l) bag i) ((l.getD i hy0).1, (enterV (l.getD i hy0).2 bag).1) else ebH (u, l) bag i := rfl
    obtain ⟨L, hL⟩ : ∃ L, ebH (u, l) bag i = L := ⟨_, rfl⟩; rw [hL] at o1 o2 hst
    (simp -implicitDefEqProofs (maxSteps := 4000000) only [go_sem, bP, con22, con37, con49, con50, hT, hG, hk, hK, Tryz.results22]); (try simp (disch := decide +kernel) only [drawn, true_and, and_true])
    simp only [hL]; refine fun _ => ⟨fun hlt => ?_, fun hge => ?_⟩
    · have hi' : i < l.length := by omega
      have eii : (i : Int).toNat = i := Int.toNat_natCast i; obtain ⟨h, eh⟩ : ∃ h, l.getD i hy0 = h := ⟨_, rfl⟩; have ek : ∀ z, l.getD i z = h := fun z => by rw [← eh]; simp [hi']
      have hh : HyOk ns u 900000 h := hb.ok h (by rw [← eh]; exact yA4 hi'); have hMc : ∀ y ∈ L, cpyP y.2.1 y.2.2 := fun y hy => (o1 y hy).cpy hg (by decide); rw [eh] at hst; obtain ⟨hu, ⟨hs, hbn⟩⟩ := h; have hpc : (enterV (hs, hbn) bag).2 = 0 → cpyP (enterV (hs, hbn) bag).1.1 (enterV (hs, hbn) bag).1.2 := fun q => by
       have := zB0 hg hh.ft hh.bk q; exact this.1.cpy hg (this.2.B (by decide))
      have hft := hh.ft; have hbk : BinB (hs, hbn) := hh.bk.B (by decide); have hLl : L.length ≤ 100000000 := by omega
      dsimp only at hst; simp only [eii, ek]
      (repeat' with_reducible first | refine And.intro ?_ ?_ | intro _) <;> try first | with_reducible (first | assumption | omega | contradiction) | decide
      all_goals first
       | omega
       | exact hg
       | exact hpc (by assumption)
       | exact hMc _ (by assumption)
       | (rw [if_pos (by assumption)] at hst
          refine dA0 ⟨i + 1, by omega⟩ ?_ (by dsimp only; omega); simp only [go_sem]; rw [hst]
          try first | rfl | (and_intros <;> first | trivial | rfl | omega)
          done)
       | (rw [if_neg (by assumption)] at hst
          refine dA0 ⟨i + 1, by omega⟩ ?_ (by dsimp only; omega); simp only [go_sem]; rw [hst]
          try first | rfl | (and_intros <;> first | trivial | rfl | omega)
          done)
    · obtain rfl : i = l.length := by omega
      rw [hsb, hL]; exact fun _ => ⟨rfl, rfl, rfl⟩)
def p0V (ns : List Nd) : Pl := (ns.map (fun y => List.replicate y.2.2.1.toNat 0), ns.map (fun _ => []))
def newB (ns : List Nd) (bud : Int) : Be := (bud, [(0, p0V ns)])
theorem sC5 {ds : List Dv} {ns : List Nd} (hg : GoodL (ns, ds)) : FitP ns (p0V ns) ∧ BinK 0 (p0V ns) := by
 refine ⟨⟨by simp [p0V], by simp [p0V], fun i hi => ?_⟩, fun b hb => ?_⟩
 · have h8 := hg.le8 ns[i] (List.getElem_mem hi); have e : (p0V ns).1.getD i [] = List.replicate (ns[i]).2.2.1.toNat 0 := by simp [p0V, hi]
   rw [e, List.length_replicate, show ns.getD i nd0 = ns[i] by simp [hi]]; omega
 · obtain ⟨y, _, rfl⟩ := List.mem_map.1 hb; exact Nat.le_refl _
theorem mC1 {ds : List Dv} {ns : List Nd} (hg : GoodL (ns, ds)) {bud : Int} (h0 : 0 ≤ bud) (h2 : bud ≤ 2) : BeOk ns 0 (newB ns bud) := ⟨h0, h2, by simp [newB], fun h hh => by
 rw [newB, List.mem_singleton] at hh; subst hh; exact ⟨Int.le_refl _, h0, (sC5 hg).1, (sC5 hg).2⟩⟩
def con21 : Con := { ps := [.d true yLY, .d false yI], rs := [.d true yBE, .d false yI], pre := fun (x : Ly × Int × Unit) => GoodL x.1 ∧ 0 ≤ x.2.1 ∧ x.2.1 ≤ 2, out := fun (x : Ly × Int × Unit) => (newB x.1.1 x.2.1, 0, ()), nw := id }
theorem c21 : CtrOk Tryz.prog 21 con21.ctr :=
 aA0 eA0 (eC c34 has34 eN) rfl Tryz.func21 rfl con21 4210935 (by kernel_rfl) (by decide) (by decide) rfl (by decide) rfl (by
  rintro ⟨⟨(ns : List Nd), (ds : List Dv)⟩, (u : Int), _⟩ hpre hwf X hT hG hk hK; obtain ⟨hg, h1, h2⟩ : GoodL (ns, ds) ∧ 0 ≤ u ∧ u ≤ 2 := hpre
  (simp -implicitDefEqProofs (maxSteps := 4000000) only [go_sem, bP, con21, con34, hT, hG, hk, hK, Tryz.results21] at hwf ⊢)
  clear hwf; exact ⟨hg, fun _ => ⟨False.elim, fun h => absurd h (by omega), fun _ => ⟨rfl, rfl⟩⟩⟩)
def cmd1 (s : Src) (k : Int) : Int × Src :=
 if k = 7 then (goMod s.raw 8, s.step) else if k = 8 ∨ k = 9 then (0, s) else if k = 5 then ([1, 1, 0].getD (goMod s.raw 3).toNat 0, s.step)
 else if k = 4 ∨ k = 6 then ([1, 0, 1, 0, -1].getD (goMod s.raw 5).toNat 0, s.step) else ([0, 0, 0, 0, -1].getD (goMod s.raw 5).toNat 0, s.step)
def cmdS (ns : List Nd) (s : Src) : Nat → Src
 | 0 => s
 | i + 1 => (cmd1 (cmdS ns s i) (ns.getD i nd0).2.1).2
def cmdL (ns : List Nd) (s : Src) : Nat → List Int
 | 0 => []
 | i + 1 => cmdL ns s i ++ [(cmd1 (cmdS ns s i) (ns.getD i nd0).2.1).1]
theorem yA6 (ns : List Nd) (s : Src) : ∀ i, (cmdL ns s i).length = i
 | 0 => rfl
 | i + 1 => by simp [cmdL, yA6 ns s i]
theorem nC7 {s : Src} (h : 0 ≤ s.2) (k : Int) : 0 ≤ (cmd1 s k).2.2 := by
 have h1 := Src.step_pos' h; unfold cmd1
 repeat' split
 all_goals first | exact h1 | exact h
theorem zA6 {ns : List Nd} {s : Src} (h : 0 ≤ s.2) : ∀ i, 0 ≤ (cmdS ns s i).2
 | 0 => h
 | i + 1 => nC7 (zA6 h i) _
theorem pC9 {n : Nat} {f : Nat → Nd} {i : Nat} (h : NdOk n f i) (s : Src) : cmdOk (f i) (cmd1 s (f i).2.1).1 = true := by
 have hkd := h.kd; have hex := h.ex; have b8 := xA0 s.raw 8 (by decide); have b3 := xA0 s.raw 3 (by decide); have b5 := xA0 s.raw 5 (by decide); have k3 : ∀ q : Nat, q < 3 → ([1, 1, 0] : List Int).getD q 0 = 0 ∨ ([1, 1, 0] : List Int).getD q 0 = 1 := by decide
 have k5 : ∀ q : Nat, q < 5 → ([1, 0, 1, 0, -1] : List Int).getD q 0 = 0 ∨ ([1, 0, 1, 0, -1] : List Int).getD q 0 = 1 ∨ ([1, 0, 1, 0, -1] : List Int).getD q 0 = -1 := by decide
 have k6 : ∀ q : Nat, q < 5 → ([0, 0, 0, 0, -1] : List Int).getD q 0 = 0 ∨ ([0, 0, 0, 0, -1] : List Int).getD q 0 = -1 := by decide
 have j3 := k3 (goMod s.raw 3).toNat (by omega); have j5 := k5 (goMod s.raw 5).toNat (by omega); have j6 := k6 (goMod s.raw 5).toNat (by omega); generalize f i = x at *; obtain ⟨x1, x2, x3, x4, x5⟩ := x; dsimp only at hkd hex ⊢; unfold cmdOk cmd1; dsimp only; have hk : x2 = 1 ∨ x2 = 2 ∨ x2 = 3 ∨ x2 = 4 ∨ x2 = 5 ∨ x2 = 6 ∨ x2 = 7 ∨ x2 = 8 ∨ x2 = 9 := by omega
 have h5 : x2 = 5 → x5.length = 2 := fun e => by rw [hex, e]; rfl
 have h46 : x2 = 4 ∨ x2 = 6 → x5.length = 2 := fun e => by rcases e with e | e <;> (rw [hex, e]; rfl)
 have h123 : x2 = 1 ∨ x2 = 2 ∨ x2 = 3 → x5.length = 1 := fun e => by rcases e with e | e | e <;> (rw [hex, e]; rfl)
 clear hex; generalize ([1, 1, 0] : List Int).getD (goMod s.raw 3).toNat 0 = v3 at *; generalize ([1, 0, 1, 0, -1] : List Int).getD (goMod s.raw 5).toNat 0 = v5 at *; generalize ([0, 0, 0, 0, -1] : List Int).getD (goMod s.raw 5).toNat 0 = v6 at *
 rcases hk with rfl | rfl | rfl | rfl | rfl | rfl | rfl | rfl | rfl
 · have := h123 (by omega); rcases j6 with rfl | rfl <;> simp [strN, this]
 · have := h123 (by omega); rcases j6 with rfl | rfl <;> simp [strN, this]
 · have := h123 (by omega); rcases j6 with rfl | rfl <;> simp [strN, this]
 · have := h46 (by omega); rcases j5 with rfl | rfl | rfl <;> simp [strN, this]
 · have := h5 rfl; rcases j3 with rfl | rfl <;> simp [strN, this]
 · have := h46 (by omega); rcases j5 with rfl | rfl | rfl <;> simp [strN, this]
 · simp; omega
 · simp [strN]
 · simp [strN]
theorem fC4 {ds : List Dv} {ns : List Nd} (hg : GoodL (ns, ds)) (s : Src) : CmdOk ns (cmdL ns s ns.length) := by
 refine ⟨yA6 _ _ _, fun i hi => ?_⟩; have key : ∀ k, i < k → (cmdL ns s k).getD i 0 = (cmd1 (cmdS ns s i) (ns.getD i nd0).2.1).1 := by
  intro k
  induction k with
  | zero => intro h; omega
  | succ k ih =>
    intro h; have hl := yA6 ns s k; rw [cmdL]; by_cases e : i = k
    · subst e; rw [gdE, List.getElem?_append_right (by omega), hl, Nat.sub_self]; rfl
    · rw [gdE, List.getElem?_append_left (by omega), ← gdE]; exact ih (by omega)
 rw [key _ hi]; exact pC9 (hg.nd i hi) _
def con36 : Con := { ps := [.p 75 ySR, .d true yLY], rs := [.d false (.sl yI)], pre := fun (x : Src × Ly × Unit) => 0 ≤ x.1.2 ∧ x.2.1.1.length ≤ 1000, out := fun (x : Src × Ly × Unit) => (cmdL x.2.1.1 x.1 x.2.1.1.length, ()), nw := fun (x : Src × Ly × Unit) => (cmdS x.2.1.1 x.1 x.2.1.1.length, x.2) }
theorem c36 : CtrOk Tryz.prog 36 con36.ctr :=
 aA0 eA0 (eC c31 has31 (eC c38 has38 eN)) rfl Tryz.func36 rfl con36 71153225979 (by kernel_rfl) (by decide) (by decide) rfl (by decide) rfl (by
  rintro ⟨⟨(s : List Int), (a : Int)⟩, ⟨(ns : List Nd), (ds : List Dv)⟩, _⟩ hpre hwf X hT hG hk hK; obtain ⟨h1, h2⟩ : 0 ≤ a ∧ ns.length ≤ 1000 := hpre
  (simp -implicitDefEqProofs (maxSteps := 4000000) only [go_sem, bP, con36, con31, con38, hT, hG, hk, hK, Tryz.results36] at hwf ⊢)
  clear hwf; refine cA0 ⟨{ i : Nat // i ≤ ns.length }, 1000, fun i => [(0, .one (.loc 0 0)), (3, .one (.loc 64 0)), (5, .one (.row 65)), (6, .one (.int .i64 (i.1 : Int)))], fun i => [(0, .cells 75 [.sl yI (cmdS ns (s, a) i.1).1 false, .int .i64 (cmdS ns (s, a) i.1).2]), (64, .cells 30 [.sl yNO ns false, .sl yPL ds false]), (65, .row 3 yI (cmdL ns (s, a) i.1))], fun i => ns.length - i.1⟩ ⟨0, Nat.zero_le _⟩ ?_ ?_
  · simp only [go_sem]; simp only [cmdS, cmdL]
    try first | rfl | (and_intros <;> first | trivial | rfl | omega)
  · rintro ⟨i, (hi : i ≤ ns.length)⟩; have hps := zA6 (ns := ns) (s := (s, a)) h1 i; have hll := yA6 ns (s, a) i
    (simp -implicitDefEqProofs (maxSteps := 4000000) only [go_sem, bP, con36, con31, con38, hT, hG, hk, hK, Tryz.results36])
    refine fun _ => ⟨fun hlt => ?_, fun hge => ?_⟩
    · have hi' : i < ns.length := by omega
      have eii : (i : Int).toNat = i := Int.toNat_natCast i; obtain ⟨y, ey⟩ : ∃ y, ns.getD i nd0 = y := ⟨_, rfl⟩; have ek : ∀ z, ns.getD i z = y := fun z => by rw [← ey]; simp [hi']
      have hsS : cmdS ns (s, a) (i + 1) = (cmd1 (cmdS ns (s, a) i) y.2.1).2 := by rw [cmdS, ey]
      have hsL : cmdL ns (s, a) (i + 1) = cmdL ns (s, a) i ++ [(cmd1 (cmdS ns (s, a) i) y.2.1).1] := by rw [cmdL, ey]
      simp only [eii, ek]; generalize cmdS ns (s, a) i = S at *; generalize cmdL ns (s, a) i = L at *; obtain ⟨S1, S2⟩ := S; unfold cmd1 at hsS hsL; simp only [show ((3 : Nat) : Int) = 3 from rfl, show ((5 : Nat) : Int) = 5 from rfl]
      (repeat' with_reducible first | refine And.intro ?_ ?_ | intro _) <;> try first | with_reducible (first | assumption | omega | contradiction) | decide
      all_goals first
       | omega
       | exact hps
       | (rw [if_pos (by omega)] at hsS hsL
          refine dA0 ⟨i + 1, by omega⟩ ?_ (by dsimp only; omega); simp only [go_sem]; rw [hsS, hsL]
          try first | rfl | (and_intros <;> first | trivial | rfl | omega)
          done)
       | (rw [if_neg (by omega), if_pos (by omega)] at hsS hsL
          refine dA0 ⟨i + 1, by omega⟩ ?_ (by dsimp only; omega); simp only [go_sem]; rw [hsS, hsL]
          try first | rfl | (and_intros <;> first | trivial | rfl | omega)
          done)
       | (rw [if_neg (by omega), if_neg (by omega), if_pos (by omega)] at hsS hsL
          refine dA0 ⟨i + 1, by omega⟩ ?_ (by dsimp only; omega); simp only [go_sem]; rw [hsS, hsL]
          try first | rfl | (and_intros <;> first | trivial | rfl | omega)
          done)
       | (rw [if_neg (by omega), if_neg (by omega), if_neg (by omega), if_pos (by omega)] at hsS hsL
          refine dA0 ⟨i + 1, by omega⟩ ?_ (by dsimp only; omega); simp only [go_sem]; rw [hsS, hsL]
          try first | rfl | (and_intros <;> first | trivial | rfl | omega)
          done)
       | (rw [if_neg (by omega), if_neg (by omega), if_neg (by omega), if_neg (by omega)] at hsS hsL
          refine dA0 ⟨i + 1, by omega⟩ ?_ (by dsimp only; omega); simp only [go_sem]; rw [hsS, hsL]
          try first | rfl | (and_intros <;> first | trivial | rfl | omega)
          done)
    · rw [show i = ns.length by omega]; exact ⟨rfl, rfl, rfl⟩)
attribute [local go_sem] List.set_cons_succ List.set_cons_zero List.getD_cons_succ List.getD_cons_zero List.set_nil
def binL (ns : List Nd) : Nat → List Int
 | 0 => []
 | i + 1 => if strN (ns.getD i nd0).2.1 = true then binL ns i else binL ns i ++ [(i : Int)]
theorem nB7 (ns : List Nd) : ∀ i, (binL ns i).length ≤ i
 | 0 => Nat.le_refl _
 | i + 1 => by
   have := nB7 ns i; unfold binL; split
   · omega
   · rw [List.length_append, List.length_singleton]; omega
def tgS (s : Src) : Nat → Src
 | 0 => s
 | k + 1 => (tgS s k).step.step
def tgC (ns : List Nd) (s : Src) : List Int := binL ns ns.length ++ [-1, 0 + goMod s.raw ((ns.length : Int) - 0 + 1)]
def tgL (ns : List Nd) (s : Src) : Nat → List Int
 | 0 => []
 | k + 1 => tgL ns s k ++ [(tgC ns (tgS s k)).getD (goMod (tgS s k).step.raw (tgC ns (tgS s k)).length).toNat 0]
theorem mB5 (ns : List Nd) (s : Src) : ∀ k, (tgL ns s k).length = k
 | 0 => rfl
 | k + 1 => by simp [tgL, mB5 ns s k]
theorem hB6 {s : Src} (h : 0 ≤ s.2) : ∀ k, 0 ≤ (tgS s k).2
 | 0 => h
 | k + 1 => Src.step_pos' (Src.step_pos' (hB6 h k))
def con11 : Con := { ps := [.p 75 ySR, .d true yLY, .d false yI], rs := [.d false (.sl yI)], pre := fun (x : Src × Ly × Int × Unit) => 0 ≤ x.1.2 ∧ x.2.1.1.length ≤ 1000 ∧ 0 ≤ x.2.2.1 ∧ x.2.2.1 ≤ 1000, out := fun (x : Src × Ly × Int × Unit) => (tgL x.2.1.1 x.1 x.2.2.1.toNat, ()), nw := fun (x : Src × Ly × Int × Unit) => (tgS x.1 x.2.2.1.toNat, x.2) }
theorem c11 : CtrOk Tryz.prog 11 con11.ctr :=
 aA0 eA0 (eC c23 has23 (eC c29 has29 (eC c38 has38 eN))) rfl Tryz.func11 rfl con11 4328556503 (by kernel_rfl) (by decide) (by decide) rfl (by decide) rfl (by
  rintro ⟨⟨(s : List Int), (a : Int)⟩, ⟨(ns : List Nd), (ds : List Dv)⟩, (n' : Int), _⟩ hpre hwf X hT hG hk hK; obtain ⟨h1, h2, h3, h4⟩ : 0 ≤ a ∧ ns.length ≤ 1000 ∧ 0 ≤ n' ∧ n' ≤ 1000 := hpre; obtain ⟨n, rfl⟩ : ∃ n : Nat, n' = n := ⟨n'.toNat, by omega⟩
  (simp -implicitDefEqProofs (maxSteps := 4000000) only [go_sem, bP, con11, con23, con29, con38, hT, hG, hk, hK, Tryz.results11] at hwf ⊢); (try simp (disch := decide +kernel) only [drawn, true_and, and_true])
  clear hwf; refine cA0 ⟨{ i : Nat // i ≤ ns.length }, 1000, fun i => [(0, .one (.loc 0 0)), (2, .one (.int .i64 (n : Int))), (4, .one (.loc 64 0)), (7, .one (.row 65)), (8, .one (.row 66)), (9, .one (.int .i64 (i.1 : Int)))], fun i => [(0, .cells 75 [.sl yI s false, .int .i64 a]), (64, .cells 30 [.sl yNO ns false, .sl yPL ds false]), (65, .row 3 yI (binL ns i.1)), (66, .row 3 yI [])], fun i => ns.length - i.1⟩ ⟨0, Nat.zero_le _⟩ ?_ ?_
  · simp only [go_sem]; simp only [binL]
    try first | rfl | (and_intros <;> first | trivial | rfl | omega)
  · rintro ⟨i, (hi : i ≤ ns.length)⟩; have hbl := nB7 ns i
    (simp -implicitDefEqProofs (maxSteps := 4000000) only [go_sem, bP, con11, con23, con29, con38, hT, hG, hk, hK, Tryz.results11]); (try simp (disch := decide +kernel) only [drawn, true_and, and_true])
    refine fun _ => ⟨fun hlt => ?_, fun hge => ?_⟩
    · have hi' : i < ns.length := by omega
      have eii : (i : Int).toNat = i := Int.toNat_natCast i; obtain ⟨y, ey⟩ : ∃ y, ns.getD i nd0 = y := ⟨_, rfl⟩; have ek : ∀ z, ns.getD i z = y := fun z => by rw [← ey]; simp [hi']
      have hst : binL ns (i + 1) = if strN y.2.1 = true then binL ns i else binL ns i ++ [(i : Int)] := by rw [binL, ey]
      simp only [eii, ek]
      (repeat' with_reducible first | refine And.intro ?_ ?_ | intro _) <;> try first | with_reducible (first | assumption | omega | contradiction) | decide
      all_goals first
       | omega
       | (rw [if_pos (by assumption)] at hst
          refine dA0 ⟨i + 1, by omega⟩ ?_ (by dsimp only; omega); simp only [go_sem]; rw [hst]
          try first | rfl | (and_intros <;> first | trivial | rfl | omega)
          done)
       | (have h : strN y.2.1 = false := by assumption
          rw [if_neg (by rw [h]; decide)] at hst; refine dA0 ⟨i + 1, by omega⟩ ?_ (by dsimp only; omega); simp only [go_sem]; rw [hst]
          try first | rfl | (and_intros <;> first | trivial | rfl | omega)
          done)
    · obtain rfl : i = ns.length := by omega
      refine cA0 ⟨{ k : Nat // k ≤ n }, 2000, fun k => [(0, .one (.loc 0 0)), (2, .one (.int .i64 (n : Int))), (4, .one (.loc 64 0)), (7, .one (.row 65)), (8, .one (.row 66)), (10, .one (.int .i64 (k.1 : Int)))], fun k => [(0, .cells 75 [.sl yI (tgS (s, a) k.1).1 false, .int .i64 (tgS (s, a) k.1).2]), (64, .cells 30 [.sl yNO ns false, .sl yPL ds false]), (65, .row 3 yI (binL ns ns.length)), (66, .row 3 yI (tgL ns (s, a) k.1))], fun k => n - k.1⟩ ⟨0, Nat.zero_le _⟩ ?_ ?_
      · simp only [go_sem]; simp only [tgS, tgL]
        try first | rfl | (and_intros <;> first | trivial | rfl | omega)
      · rintro ⟨k, (hk1 : k ≤ n)⟩; have hps := hB6 (s := (s, a)) h1 k; have hps2 := Src.step_pos' hps; have hll := mB5 ns (s, a) k; have hsS : tgS (s, a) (k + 1) = (tgS (s, a) k).step.step := rfl; have hsL : tgL ns (s, a) (k + 1) = tgL ns (s, a) k ++ [(tgC ns (tgS (s, a) k)).getD (goMod (tgS (s, a) k).step.raw (tgC ns (tgS (s, a) k)).length).toNat 0] := rfl; unfold tgC at hsL
        (simp -implicitDefEqProofs (maxSteps := 4000000) only [go_sem, bP, con11, con23, con29, con38, hT, hG, hk, hK, Tryz.results11]); (try simp (disch := decide +kernel) only [drawn, true_and, and_true])
        refine ⟨fun hlt => ?_, fun hge2 => ?_⟩
        · generalize tgS (s, a) k = S at *; generalize tgL ns (s, a) k = L at *; obtain ⟨S1, S2⟩ := S; have hcl : 0 < (binL ns ns.length ++ [-1, 0 + goMod (Src.raw (S1, S2)) ((ns.length : Int) - 0 + 1)]).length := by
           rw [List.length_append]; show 0 < _ + 2; omega
          (repeat' with_reducible first | refine And.intro ?_ ?_ | intro _) <;> try first | with_reducible (first | assumption | omega | contradiction) | decide
          all_goals first
           | omega
           | exact Int.natCast_nonneg _
           | (show ((ns.length : Nat) : Int) ≤ 1000000; omega)
           | (refine dA0 ⟨k + 1, by omega⟩ ?_ (by dsimp only; omega)
              simp only [go_sem]; rw [hsS, hsL]
              try first | rfl | (and_intros <;> first | trivial | rfl | omega)
              done)
        · obtain rfl : k = n := by omega
          rw [Int.toNat_natCast]; exact ⟨rfl, rfl, rfl⟩)
end Go.Proofs.YtabadacjbkhmkaaGreatDoor

set_option maxRecDepth 100000
set_option maxHeartbeats 8000000
namespace Go.Proofs.YtabadacjbkhmkaaGreatDoor
open Go.Ev
attribute [local go_sem] List.set_cons_succ List.set_cons_zero List.getD_cons_succ List.getD_cons_zero List.set_nil
abbrev Bq := Src × Be × Pl
def blk1 (ns : List Nd) (q : Bq) : Bq :=
 (cmdS ns q.1 ns.length, if (stepB ns (cmdL ns q.1 ns.length) q.2.1).2 = 0 then ((stepB ns (cmdL ns q.1 ns.length) q.2.1).1, plantV ns q.2.2 (cmdL ns q.1 ns.length) []) else q.2)
def blkN (ns : List Nd) : Nat → Bq → Bq
 | 0, q => q
 | k + 1, q => blkN ns k (blk1 ns q)
def ent1 (i : Int) (q : Bq) : Bq := (q.1, if (enterV q.2.2 i).2 = 0 ∧ (ebB q.2.1 i).2 = 0 then ((ebB q.2.1 i).1, (enterV q.2.2 i).1) else q.2)
def rndK (q : Bq) : Nat := (0 + goMod q.1.raw (2 - 0 + 1)).toNat
def rnd (ns : List Nd) (i : Int) (q : Bq) : Bq := ent1 i (blkN ns (rndK q) (q.1.step, q.2))
def belR (ns : List Nd) : Nat → Int → Bq → Bq
 | 0, _, q => q
 | f + 1, i, q => if i ≤ 4 ∧ (i ≤ 2 ∨ q.1.2 < q.1.1.length) then belR ns f (i + 1) (rnd ns i q) else q
def belV (ns : List Nd) (s : Src) : Bq := belR ns 4 1 (s.step, newB ns (goMod s.raw 3), p0V ns)
structure BqOk (ns : List Nd) (K : Nat) (q : Bq) : Prop where
 sp : 0 ≤ q.1.2
 be : BeOk ns K q.2.1
 ft : FitP ns q.2.2
 bk : BinK K q.2.2
theorem BqOk.mono {ns : List Nd} {K J : Nat} {q : Bq} (h : BqOk ns K q) (hKJ : K ≤ J) : BqOk ns J q := ⟨h.sp, h.be.mono hKJ, h.ft, fun b hb => Nat.le_trans (h.bk b hb) hKJ⟩
theorem wC3 {ds : List Dv} {ns : List Nd} (hg : GoodL (ns, ds)) {K : Nat} {q : Bq} (h : BqOk ns K q) : BqOk ns (K + 24) (blk1 ns q) := by
 have hc := fC4 hg q.1; have hp := eB2 hg h.ft h.bk hc.poss; unfold blk1; by_cases e : (stepB ns (cmdL ns q.1 ns.length) q.2.1).2 = 0
 · rw [if_pos e]; exact ⟨zA6 h.sp _, rC6 hg hc h.be, hp.1, hp.2.1⟩
 · rw [if_neg e]; exact ⟨zA6 h.sp _, h.be.mono (by omega), h.ft, fun b hb => Nat.le_trans (h.bk b hb) (by omega)⟩
theorem oC3 {ds : List Dv} {ns : List Nd} (hg : GoodL (ns, ds)) {K : Nat} {q : Bq} (h : BqOk ns K q) (i : Int) : BqOk ns K (ent1 i q) := by
 unfold ent1; by_cases e : (enterV q.2.2 i).2 = 0 ∧ (ebB q.2.1 i).2 = 0
 · rw [if_pos e]; have hp := zB0 hg h.ft h.bk e.1; exact ⟨h.sp, iC8 hg h.be i, hp.1, hp.2⟩
 · rw [if_neg e]; exact h
theorem qC2 (q : Bq) : (rndK q : Int) = 0 + goMod q.1.raw (2 - 0 + 1) ∧ rndK q ≤ 2 := by
 have := xA0 q.1.raw (2 - 0 + 1) (by decide); unfold rndK; omega
theorem fC3 {ds : List Dv} {ns : List Nd} (hg : GoodL (ns, ds)) : ∀ (k : Nat) {K : Nat} {q : Bq}, BqOk ns K q → BqOk ns (K + 24 * k) (blkN ns k q)
 | 0, K, q, h => h
 | k + 1, K, q, h => by
   have := fC3 hg k (wC3 hg h); unfold blkN; rw [show K + 24 * (k + 1) = K + 24 + 24 * k by omega]; exact this
theorem xD3 {ds : List Dv} {ns : List Nd} (hg : GoodL (ns, ds)) {K : Nat} {q : Bq} (h : BqOk ns K q) (i : Int) : BqOk ns (K + 48) (rnd ns i q) := by
 have hk := (qC2 q).2; have h0 : BqOk ns K (q.1.step, q.2) := ⟨Src.step_pos' h.sp, h.be, h.ft, h.bk⟩; exact (oC3 hg (fC3 hg (rndK q) h0) i).mono (by omega)
theorem dC3 {ds : List Dv} {ns : List Nd} (hg : GoodL (ns, ds)) : ∀ (f : Nat) (i : Int) {K : Nat} {q : Bq}, BqOk ns K q → BqOk ns (K + 48 * f) (belR ns f i q)
 | 0, _, K, q, h => h
 | f + 1, i, K, q, h => by
   unfold belR; split
   · have := dC3 hg f (i + 1) (xD3 hg h i); rw [show K + 48 * (f + 1) = K + 48 + 48 * f by omega]; exact this
   · exact h.mono (by omega)
theorem yC2 {ds : List Dv} {ns : List Nd} (hg : GoodL (ns, ds)) {s : Src} (hs : 0 ≤ s.2) : BqOk ns 0 (s.step, newB ns (goMod s.raw 3), p0V ns) := by
 have := xA0 s.raw 3 (by decide); exact ⟨Src.step_pos' hs, mC1 hg (by omega) (by omega), (sC5 hg).1, (sC5 hg).2⟩
theorem tC9 {ds : List Dv} {ns : List Nd} (hg : GoodL (ns, ds)) {s : Src} (hs : 0 ≤ s.2) : BqOk ns 192 (belV ns s) := dC3 hg 4 1 (yC2 hg hs)
def con10 : Con := { ps := [.p 75 ySR, .d true yLY], rs := [.d true yBE, .d true yP2], pre := fun (x : Src × Ly × Unit) => 0 ≤ x.1.2 ∧ GoodL x.2.1, out := fun (x : Src × Ly × Unit) => ((belV x.2.1.1 x.1).2.1, (belV x.2.1.1 x.1).2.2, ()), nw := fun (x : Src × Ly × Unit) => ((belV x.2.1.1 x.1).1, x.2) }
theorem c10 : CtrOk Tryz.prog 10 con10.ctr :=
 aA0 eA0 (eC c16 has16 (eC c21 has21 (eC c22 has22 (eC c25 has25 (eC c29 has29 (eC c31 has31 (eC c34 has34 (eC c35 has35 (eC c36 has36 (eC c37 has37 eN)))))))))) rfl Tryz.func10 rfl con10 618970020795683110312738171 (by kernel_rfl) (by decide) (by decide) rfl (by decide) rfl (by
  rintro ⟨⟨(s : List Int), (a : Int)⟩, ⟨(ns : List Nd), (ds : List Dv)⟩, _⟩ hpre hwf X hT hG hk hK; obtain ⟨h1, hg⟩ : 0 ≤ a ∧ GoodL (ns, ds) := hpre; have hn24 : ns.length ≤ 24 := hg.n24; have b3 := xA0 (Src.raw (s, a)) 3 (by decide); have hq0 := yC2 hg (s := (s, a)) h1; have hfin : belV ns (s, a) = belR ns 4 1 (Src.step (s, a), newB ns (goMod (Src.raw (s, a)) 3), p0V ns) := rfl
  (simp -implicitDefEqProofs (maxSteps := 4000000) only [go_sem, bP, con10, con16, con21, con22, con25, con29, con31, con34, con35, con36, con37, hT, hG, hk, hK, Tryz.results10] at hwf ⊢); (try simp (disch := decide +kernel) only [drawn, true_and, and_true])
  clear hwf; refine ⟨h1, fun _ => ⟨⟨hg, by omega, by omega⟩, fun _ => ⟨hg, fun _ => ?_⟩⟩⟩; generalize hQ0 : (Src.step (s, a), newB ns (goMod (Src.raw (s, a)) 3), p0V ns) = Q0 at *; obtain ⟨F, hF⟩ : ∃ F, belV ns (s, a) = F := ⟨_, rfl⟩; refine cA0 ⟨{ q : Nat × Bq // 1 ≤ q.1 ∧ q.1 ≤ 5 ∧ belR ns (5 - q.1) q.1 q.2 = F ∧ BqOk ns (48 * (q.1 - 1)) q.2 }, 1000, fun q => [(0, .one (.loc 0 0)), (3, .one (.loc 64 0)), (4, .one (.loc 67 0)), (5, .one (.loc 68 0)), (6, .one (.loc 65 0)), (8, .one (.loc 66 0)), (10, .one (.int .i64 (q.1.1 : Int)))], fun q => [(0, .cells 75 [.sl yI q.1.2.1.1 false, .int .i64 q.1.2.1.2]), (64, .cells 30 [.sl yNO ns false, .sl yPL ds false]), (65, .cells 34 [.int .i64 q.1.2.2.1.1, .sl yHY q.1.2.2.1.2 false]), (66, .cells 37 [.sl (.sl yI) q.1.2.2.2.1 false, .sl (.sl yI) q.1.2.2.2.2 false]), (67, .cells 34 [.undef, .undef]), (68, .cells 37 [.undef, .undef])], fun q => 5 - q.1.1⟩ ⟨(1, Q0), Nat.le_refl _, (show 1 ≤ 5 by decide), hfin.symm.trans hF, hq0⟩ ?_ ?_
  · simp only [go_sem]; subst hQ0
    try first | rfl | (and_intros <;> first | trivial | rfl | omega)
  · rintro ⟨⟨i, ⟨⟨S1, S2⟩, ⟨u, l⟩, ⟨sl, bn⟩⟩⟩, (hi1 : 1 ≤ i), (hi2 : i ≤ 5), (hr : belR ns (5 - i) i ((S1, S2), (u, l), (sl, bn)) = F), (hok : BqOk ns (48 * (i - 1)) ((S1, S2), (u, l), (sl, bn)))⟩; have hs0 : 0 ≤ S2 := hok.sp; have hkn := qC2 ((S1, S2), (u, l), (sl, bn))
    (simp -implicitDefEqProofs (maxSteps := 4000000) only [go_sem, bP, con10, con16, con21, con22, con25, con29, con31, con34, con35, con36, con37, hT, hG, hk, hK, Tryz.results10]); (try simp (disch := decide +kernel) only [drawn, true_and, and_true])
    refine ⟨fun h => ⟨h, fun h2 => ⟨h, h2⟩⟩, fun hc => ?_, fun hc => ?_⟩
    · have hr2 : belR ns (5 - i) i ((S1, S2), (u, l), (sl, bn)) = belR ns (4 - i) ((i : Int) + 1) (rnd ns i ((S1, S2), (u, l), (sl, bn))) := by
       rw [show 5 - i = (4 - i) + 1 by omega, belR, if_pos hc]
      rw [hr] at hr2; have hB0 : BqOk ns (48 * (i - 1)) (Src.step (S1, S2), (u, l), (sl, bn)) := ⟨Src.step_pos' hs0, hok.be, hok.ft, hok.bk⟩; have hrn : rnd ns i ((S1, S2), (u, l), (sl, bn)) = ent1 i (blkN ns (rndK ((S1, S2), (u, l), (sl, bn))) (Src.step (S1, S2), (u, l), (sl, bn))) := rfl; rw [hrn] at hr2; obtain ⟨hk1, hk2⟩ := hkn; dsimp only at hk1; rw [← hk1]; generalize rndK ((S1, S2), (u, l), (sl, bn)) = m at *; generalize hQs : (Src.step (S1, S2), (u, l), (sl, bn)) = Qs at *; obtain ⟨B, hB⟩ : ∃ B, blkN ns m Qs = B := ⟨_, rfl⟩; rw [hB] at hr2; refine ⟨⟨hs0, by decide, by decide, by decide⟩, fun _ => ?_⟩; refine cA0 ⟨{ q : Nat × Bq // q.1 ≤ 2 ∧ blkN ns q.1 q.2 = B ∧ BqOk ns (48 * i - 24 * q.1) q.2 }, 2000, fun q => [(0, .one (.loc 0 0)), (3, .one (.loc 64 0)), (4, .one (.loc 67 0)), (5, .one (.loc 68 0)), (6, .one (.loc 65 0)), (8, .one (.loc 66 0)), (10, .one (.int .i64 (i : Int))), (11, .one (.int .i64 (q.1.1 : Int)))], fun q => [(0, .cells 75 [.sl yI q.1.2.1.1 false, .int .i64 q.1.2.1.2]), (64, .cells 30 [.sl yNO ns false, .sl yPL ds false]), (65, .cells 34 [.int .i64 q.1.2.2.1.1, .sl yHY q.1.2.2.1.2 false]), (66, .cells 37 [.sl (.sl yI) q.1.2.2.2.1 false, .sl (.sl yI) q.1.2.2.2.2 false]), (67, .cells 34 [.undef, .undef]), (68, .cells 37 [.undef, .undef])], fun q => q.1.1⟩ ⟨(m, Qs), hk2, hB, hB0.mono (by dsimp only; omega)⟩ ?_ ?_
      · simp only [go_sem]; subst hQs
        try first | rfl | (and_intros <;> first | trivial | rfl | omega)
      · rintro ⟨⟨k, ⟨⟨T1, T2⟩, ⟨v, j⟩, ⟨xl, yn⟩⟩⟩, (hk3 : k ≤ 2), (hb1 : blkN ns k ((T1, T2), (v, j), (xl, yn)) = B), (hok2 : BqOk ns (48 * i - 24 * k) ((T1, T2), (v, j), (xl, yn)))⟩; have ht0 : 0 ≤ T2 := hok2.sp; have hcm := fC4 hg (T1, T2); have hbe8 : BeOk ns 800000 (v, j) := hok2.be.mono (by omega); have hbe9 : BeOk ns 900000 (v, j) := hok2.be.mono (by omega); have hft : FitP ns (xl, yn) := hok2.ft; have hbk : BinK 900000 (xl, yn) := fun b hb => Nat.le_trans (hok2.bk b hb) (by omega); have hbb : BinB (xl, yn) := hbk.B (by decide); have hpo := hcm.poss
        (simp -implicitDefEqProofs (maxSteps := 4000000) only [go_sem, bP, con10, con16, con21, con22, con25, con29, con31, con34, con35, con36, con37, hT, hG, hk, hK, Tryz.results10]); (try simp (disch := decide +kernel) only [drawn, true_and, and_true])
        refine ⟨fun hgt => ?_, fun hle => ?_⟩
        · obtain ⟨k, rfl⟩ : ∃ q, k = q + 1 := ⟨k - 1, by omega⟩; have hb2 := hb1; rw [blkN] at hb2; have hokn : BqOk ns (48 * i - 24 * k) (blk1 ns ((T1, T2), (v, j), (xl, yn))) := (wC3 hg hok2).mono (by omega); have hbk1 : blk1 ns ((T1, T2), (v, j), (xl, yn)) = (cmdS ns (T1, T2) ns.length, if (stepB ns (cmdL ns (T1, T2) ns.length) (v, j)).2 = 0 then ((stepB ns (cmdL ns (T1, T2) ns.length) (v, j)).1, plantV ns (xl, yn) (cmdL ns (T1, T2) ns.length) []) else ((v, j), (xl, yn))) := rfl; have hfn : ∀ Q' : Bq, blk1 ns ((T1, T2), (v, j), (xl, yn)) = Q' → blkN ns k Q' = B ∧ BqOk ns (48 * i - 24 * k) Q' := fun Q' e => by rw [← e]; exact ⟨hb2, hokn⟩
          generalize cmdL ns (T1, T2) ns.length = c at *
          (repeat' with_reducible first | refine And.intro ?_ ?_ | intro _) <;> try first | with_reducible (first | assumption | omega | contradiction) | decide
          all_goals first
           | omega
           | exact hg
           | exact hcm
           | exact hpo
           | (rw [if_pos (by assumption)] at hbk1
              have hq := hfn _ hbk1; refine dA0 ⟨(k, _), by dsimp only; omega, hq.1, hq.2⟩ ?_ (by dsimp only; omega); simp only [go_sem]
              try first | rfl | (and_intros <;> first | trivial | rfl | omega)
              done)
           | (rw [if_neg (by assumption)] at hbk1
              have hq := hfn _ hbk1; refine dA0 ⟨(k, _), by dsimp only; omega, hq.1, hq.2⟩ ?_ (by dsimp only; omega); simp only [go_sem]
              try first | rfl | (and_intros <;> first | trivial | rfl | omega)
              done)
        · obtain rfl : k = 0 := by omega
          rw [blkN] at hb1; subst hb1; have hen : ent1 i ((T1, T2), (v, j), (xl, yn)) = ((T1, T2), if (enterV (xl, yn) i).2 = 0 ∧ (ebB (v, j) i).2 = 0 then ((ebB (v, j) i).1, (enterV (xl, yn) i).1) else ((v, j), (xl, yn))) := rfl; have hoke : BqOk ns (48 * (i + 1 - 1)) (ent1 i ((T1, T2), (v, j), (xl, yn))) := (oC3 hg hok2 i).mono (by omega); have hfn : ∀ Q' : Bq, ent1 i ((T1, T2), (v, j), (xl, yn)) = Q' → belR ns (5 - (i + 1)) ((i + 1 : Nat) : Int) Q' = F ∧ BqOk ns (48 * (i + 1 - 1)) Q' := fun Q' e => by
           rw [← e]; exact ⟨by rw [show 5 - (i + 1) = 4 - i by omega, show ((i + 1 : Nat) : Int) = (i : Int) + 1 by omega]; exact hr2.symm, hoke⟩
          (repeat' with_reducible first | refine And.intro ?_ ?_ | intro _) <;> try first | with_reducible (first | assumption | omega | contradiction) | decide
          all_goals first
           | omega
           | exact hg
           | (rw [if_pos (by assumption)] at hen
              have hq := hfn _ hen; refine dA0 ⟨(i + 1, _), by dsimp only; omega, by dsimp only; omega, hq.1, hq.2⟩ ?_ (by dsimp only; omega); simp only [go_sem]
              try rfl
              done)
           | (rw [if_neg (by omega)] at hen
              have hq := hfn _ hen; refine dA0 ⟨(i + 1, _), by dsimp only; omega, by dsimp only; omega, hq.1, hq.2⟩ ?_ (by dsimp only; omega); simp only [go_sem]
              try rfl
              done)
    · have hFe : F = ((S1, S2), (u, l), (sl, bn)) := by
       rw [← hr]
       match h : 5 - i with
       | 0 => rfl
       | f + 1 => rw [belR, if_neg (show ¬ ((i : Int) ≤ 4 ∧ ((i : Int) ≤ 2 ∨ S2 < S1.length)) by omega)]
      rw [hF, hFe]; exact ⟨rfl, rfl, rfl, rfl, rfl, rfl⟩)
end Go.Proofs.YtabadacjbkhmkaaGreatDoor

set_option maxRecDepth 100000
set_option maxHeartbeats 8000000
namespace Go.Proofs.YtabadacjbkhmkaaGreatDoor
open Go.Ev
def Dg1 (s : ByteArray) : Prop := s.size = 1 ∧ 48 ≤ byteAt s 0 ∧ byteAt s 0 ≤ 57
def dgV (s : ByteArray) : Int := byteAt s 0 - 48
def con115 : Con := { ps := [.d false .str], rs := [.d false .bool], pre := fun (x : ByteArray × Unit) => Dg1 x.1, out := fun _ => (true, ()), nw := id }
theorem c115 : CtrOk Tryz.prog 115 con115.ctr :=
 aA0 eA0 eN rfl Tryz.func115 rfl con115 524429 (by kernel_rfl) (by decide) (by decide) rfl (by decide) rfl (by
  rintro ⟨s, _⟩ hpre hwf X hT hG hk hK; obtain ⟨h1, h2, h3⟩ : Dg1 s := hpre
  (simp -implicitDefEqProofs (maxSteps := 4000000) only [go_sem, bP, con115, hT, hG, hk, hK, Tryz.results115] at hwf ⊢)
  clear hwf; refine cA0 ⟨{ i : Nat // i ≤ 1 }, 1000, fun i => [(0, .one (.str s)), (3, .one (.int .i64 (i.1 : Int)))], fun _ => [], fun i => 1 - i.1⟩ ⟨0, Nat.zero_le _⟩ ?_ ?_
  · simp only [go_sem]; rfl
  · rintro ⟨i, (hi : i ≤ 1)⟩
    (simp -implicitDefEqProofs (maxSteps := 4000000) only [go_sem, bP, con115, hT, hG, hk, hK, Tryz.results115])
    refine fun _ hlt => ?_; obtain rfl : i = 0 := by omega
    have e0 : byteAt s ((0 : Nat) : Int) = byteAt s 0 := rfl; simp only [e0, h1]; generalize byteAt s 0 = c at *
    (repeat' with_reducible first | refine And.intro ?_ ?_ | intro _) <;> try first | with_reducible (first | assumption | omega | contradiction) | decide
    all_goals first
     | omega
     | (refine dA0 ⟨1, Nat.le_refl _⟩ ?_ (by dsimp only; omega)
        simp only [go_sem]
        try rfl
        done))
def con116 : Con := { ps := [.d false .str], rs := [.d false yI], pre := fun (x : ByteArray × Unit) => Dg1 x.1, out := fun (x : ByteArray × Unit) => (dgV x.1, ()), nw := id }
theorem c116 : CtrOk Tryz.prog 116 con116.ctr :=
 aA0 eA0 eN rfl Tryz.func116 rfl con116 285 (by kernel_rfl) (by decide) (by decide) rfl (by decide) rfl (by
  rintro ⟨s, _⟩ hpre hwf X hT hG hk hK; obtain ⟨h1, h2, h3⟩ : Dg1 s := hpre
  (simp -implicitDefEqProofs (maxSteps := 4000000) only [go_sem, bP, con116, hT, hG, hk, hK, Tryz.results116] at hwf ⊢)
  clear hwf; refine cA0 ⟨{ i : Nat // i ≤ 1 }, 1000, fun i => [(0, .one (.str s)), (3, .one (.int .i64 (if i.1 = 0 then 0 else dgV s))), (4, .one (.int .i64 (i.1 : Int)))], fun _ => [], fun i => 1 - i.1⟩ ⟨0, Nat.zero_le _⟩ ?_ ?_
  · simp only [go_sem]
    try simp only [if_true]
    rfl
  · rintro ⟨i, (hi : i ≤ 1)⟩; have hdv : dgV s = byteAt s 0 - 48 := rfl
    (simp -implicitDefEqProofs (maxSteps := 4000000) only [go_sem, bP, con116, hT, hG, hk, hK, Tryz.results116])
    refine fun _ => ⟨fun hlt => ?_, fun hge => ?_⟩
    · obtain rfl : i = 0 := by omega
      have e0 : byteAt s ((0 : Nat) : Int) = byteAt s 0 := rfl; simp only [e0, h1, if_true]; generalize byteAt s 0 = c at *
      (repeat' with_reducible first | refine And.intro ?_ ?_ | intro _) <;> try first | with_reducible (first | assumption | omega | contradiction) | decide
      all_goals first
       | omega
       | (refine dA0 ⟨1, Nat.le_refl _⟩ ?_ (by dsimp only; omega)
          simp only [go_sem]; simp only [hdv, Nat.one_ne_zero, if_false]
          try first | rfl | (and_intros <;> first | trivial | rfl | omega)
          done)
    · rw [if_neg (by omega)])
def con96 : Con := { ps := [.d false .str], rs := [.d false yI, .d false .bool], pre := fun (x : ByteArray × Unit) => Dg1 x.1, out := fun (x : ByteArray × Unit) => (dgV x.1, true, ()), nw := id }
theorem c96 : CtrOk Tryz.prog 96 con96.ctr :=
 aA0 eA0 (eC c115 has115 (eC c116 has116 eN)) rfl Tryz.func96 rfl con96 67108877 (by kernel_rfl) (by decide) (by decide) rfl (by decide) rfl (by
  rintro ⟨s, _⟩ hpre hwf X hT hG hk hK; have hd : Dg1 s := hpre; have h1 := hd.1
  (simp -implicitDefEqProofs (maxSteps := 4000000) only [go_sem, bP, con96, con115, con116, hT, hG, hk, hK, Tryz.results96] at hwf ⊢)
  clear hwf; simp only [h1]
  (repeat' with_reducible first | refine And.intro ?_ ?_ | intro _) <;> try first | with_reducible (first | assumption | omega | contradiction) | decide
  all_goals first
   | omega
   | exact hd)
def spS (s : ByteArray) (b : Int) : Nat → List ByteArray × ByteArray
 | 0 => ([], ByteArray.mk #[])
 | i + 1 => if byteAt s i = b then ((spS s b i).1 ++ [(spS s b i).2], ByteArray.mk #[]) else ((spS s b i).1, (spS s b i).2 ++ s.extract i (i + 1))
def spV (s : ByteArray) (b : Int) : List ByteArray := (spS s b s.size).1 ++ [(spS s b s.size).2]
theorem gC1 (s : ByteArray) (b : Int) : ∀ i, (spS s b i).1.length ≤ i ∧ (spS s b i).2.size ≤ i
 | 0 => ⟨Nat.le_refl _, Nat.le_refl _⟩
 | i + 1 => by
   have ih := gC1 s b i; unfold spS; split
   · refine ⟨by rw [List.length_append, List.length_singleton]; omega, Nat.zero_le _⟩
   · refine ⟨by dsimp only; omega, ?_⟩; dsimp only; rw [ByteArray.size_append, ByteArray.size_extract]; omega
def con57 : Con := { ps := [.d false .str, .d false (.int .u8)], rs := [.d false (.sl .str)], pre := fun (x : ByteArray × Int × Unit) => x.1.size ≤ 5000, out := fun (x : ByteArray × Int × Unit) => (spV x.1 x.2.1, ()), nw := id }
theorem c57 : CtrOk Tryz.prog 57 con57.ctr :=
 aA0 eA0 eN rfl Tryz.func57 rfl con57 264435 (by kernel_rfl) (by decide) (by decide) rfl (by decide) rfl (by
  rintro ⟨s, (b : Int), _⟩ hpre hwf X hT hG hk hK; have hl : s.size ≤ 5000 := hpre
  (simp -implicitDefEqProofs (maxSteps := 4000000) only [go_sem, bP, con57, hT, hG, hk, hK, Tryz.results57] at hwf ⊢)
  clear hwf; refine cA0 ⟨{ i : Nat // i ≤ s.size }, 1000, fun i => [(0, .one (.str s)), (1, .one (.int .u8 b)), (5, .one (.row 64)), (6, .one (.str (spS s b i.1).2)), (7, .one (.int .i64 (i.1 : Int)))], fun i => [(64, .row 9 .str (spS s b i.1).1)], fun i => s.size - i.1⟩ ⟨0, Nat.zero_le _⟩ ?_ ?_
  · simp only [go_sem]; simp only [spS]
    try first | rfl | (and_intros <;> first | trivial | rfl | omega)
  · rintro ⟨i, (hi : i ≤ s.size)⟩; obtain ⟨q1, q2⟩ := gC1 s b i; have hst : spS s b (i + 1) = if byteAt s i = b then ((spS s b i).1 ++ [(spS s b i).2], ByteArray.mk #[]) else ((spS s b i).1, (spS s b i).2 ++ s.extract i (i + 1)) := rfl
    (simp -implicitDefEqProofs (maxSteps := 4000000) only [go_sem, bP, con57, hT, hG, hk, hK, Tryz.results57])
    refine fun _ => ⟨fun hlt => ?_, fun hge => ?_⟩
    · have eii : (i : Int).toNat = i := Int.toNat_natCast i; have eii1 : ((i : Int) + 1).toNat = i + 1 := by omega
      have hsz : (s.extract i (i + 1)).size ≤ 1 := by rw [ByteArray.size_extract]; omega
      generalize spS s b i = T at *; simp only [eii, eii1]
      (repeat' with_reducible first | refine And.intro ?_ ?_ | intro _) <;> try first | with_reducible (first | assumption | omega | contradiction) | decide
      all_goals first
       | omega
       | (rw [if_pos (by assumption)] at hst
          refine dA0 ⟨i + 1, by omega⟩ ?_ (by dsimp only; omega); simp only [go_sem]; rw [hst]
          try first | rfl | (and_intros <;> first | trivial | rfl | omega)
          done)
       | (rw [if_neg (by assumption)] at hst
          refine dA0 ⟨i + 1, by omega⟩ ?_ (by dsimp only; omega); simp only [go_sem]; rw [hst]
          try first | rfl | (and_intros <;> first | trivial | rfl | omega)
          done)
    · have : i = s.size := by omega
      subst this
      (repeat' with_reducible first | refine And.intro ?_ ?_ | intro _) <;> try first | with_reducible (first | assumption | omega | contradiction) | decide
      all_goals first
       | omega
       | rfl)
end Go.Proofs.YtabadacjbkhmkaaGreatDoor

namespace Go.Ev
open Go.RowKit Go.WideShapes Go.ChangeShapes
def tyB (P : Program) : Nat → TypeId → Ty → Bool
 | 0, _, _ => false
 | d + 1, t, u => decide (P.cellsOf t = u.n) && decide (0 < u.n) && (match P.underlying t with
   | some (.struct fs) => tyFs (tyB P d) fs.toList 0 u
   | some (.int k) => (match u with | .int k' => decide (k = k') | _ => false)
   | some .bool => (match u with | .bool => true | _ => false)
   | some .string => (match u with | .str => true | _ => false)
   | some (.slice e) => (match u with | .sl v => tyB P d e v | _ => false)
   | _ => false)
where tyFs (f : TypeId → Ty → Bool) : List Field → Nat → Ty → Bool
 | [], _, _ => false
 | [x], off, u => decide (x.offset = off) && f x.type u
 | x :: y :: xs, off, .pair a b => decide (x.offset = off) && f x.type a && tyFs f (y :: xs) (off + a.n) b
 | _, _, _ => false
def sz : (t : Ty) → t.den → Nat
 | .int _, _ => 1
 | .bool, _ => 1
 | .str, s => s.size + 1
 | .unit, _ => 0
 | .sl t, xs => (xs.map (sz t)).sum + 1
 | .pair a b, p => sz a p.1 + sz b p.2
structure Bulk {H : Type} (B : DataW H → Nat) (BA : List (DataW H) → Nat) : Prop where
 lit : ∀ l, 1 ≤ B (.lit l)
 str : ∀ b, b.length + 1 ≤ B (.lit (.string b))
 nil : 1 ≤ B .nil
 sl : ∀ a b, BA a + 1 ≤ B (.slice a b)
 agg : ∀ a, BA a ≤ B (.agg a)
 cons : ∀ d r, BA (d :: r) = B d + BA r
section
variable {H : Type} {enc : TypeId × Value → H} {P : Program} {w : World} {B : DataW H → Nat} {BA : List (DataW H) → Nat}
theorem zC1 {α β : Type} {f : α → Option β} : ∀ {l : List α} {r : List β}, l.mapM f = some r → r.length = l.length ∧ ∀ (i : Nat) (x : α) (y : β), l[i]? = some x → r[i]? = some y → f x = some y
 | [], r, h => by simp at h; subst h; exact ⟨rfl, fun i x y h => by simp at h⟩
 | a :: l, r, h => by
   rw [List.mapM_cons] at h
   cases hf : f a with
   | none => rw [hf] at h; cases h
   | some b =>
     rw [hf] at h
     cases hl : l.mapM f with
     | none => simp only [hl] at h; cases h
     | some bs =>
       simp only [hl] at h; cases h; obtain ⟨h1, h2⟩ := zC1 hl; refine ⟨by simp [h1], fun i x y hx hy => ?_⟩
       cases i with
       | zero => simp at hx hy; subst hx; subst hy; exact hf
       | succ i => simp at hx hy; exact h2 i x y hx hy
theorem hA4 {a : Addr} {n : Nat} {cs : List Value} (h : w.cells? 0 a n = some cs) : cs.length = n ∧ ∀ j u, cs[j]? = some u → w.cell? (a.add j) = some u := by
 unfold World.cells? at h; rw [if_pos (Nat.zero_le _)] at h; obtain ⟨h1, h2⟩ := zC1 h; refine ⟨by simpa using h1, fun j u hu => ?_⟩; have hj : j < cs.length := (List.getElem?_eq_some_iff.1 hu).1; have hjn : j < n := by simp at h1; omega
 exact h2 j j u (by simp [hjn]) hu
theorem sum_le {B : DataW H → Nat} {BA : List (DataW H) → Nat} (hB : Bulk B BA) {t : Ty} : ∀ (ys : List t.den) (ds : List (DataW H)), ys.length = ds.length → (∀ (i : Nat) (y : t.den) (d : DataW H), ys[i]? = some y → ds[i]? = some d → sz t y ≤ B d) → (ys.map (sz t)).sum ≤ BA ds
 | [], ds, _, _ => by simp
 | y :: ys, [], h, _ => by simp at h
 | y :: ys, d :: ds, h, hs => by
   have h0 := hs 0 y d rfl rfl; have := sum_le hB ys ds (by simpa using h) (fun i y d hy hd => hs (i + 1) y d (by simpa using hy) (by simpa using hd)); simp only [List.map_cons, List.sum_cons, hB.cons]; omega
theorem aB7 {α : Type} {r : α → List Value → Prop} : ∀ (ys : List α) (cs : List (List Value)), ys.length = cs.length → (∀ (i : Nat) (y : α) (c : List Value), ys[i]? = some y → cs[i]? = some c → r y c) → roAll r ys cs.flatten
 | [], [], _, _ => rfl
 | [], _ :: _, h, _ => by simp at h
 | _ :: _, [], h, _ => by simp at h
 | y :: ys, c :: cs, h, hr => ⟨c, cs.flatten, by simp, hr 0 y c rfl rfl, aB7 ys cs (by simpa using h) (fun i z d hz hd => hr (i + 1) z d (by simpa using hz) (by simpa using hd))⟩
theorem pickQ {α : Type} {Q : Nat → α → Prop} : ∀ (n : Nat), (∀ i, i < n → ∃ y, Q i y) → ∃ ys : List α, ys.length = n ∧ ∀ (i : Nat) (y : α), ys[i]? = some y → Q i y
 | 0, _ => ⟨[], rfl, fun i y h => by simp at h⟩
 | n + 1, h => by
   obtain ⟨ys, h1, h2⟩ := pickQ n (fun i hi => h i (by omega)); obtain ⟨y, hy⟩ := h n (by omega); refine ⟨ys ++ [y], by simp [h1], fun i z hz => ?_⟩; by_cases e : i < n
   · rw [List.getElem?_append_left (by omega)] at hz; exact h2 i z hz
   · have hlt := (List.getElem?_eq_some_iff.1 hz).1; have : i = n := by simp at hlt; omega
     subst this; rw [List.getElem?_append_right (by omega), h1] at hz; simp at hz; subst hz; exact hy
theorem qB4 {α : Type} (f : Nat → Option α) : ∀ (n : Nat), (∀ i, i < n → ∃ y, f i = some y) → ∃ ys : List α, ys.length = n ∧ ∀ i, i < n → f i = ys[i]?
 | 0, _ => ⟨[], rfl, fun i hi => by omega⟩
 | n + 1, h => by
   obtain ⟨ys, h1, h2⟩ := qB4 f n (fun i hi => h i (by omega)); obtain ⟨y, hy⟩ := h n (by omega); refine ⟨ys ++ [y], by simp [h1], fun i hi => ?_⟩; by_cases e : i = n
   · subst e; rw [hy, List.getElem?_append_right (by omega), h1]; simp
   · rw [h2 i (by omega), List.getElem?_append_left (by omega)]
theorem yA9 {n : Nat} : ∀ (cs : List (List Value)), (∀ c ∈ cs, c.length = n) → ∀ (j : Nat) (u : Value), cs.flatten[j]? = some u → ∃ i q c, cs[i]? = some c ∧ c[q]? = some u ∧ j = i * n + q
 | [], _, j, u, h => by simp at h
 | c :: cs, hl, j, u, h => by
   rw [List.flatten_cons] at h; by_cases hj : j < c.length
   · rw [List.getElem?_append_left hj] at h; exact ⟨0, j, c, rfl, h, by omega⟩
   · rw [List.getElem?_append_right (by omega)] at h; obtain ⟨i, q, d, h1, h2, h3⟩ := yA9 cs (fun d hd => hl d (by simp [hd])) _ u h; have := hl c (by simp); exact ⟨i + 1, q, d, by simpa using h1, h2, by rw [Nat.add_mul]; omega⟩
theorem yC9 (a : Addr) (i j : Nat) (h : a.spot = none) : (a.add i).add j = a.add (i + j) := by
 obtain ⟨b, o, s⟩ := a; simp only at h; subst h; simp [oA0, Nat.add_assoc]
theorem yB4 (hB : Bulk B BA) : ∀ (fuel d : Nat) (t : TypeId) (u : Ty) (cs : List Value) (x : DataW H × List MemPlace), tyB P d t u = true → DataW.trod enc P w 0 (fun _ => true) true fuel t cs = some x → ∃ y : u.den, ro w (fun _ => False) u y cs ∧ sz u y ≤ B x.1
 | 0, d, t, u, cs, x, _, h => by simp [DataW.trod] at h
 | fuel + 1, 0, t, u, cs, x, ht, h => by cases ht
 | fuel + 1, d + 1, t, u, cs, x, ht, h => by
   simp only [tyB, Bool.and_eq_true, decide_eq_true_eq] at ht; obtain ⟨⟨hn, hpos⟩, ht⟩ := ht
   cases hu : P.underlying t with
   | none => rw [hu] at ht; cases ht
   | some de =>
     rw [hu] at ht; cases de <;> simp only at ht <;> try (cases ht; done)
     case bool =>
      cases u <;> simp only at ht <;> try (cases ht; done)
      obtain ⟨b, rfl, rfl⟩ := DataW.trod_bool hu h; exact ⟨b, rfl, hB.lit _⟩
     case string =>
      cases u <;> simp only at ht <;> try (cases ht; done)
      obtain ⟨s, rfl, rfl, hs⟩ := DataW.trod_string hu h; exact ⟨s, ⟨rfl, hs⟩, by have := hB.str s.data.toList; simpa [sz] using this⟩
     case int k =>
      cases u <;> simp only at ht <;> try (cases ht; done)
      simp only [decide_eq_true_eq] at ht; subst ht; obtain ⟨n, rfl, rfl, hs⟩ := DataW.trod_int hu h; refine ⟨n, ⟨rfl, ?_⟩, hB.lit _⟩; simpa [Lit.wf, InR] using hs
     case slice e =>
      cases u <;> simp only at ht <;> try (cases ht; done)
      rename_i v; have hcell : P.cellsOf e = v.n ∧ 0 < v.n := by
       cases d with
       | zero => cases ht
       | succ d => simp only [tyB, Bool.and_eq_true, decide_eq_true_eq] at ht; exact ht.1
      rcases DataW.trod_slice hu h with ⟨rfl, rfl⟩ | ⟨a, len, cap, elems, rest, n, e1, rfl, rfl, _, hlc, hcm, hel, helem, hsp, _⟩
      · exact ⟨[], ⟨none, 0, 0, rfl, rfl, Nat.le_refl _, by simp [maxLen], .inl rfl⟩, by simpa [sz] using hB.nil⟩
      · cases e1; obtain ⟨hrl, hrest⟩ := hsp rfl; have hspot : 0 < cap → a.spot = none := by
         intro hc; have key : ∀ i y, (w.cells? 0 (a.add (i * P.cellsOf e)) (P.cellsOf e)).bind (DataW.trod enc P w 0 (fun _ => true) true fuel e) = some y → i = 0 → a.spot = none := by
          rintro i y hy rfl; rw [Nat.zero_mul] at hy
          cases hcs : w.cells? 0 (a.add 0) (P.cellsOf e) with
          | none => rw [hcs] at hy; cases hy
          | some c0 =>
            obtain ⟨g1, g2⟩ := hA4 hcs; have hp : 0 < c0.length := by omega
            have g3 := g2 0 c0[0] (by simp [hp]); simp only [Addr.add, if_true] at g3; unfold World.cell? at g3; split at g3
            · split at g3
              · cases g3
              · rename_i hs; simpa using hs
            · cases g3
         by_cases hl : 0 < len
         · have := helem 0 hl; rw [List.getElem?_eq_getElem (by omega)] at this; exact key 0 _ this rfl
         · have := hrest 0 (by omega); rw [List.getElem?_eq_getElem (by omega)] at this; exact key _ _ this (by omega)
        have hex : ∀ i, i < len → ∃ c, w.cells? 0 (a.add (i * P.cellsOf e)) (P.cellsOf e) = some c := fun i hi => by
         have := helem i hi; rw [List.getElem?_eq_getElem (by omega)] at this
         cases hc : w.cells? 0 (a.add (i * P.cellsOf e)) (P.cellsOf e) with
         | none => rw [hc] at this; cases this
         | some c => exact ⟨c, rfl⟩
        obtain ⟨css, hcl, hcs⟩ := qB4 _ len hex; have hrow : ∀ (i : Nat) (c : List Value), css[i]? = some c → ∃ y : v.den, ro w (fun _ => False) v y c ∧ ∃ q, elems[i]? = some q ∧ sz v y ≤ B q.1 := by
         intro i c hc; have hi : i < len := by have := (List.getElem?_eq_some_iff.1 hc).1; omega
         have h1 := helem i hi; rw [hcs i hi, hc] at h1; simp only [Option.bind_some] at h1; rw [List.getElem?_eq_getElem (by omega)] at h1; obtain ⟨y, g1, g2⟩ := yB4 hB fuel d e v c _ ht h1; exact ⟨y, g1, _, List.getElem?_eq_getElem (by omega), g2⟩
        obtain ⟨ys, hyl, hyat⟩ := pickQ (Q := fun i (y : v.den) => ∀ c, css[i]? = some c → ro w (fun _ => False) v y c ∧ ∃ q, elems[i]? = some q ∧ sz v y ≤ B q.1) len (fun i hi => by
         obtain ⟨y, g⟩ := hrow i css[i] (List.getElem?_eq_getElem (by omega)); exact ⟨y, fun c hc => by
          have : css[i] = c := by rw [List.getElem?_eq_getElem (by omega)] at hc; exact Option.some.inj hc
          rw [← this]; exact g⟩)
        have hro : roAll (ro w (fun _ => False) v) ys css.flatten := aB7 ys css (by omega) (fun i y c hy hc => (hyat i y hy c hc).1); refine ⟨ys, ⟨some a, len, cap, rfl, hyl.symm, hlc, hcm, ?_⟩, ?_⟩
        · by_cases hc0 : cap = 0
          · exact .inl hc0
          · have hs := hspot (by omega); refine .inr ⟨a.block, a.off, css.flatten, by obtain ⟨b, o, s⟩ := a; simp only at hs; subst hs; rfl, hro, fun j q hq => ⟨fun h => h, ?_⟩⟩; obtain ⟨i, r, c, g1, g2, g3⟩ := yA9 (n := v.n) css (fun c hc => by
             obtain ⟨i, hi, rfl⟩ := List.mem_iff_getElem.1 hc; have := hcs i (by omega); rw [List.getElem?_eq_getElem hi] at this; rw [(hA4 this).1]; exact hcell.1) j q hq
            have hi : i < len := by have := (List.getElem?_eq_some_iff.1 g1).1; omega
            have := hcs i hi; rw [g1] at this; have := (hA4 this).2 r q g2; rw [yC9 _ _ _ hs] at this; obtain ⟨b, o, s⟩ := a; simp only at hs; subst hs; rw [oA0] at this; rw [g3, ← hcell.1]; exact this
        · have := sum_le hB ys (elems.map (·.1)) (by simp; omega) (fun i y q hy hq => by
           have hi : i < len := by have := (List.getElem?_eq_some_iff.1 hy).1; omega
           obtain ⟨_, z, g1, g2⟩ := hyat i y hy css[i] (List.getElem?_eq_getElem (by omega)); rw [List.getElem?_map, g1] at hq; simp at hq; subst hq; exact g2)
          have h2 := hB.sl (elems.map (·.1)) (rest.map (·.1)); simp only [sz]; omega
     case struct fs =>
      obtain ⟨xs, n, e1, rfl, hcl, hxl, hf⟩ := DataW.trod_struct hu h; cases e1; have key : ∀ (fl : List Field) (off : Nat) (u : Ty) (i : Nat), tyB.tyFs (tyB P d) fl off u = true → (∀ (j : Nat) (f : Field), fl[j]? = some f → fs[i + j]? = some f) → i + fl.length = fs.size → off + u.n ≤ cs.length →
       ∃ y : u.den, ro w (fun _ => False) u y ((cs.drop off).take u.n) ∧ sz u y ≤ BA ((xs.drop i).map (·.1)) := by
       intro fl
       induction fl with
       | nil => intro off u i h _ _ _; cases h
       | cons f fl ih =>
         intro off u i hfl hat hlen hoff; have h0 := hat 0 f rfl; have hf0 := hf i f (by simpa using h0); have hi : i < xs.length := by simp at hlen; omega
         have hdrop : xs.drop i = xs[i] :: xs.drop (i + 1) := List.drop_eq_getElem_cons hi; have hlast : ∀ u, f.offset = off → tyB P d f.type u = true → ∃ y : u.den, ro w (fun _ => False) u y ((cs.drop off).take u.n) ∧ sz u y ≤ B xs[i].1 := by
          intro u e1 e2; rw [List.getElem?_eq_getElem hi, e1] at hf0; have hc : P.cellsOf f.type = u.n := by
           cases d with
           | zero => cases e2
           | succ d => simp only [tyB, Bool.and_eq_true, decide_eq_true_eq] at e2; exact e2.1.1
          rw [hc] at hf0; exact yB4 hB fuel d f.type u _ _ e2 hf0
         match fl, hfl with
         | [], hfl =>
           simp only [tyB.tyFs, Bool.and_eq_true, decide_eq_true_eq] at hfl; obtain ⟨y, g1, g2⟩ := hlast u hfl.1 hfl.2; refine ⟨y, g1, ?_⟩
           rw [hdrop, List.map_cons, hB.cons]; omega
         | f2 :: fl, hfl =>
           cases u <;> simp only [tyB.tyFs] at hfl <;> try (cases hfl; done)
           rename_i a b _; simp only [Bool.and_eq_true, decide_eq_true_eq] at hfl; obtain ⟨y, g1, g2⟩ := hlast a hfl.1.1 hfl.1.2; simp only [Ty.n] at hoff; obtain ⟨z, k1, k2⟩ := ih (off + a.n) b (i + 1) hfl.2 (fun j g hg => by have := hat (j + 1) g (by simpa using hg); rwa [show i + (j + 1) = i + 1 + j by omega] at this) (by simp at hlen ⊢; omega) (by omega); refine ⟨(y, z), ⟨_, _, ?_, g1, k1⟩, ?_⟩
           · simp only [Ty.n]; rw [← List.drop_drop, ← List.take_add]
           · rw [hdrop, List.map_cons, hB.cons]; simp only [sz]; omega
      obtain ⟨y, g1, g2⟩ := key fs.toList 0 u 0 ht (fun j f hj => by simpa using hj) (by simp) (by omega); refine ⟨y, ?_, ?_⟩
      · rw [List.drop_zero, List.take_of_length_le (by omega)] at g1; exact g1
      · rw [List.drop_zero] at g2; exact Nat.le_trans g2 (hB.agg _)
end
end Go.Ev
