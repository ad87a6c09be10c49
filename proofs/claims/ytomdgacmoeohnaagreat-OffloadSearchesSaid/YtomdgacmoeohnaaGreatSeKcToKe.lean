/- A part. -/
import Derived.Test.YtomdgacmoeohnaaGreatSeKaToOrd
set_option maxRecDepth 100000
set_option maxHeartbeats 4000000
namespace Go.Proofs.YtomdgacmoeohnaaGreat
open Go.Ev
abbrev Plt := Int × Int × Int
abbrev Pce := Plt × Int × Int
abbrev Opn := Int × Int × Int × Int × Int × Pce
def Opn.plate (o : Opn) : Plt := o.2.2.2.2.2.1
def Opn.seq (o : Opn) : Int := o.2.2.1
def Opn.kind (o : Opn) : Int := o.2.2.2.1
def Opn.box (o : Opn) : Int := o.2.2.2.2.1
def con80 : Con := { ps := [.d false (.int .i64)], rs := [.d false .bool], pre := fun _ => True, out := fun x => (false, ()), nw := id }
theorem c80 : CtrOk Tryz.prog 80 con80.ctr :=
 con_sound (G := ⟨[], [], [], [], []⟩) tab_ok EnvOk.nil rfl Tryz.func80 rfl con80 5 (by kernel_rfl) (by decide) (by decide) rfl (by decide) rfl (by
  rintro ⟨(p : Int), _⟩ hpre hwf X hT hG hk hK
  (simp -implicitDefEqProofs only [go_sem, con80, hT, hG, hk, hK, Tryz.results80] at hwf ⊢))
def con43 : Con := { ps := [.d false (.int .i64), .d false (.int .i64)], rs := [.d false (.int .i64)], pre := fun _ => True, out := fun x => (cmpV x.1 x.2.1, ()), nw := id }
theorem c43 : CtrOk Tryz.prog 43 con43.ctr :=
 con_sound (G := ⟨[(80, con80.ctr)], [], [], [], []⟩) tab_ok (EnvOk.cons c80 has80 EnvOk.nil) rfl Tryz.func43 rfl con43 604275 (by kernel_rfl) (by decide) (by decide) rfl (by decide) rfl (by
  rintro ⟨(a : Int), (b : Int), _⟩ hpre hwf X hT hG hk hK
  (simp -implicitDefEqProofs only [go_sem, con43, con80, hT, hG, hk, hK, Tryz.results43] at hwf ⊢)
  unfold cmpV
  refine ⟨fun h => h.elim, fun h => h.elim, fun h => by rw [if_pos h], fun h => ⟨fun k => by rw [if_neg h, if_pos k], fun k => by rw [if_neg h, if_neg k]⟩⟩)
def con74 : Con := { ps := [.d false (.sl (.int .i64))], rs := [.d false (.int .i64)], pre := fun _ => True, out := fun x => (orV x.1, ()), nw := id }
theorem c74 : CtrOk Tryz.prog 74 con74.ctr :=
 con_sound (G := ⟨[], [], [], [], []⟩) tab_ok EnvOk.nil rfl Tryz.func74 rfl con74 17389 (by kernel_rfl) (by decide) (by decide) rfl (by decide) rfl (by
  rintro ⟨(l : List Int), _⟩ hpre hwf X hT hG hk hK
  (simp -implicitDefEqProofs only [go_sem, bP, con74, hT, hG, hk, hK, Tryz.results74] at hwf ⊢)
  intro hl
  refine evk_loop ⟨{ i : Nat // i ≤ l.length ∧ orV l = orV (l.drop i) }, 1000, fun i => [(3, .one (.int .i64 0)), (6, .one (.sl (.int .i64) l false)), (7, .one (.int .i64 l.length)), (8, .one (.int .i64 i.1))], fun _ => [], fun i => l.length - i.1⟩ ⟨0, by simp, by simp⟩ ?_ ?_
  · simp only [go_sem]
    rfl
  · rintro ⟨i, (hi : i ≤ l.length), (he : orV l = orV (l.drop i))⟩
    (simp -implicitDefEqProofs only [go_sem, bP, con74, hT, hG, hk, hK, Tryz.results74])
    refine ⟨fun hlt => ?_, fun hge => ?_⟩
    · have hi' : i < l.length := by omega
      have ek : l.getD (i : Int).toNat 0 = l[i] := by simp [hi']
      rw [ek]
      have hst : orV l = if l[i] = 0 then orV (l.drop (i + 1)) else l[i] := by
       rw [he, List.drop_eq_getElem_cons hi', orV]
      (repeat' with_reducible first | refine And.intro ?_ ?_ | intro _) <;> try first | with_reducible (first | assumption | omega | contradiction) | decide
      all_goals rename_i h
      · first
         | rw [hst, if_neg h]
         | (refine fin_lp ⟨i + 1, by omega, ?_⟩ ?_ ?_
            · rw [hst, if_pos h]
            · simp only [go_sem]
              rfl
            · show l.length - (i + 1) < l.length - i
              omega)
    · rw [he, List.drop_of_length_le (by omega)]
      rfl)
def pltC (a b : Plt) : Int := lexC cmpV (lexC cmpV cmpV) a b
theorem pltC_cmp : Cmp pltC := cmpV_cmp.lex (cmpV_cmp.lex cmpV_cmp)
def con36 : Con := { ps := [.d true yPL, .d true yPL], rs := [.d false (.int .i64)], pre := fun _ => True, out := fun (x : Plt × Plt × Unit) => (pltC x.1 x.2.1, ()), nw := id }
theorem c36 : CtrOk Tryz.prog 36 con36.ctr :=
 con_sound (G := ⟨[(74, con74.ctr), (43, con43.ctr)], [], [], [], []⟩) tab_ok (EnvOk.cons c74 has74 (EnvOk.cons c43 has43 EnvOk.nil)) rfl Tryz.func36 rfl con36 31 (by kernel_rfl) (by decide) (by decide) rfl (by decide) rfl (by
  rintro ⟨⟨(a1 : Int), (a2 : Int), (a3 : Int)⟩, ⟨(b1 : Int), (b2 : Int), (b3 : Int)⟩, _⟩ hpre hwf X hT hG hk hK
  (simp -implicitDefEqProofs only [go_sem, bP, con36, con74, con43, hT, hG, hk, hK, Tryz.results36] at hwf ⊢); (try simp (disch := decide +kernel) only [drawn, true_and, and_true])
  (repeat' with_reducible first | refine And.intro ?_ ?_ | intro _) <;> try first | with_reducible (first | assumption | omega | contradiction) | decide
  unfold pltC lexC
  simp only [orV]
  (repeat' split) <;> first | rfl | omega)
def con91 : Con := { ps := [.d false (.int .i64), .d false (.int .i64)], rs := [.d false (.int .i64)], pre := fun _ => True, out := fun x => (cmpV x.1 x.2.1, ()), nw := id }
theorem c91 : CtrOk Tryz.prog 91 con91.ctr :=
 con_sound (G := ⟨[], [], [], [], []⟩) tab_ok EnvOk.nil rfl Tryz.func91 rfl con91 1171 (by kernel_rfl) (by decide) (by decide) rfl (by decide) rfl (by
  rintro ⟨(a : Int), (b : Int), _⟩ hpre hwf X hT hG hk hK
  (simp -implicitDefEqProofs only [go_sem, bP, con91, hT, hG, hk, hK, Tryz.results91] at hwf ⊢)
  unfold cmpV
  refine ⟨fun h => by rw [if_pos h], fun h => ⟨fun k => by rw [if_neg h, if_pos k], fun k => by rw [if_neg h, if_neg k]⟩⟩)
def con66 : Con := { ps := [.d true yPL, .d true yPL], rs := [.d false (.int .i64)], pre := fun _ => True, out := fun (x : Plt × Plt × Unit) => (pltC x.1 x.2.1, ()), nw := id }
theorem c66 : CtrOk Tryz.prog 66 con66.ctr :=
 con_sound (G := ⟨[(91, con91.ctr)], [], [], [], []⟩) tab_ok (EnvOk.cons c91 has91 EnvOk.nil) rfl Tryz.func66 rfl con66 2105471 (by kernel_rfl) (by decide) (by decide) rfl (by decide) rfl (by
  rintro ⟨⟨(a1 : Int), (a2 : Int), (a3 : Int)⟩, ⟨(b1 : Int), (b2 : Int), (b3 : Int)⟩, _⟩ hpre hwf X hT hG hk hK
  (simp -implicitDefEqProofs only [go_sem, bP, con66, con91, hT, hG, hk, hK, Tryz.results66] at hwf ⊢)
  (repeat' with_reducible first | refine And.intro ?_ ?_ | intro _) <;> try first | with_reducible (first | assumption | omega | contradiction) | decide
  all_goals (try unfold pltC lexC)
  all_goals (try dsimp only)
  all_goals (repeat' split)
  all_goals first | rfl | omega | contradiction | skip)
def okPl (p : Plt) : Bool := inV p.1 0 9 && inV p.2.1 1 999 && inV p.2.2 0 999999
def okPc (x : Pce) : Bool := okPl x.1 && inV x.2.1 1 999 && inV x.2.2 0 4
def okOp (o : Opn) : Bool := inV o.1 0 1048576 && inV o.2.1 1 6 && inV o.2.2.1 1 1048576 && (decide (o.2.2.2.1 = 1) || decide (o.2.2.2.1 = 2)) && inV o.2.2.2.2.1 1 999 && okPc o.2.2.2.2.2
def con110 : Con := { ps := [.d false (.int .i64), .d false (.int .i64), .d false (.int .i64)], rs := [.d false .bool], pre := fun _ => True, out := fun x => (inV x.1 x.2.1 x.2.2.1, ()), nw := id }
theorem c110 : CtrOk Tryz.prog 110 con110.ctr :=
 con_sound (G := ⟨[], [], [], [], []⟩) tab_ok EnvOk.nil rfl Tryz.func110 rfl con110 71 (by kernel_rfl) (by decide) (by decide) rfl (by decide) rfl (by
  rintro ⟨(n : Int), (a : Int), (b : Int), _⟩ hpre hwf X hT hG hk hK
  (simp -implicitDefEqProofs only [go_sem, bP, con110, hT, hG, hk, hK, Tryz.results110] at hwf ⊢)
  (repeat' with_reducible first | refine And.intro ?_ ?_ | intro _) <;> try first | with_reducible (first | assumption | omega | contradiction) | decide
  rfl)
def con69 : Con := { ps := [.d true yPL], rs := [.d false .bool], pre := fun _ => True, out := fun (x : Plt × Unit) => (okPl x.1, ()), nw := id }
theorem c69 : CtrOk Tryz.prog 69 con69.ctr :=
 con_sound (G := ⟨[], [], [], [], []⟩) tab_ok EnvOk.nil rfl Tryz.func69 rfl con69 7 (by kernel_rfl) (by decide) (by decide) rfl (by decide) rfl (by
  rintro ⟨⟨(a : Int), (b : Int), (c : Int)⟩, _⟩ hpre hwf X hT hG hk hK
  (simp -implicitDefEqProofs only [go_sem, bP, con69, hT, hG, hk, hK, Tryz.results69] at hwf ⊢)
  unfold okPl inV
  rw [Bool.eq_iff_iff]
  simp only [Bool.and_eq_true, decide_eq_true_eq]
  omega)
def con45 : Con := { ps := [.d true yPL], rs := [.d false .bool], pre := fun _ => True, out := fun (x : Plt × Unit) => (okPl x.1, ()), nw := id }
theorem c45 : CtrOk Tryz.prog 45 con45.ctr :=
 con_sound (G := ⟨[], [], [], [], []⟩) tab_ok EnvOk.nil rfl Tryz.func45 rfl con45 7 (by kernel_rfl) (by decide) (by decide) rfl (by decide) rfl (by
  rintro ⟨⟨(a : Int), (b : Int), (c : Int)⟩, _⟩ hpre hwf X hT hG hk hK
  (simp -implicitDefEqProofs only [go_sem, bP, con45, hT, hG, hk, hK, Tryz.results45] at hwf ⊢)
  unfold okPl inV
  rw [Bool.eq_iff_iff]
  simp only [Bool.and_eq_true, decide_eq_true_eq]
  omega)
def con93 : Con := { ps := [.d true yPC], rs := [.d false .bool], pre := fun _ => True, out := fun (x : Pce × Unit) => (okPc x.1, ()), nw := id }
theorem c93 : CtrOk Tryz.prog 93 con93.ctr :=
 con_sound (G := ⟨[(110, con110.ctr), (69, con69.ctr)], [], [], [], []⟩) tab_ok (EnvOk.cons c110 has110 (EnvOk.cons c69 has69 EnvOk.nil)) rfl Tryz.func93 rfl con93 7 (by kernel_rfl) (by decide) (by decide) rfl (by decide) rfl (by
  rintro ⟨⟨⟨(a : Int), (b : Int), (c : Int)⟩, (d : Int), (e : Int)⟩, _⟩ hpre hwf X hT hG hk hK
  (simp -implicitDefEqProofs only [go_sem, bP, con93, con110, con69, hT, hG, hk, hK, Tryz.results93] at hwf ⊢)
  unfold okPc
  generalize okPl (a, b, c) = q1
  generalize inV d 1 999 = q2
  generalize inV e 0 4 = q3
  cases q1 <;> cases q2 <;> cases q3 <;> simp)
def con90 : Con := { ps := [.d true yPC], rs := [.d false .bool], pre := fun _ => True, out := fun (x : Pce × Unit) => (okPc x.1, ()), nw := id }
theorem c90 : CtrOk Tryz.prog 90 con90.ctr :=
 con_sound (G := ⟨[(45, con45.ctr)], [], [], [], []⟩) tab_ok (EnvOk.cons c45 has45 EnvOk.nil) rfl Tryz.func90 rfl con90 7 (by kernel_rfl) (by decide) (by decide) rfl (by decide) rfl (by
  rintro ⟨⟨⟨(a : Int), (b : Int), (c : Int)⟩, (d : Int), (e : Int)⟩, _⟩ hpre hwf X hT hG hk hK
  (simp -implicitDefEqProofs only [go_sem, bP, con90, con45, hT, hG, hk, hK, Tryz.results90] at hwf ⊢)
  unfold okPc inV
  generalize okPl (a, b, c) = q1
  rw [Bool.eq_iff_iff]
  cases q1 <;> simp only [Bool.and_eq_true, decide_eq_true_eq, Bool.false_eq_true, false_and, true_and] <;> (try omega))
def platesV (i : Int) : Plt := ((goMod i 1000).tdiv 500, 117 + ((goMod i 1000).tdiv 100).tmod 5, 1000 + (goMod i 1000).tmod 100)
def con27 : Con := { ps := [.d false (.int .i64)], rs := [.d true yPL], pre := fun _ => True, out := fun x => (platesV x.1, ()), nw := id }
theorem c27 : CtrOk Tryz.prog 27 con27.ctr :=
 con_sound (G := ⟨[(62, con62.ctr)], [], [], [], []⟩) tab_ok (EnvOk.cons c62 has62 EnvOk.nil) rfl Tryz.func27 rfl con27 5 (by kernel_rfl) (by decide) (by decide) rfl (by decide) rfl (by
  rintro ⟨(i : Int), _⟩ hpre hwf X hT hG hk hK
  (simp -implicitDefEqProofs only [go_sem, bP, con27, con62, hT, hG, hk, hK, Tryz.results27] at hwf ⊢)
  have hb := goMod_bd i 1000 (by omega)
  have := tmod_bd ((goMod i 1000).tdiv 100) 5 (by omega)
  have := tmod_bd (goMod i 1000) 100 (by omega)
  have : 0 ≤ (goMod i 1000).tdiv 500 := Int.tdiv_nonneg hb.1 (by omega)
  have : (goMod i 1000).tdiv 500 ≤ goMod i 1000 := Int.tdiv_le_self 500 hb.1
  have : 0 ≤ (goMod i 1000).tdiv 100 := Int.tdiv_nonneg hb.1 (by omega)
  have : (goMod i 1000).tdiv 100 ≤ goMod i 1000 := Int.tdiv_le_self 100 hb.1
  (repeat' with_reducible first | refine And.intro ?_ ?_ | intro _) <;> try first | with_reducible (first | assumption | omega | contradiction) | decide
  all_goals rfl)
theorem step_pos {s : Src} (h : 0 ≤ s.2) : 0 ≤ (Src.step s).2 := Src.step_pos s h
def con12 : Con := { ps := [.p 67 ySR, .d false (.int .i64)], rs := [.d true yPL], pre := fun x => 0 ≤ x.1.2, out := fun x => (platesV (goMod (Src.raw x.1) x.2.1), ()), nw := fun x => (Src.step x.1, x.2) }
theorem c12 : CtrOk Tryz.prog 12 con12.ctr :=
 con_sound (G := ⟨[(24, con24.ctr), (27, con27.ctr)], [], [], [], []⟩) tab_ok (EnvOk.cons c24 has24 (EnvOk.cons c27 has27 EnvOk.nil)) rfl Tryz.func12 rfl con12 19 (by kernel_rfl) (by decide) (by decide) rfl (by decide) rfl (by
  rintro ⟨⟨(s : List Int), (a : Int)⟩, (n : Int), _⟩ hpre hwf X hT hG hk hK
  (simp -implicitDefEqProofs only [go_sem, bP, con12, con24, con27, hT, hG, hk, hK, Tryz.results12] at hwf ⊢)
  exact hpre)
def con26 : Con := { ps := [.p 67 ySR, .d false (.sl (.int .i64))], rs := [.d false (.int .i64)], pre := fun (x : Src × List Int × Unit) => 0 ≤ x.1.2 ∧ 0 < x.2.1.length, out := fun (x : Src × List Int × Unit) => (x.2.1.getD (goMod (Src.raw x.1) x.2.1.length).toNat 0, ()), nw := fun x => (Src.step x.1, x.2) }
theorem c26 : CtrOk Tryz.prog 26 con26.ctr :=
 con_sound (G := ⟨[(24, con24.ctr)], [], [], [], []⟩) tab_ok (EnvOk.cons c24 has24 EnvOk.nil) rfl Tryz.func26 rfl con26 19 (by kernel_rfl) (by decide) (by decide) rfl (by decide) rfl (by
  rintro ⟨⟨(s : List Int), (a : Int)⟩, (l : List Int), _⟩ hpre hwf X hT hG hk hK
  (simp -implicitDefEqProofs only [go_sem, bP, con26, con24, hT, hG, hk, hK, Tryz.results26] at hwf ⊢)
  obtain ⟨h1, h2⟩ : 0 ≤ a ∧ 0 < l.length := hpre
  have hb := goMod_bd (Src.raw (s, a)) l.length (by omega)
  (repeat' with_reducible first | refine And.intro ?_ ?_ | intro _) <;> try first | with_reducible (first | assumption | omega | contradiction) | decide)
theorem platesV_ok (i : Int) : okPl (platesV i) = true := by
 have hb := goMod_bd i 1000 (by omega)
 have h1 : 0 ≤ (goMod i 1000).tdiv 100 := Int.tdiv_nonneg hb.1 (by omega)
 have h2 : 0 ≤ ((goMod i 1000).tdiv 100).tmod 5 := Int.tmod_nonneg 5 h1
 have h3 := tmod_bd ((goMod i 1000).tdiv 100) 5 (by omega)
 have h4 : 0 ≤ (goMod i 1000).tmod 100 := Int.tmod_nonneg 100 hb.1
 have h5 := tmod_bd (goMod i 1000) 100 (by omega)
 have h6 : 0 ≤ (goMod i 1000).tdiv 500 := Int.tdiv_nonneg hb.1 (by omega)
 have h7 : (goMod i 1000).tdiv 500 ≤ 9 := by
  rw [Int.tdiv_eq_ediv_of_nonneg hb.1]; omega
 unfold okPl platesV inV
 simp only [Bool.and_eq_true, decide_eq_true_eq]
 omega
def pieceV (s : Src) (n : Int) : Pce := (platesV (goMod (Src.raw s) n), 1 + goMod (Src.raw (Src.step s)) 40, [0, 0, 0, 1, 1, 2, 3, 4].getD (goMod (Src.raw (Src.step (Src.step s))) 8).toNat 0)
theorem pieceV_ok (s : Src) (n : Int) : okPc (pieceV s n) = true := by
 have hA := goMod_bd (Src.raw (Src.step s)) 40 (by omega)
 have hB := goMod_bd (Src.raw (Src.step (Src.step s))) 8 (by omega)
 have hw : ∀ k : Int, 0 ≤ k ∧ k < 8 → 0 ≤ [0, 0, 0, 1, 1, 2, 3, 4].getD k.toNat (0 : Int) ∧ [0, 0, 0, 1, 1, 2, 3, 4].getD k.toNat (0 : Int) ≤ 4 := fun k hk => by
  rcases (by omega : k = 0 ∨ k = 1 ∨ k = 2 ∨ k = 3 ∨ k = 4 ∨ k = 5 ∨ k = 6 ∨ k = 7) with rfl | rfl | rfl | rfl | rfl | rfl | rfl | rfl <;> decide
 have hw := hw _ hB
 unfold okPc inV pieceV
 simp only [platesV_ok, Bool.and_eq_true, decide_eq_true_eq, true_and]
 exact ⟨⟨by omega, by omega⟩, hw.1, hw.2⟩
def con31 : Con := { ps := [.p 67 ySR, .d false (.int .i64)], rs := [.d true yPC], pre := fun (x : Src × Int × Unit) => 0 ≤ x.1.2, out := fun (x : Src × Int × Unit) => (pieceV x.1 x.2.1, ()), nw := fun (x : Src × Int × Unit) => (Src.step (Src.step (Src.step x.1)), x.2) }
theorem c31 : CtrOk Tryz.prog 31 con31.ctr :=
 con_sound (G := ⟨[(24, con24.ctr), (26, con26.ctr), (12, con12.ctr)], [], [], [], []⟩) tab_ok (EnvOk.cons c24 has24 (EnvOk.cons c26 has26 (EnvOk.cons c12 has12 EnvOk.nil))) rfl Tryz.func31 rfl con31 19 (by kernel_rfl) (by decide) (by decide) rfl (by decide) rfl (by
  rintro ⟨⟨(s : List Int), (a : Int)⟩, (n : Int), _⟩ hpre hwf X hT hG hk hK
  (simp -implicitDefEqProofs only [go_sem, bP, con31, con24, con26, con12, hT, hG, hk, hK, Tryz.results31] at hwf ⊢)
  have h1 : 0 ≤ a := hpre
  have hs1 : 0 ≤ (Src.step (s, a)).snd := step_pos h1
  have hs2 : 0 ≤ (Src.step (s, a)).step.snd := step_pos hs1
  have hs3 : 0 ≤ (Src.step (s, a)).step.step.snd := step_pos hs2
  have hA := goMod_bd (Src.step (s, a)).raw 40 (by omega)
  (repeat' with_reducible first | refine And.intro ?_ ?_ | intro _) <;> try first | with_reducible (first | assumption | omega | contradiction) | decide
  all_goals try rfl)
def strs3 : List ByteArray := [⟨#[66, 65]⟩, ⟨#[76, 72]⟩, ⟨#[83, 75]⟩]
def fltsV (n : Int) : Flt := (strs3.getD (goMod n 27 / 9).toNat ByteArray.empty, 1 + goMod n 27 / 3 % 3, ByteArray.empty, 1 + goMod n 27 % 3)
def con25 : Con := { ps := [.d false (.int .i64)], rs := [.d true yFL], pre := fun _ => True, out := fun x => (fltsV x.1, ()), nw := id }
theorem c25 : CtrOk Tryz.prog 25 con25.ctr :=
 con_sound (G := ⟨[(62, con62.ctr)], [], [], [], []⟩) tab_ok (EnvOk.cons c62 has62 EnvOk.nil) rfl Tryz.func25 rfl con25 5 (by kernel_rfl) (by decide) (by decide) rfl (by decide) rfl (by
  rintro ⟨(n : Int), _⟩ hpre hwf X hT hG hk hK
  (simp -implicitDefEqProofs only [go_sem, bP, con25, con62, hT, hG, hk, hK, Tryz.results25] at hwf ⊢)
  have hb := goMod_bd n 27 (by omega)
  have e : fltsV n = (strs3.getD (goMod n 27 / 9).toNat ByteArray.empty, 1 + goMod n 27 / 3 % 3, ByteArray.empty, 1 + goMod n 27 % 3) := rfl
  rw [e]
  generalize goMod n 27 = k at hb ⊢
  have e1 : k.tdiv 9 = k / 9 := Int.tdiv_eq_ediv_of_nonneg hb.1
  have e2 : k.tdiv 3 = k / 3 := Int.tdiv_eq_ediv_of_nonneg hb.1
  have e3 : k.tmod 3 = k % 3 := Int.tmod_eq_emod_of_nonneg hb.1
  have e4 : (k / 3).tmod 3 = k / 3 % 3 := Int.tmod_eq_emod_of_nonneg (by omega)
  simp only [e1, e2, e3, e4]
  (repeat' with_reducible first | refine And.intro ?_ ?_ | intro _) <;> try first | with_reducible (first | assumption | omega | contradiction) | decide
  all_goals rfl)
end Go.Proofs.YtomdgacmoeohnaaGreat

/- A part. -/
set_option maxRecDepth 100000
set_option maxHeartbeats 4000000
namespace Go.Proofs.YtomdgacmoeohnaaGreat
open Go.Ev
def fErr (f : Nat → Int) (n : Nat) : Int := (((List.range n).map f).find? (fun e => decide (e ≠ 0))).getD 0
theorem fErr_err {f : Nat → Int} {n i : Nat} (h : ∀ k, k < i → f k = 0) (hi : i < n) (he : f i ≠ 0) : fErr f n = f i := by
 unfold fErr
 have e0 : List.range n = List.range i ++ (i :: (List.range n).drop (i + 1)) :=
  (List.take_append_drop i (List.range n)).symm.trans (by rw [List.take_range, Nat.min_eq_left (by omega), List.drop_eq_getElem_cons (i := i) (by simpa using hi), List.getElem_range])
 obtain ⟨D, hD⟩ : ∃ D, (List.range n).drop (i + 1) = D := ⟨_, rfl⟩
 rw [hD] at e0
 have e : (List.range n).map f = (List.range i).map f ++ (f i :: D.map f) := by
  rw [e0, List.map_append, List.map_cons]
 rw [e, List.find?_append]
 have e2 : ((List.range i).map f).find? (fun e => decide (e ≠ 0)) = none := by
  rw [List.find?_eq_none]
  intro x hx
  obtain ⟨k, hk, rfl⟩ := List.mem_map.1 hx
  rw [h k (List.mem_range.1 hk)]
  simp
 rw [e2]
 simp [he]
theorem fErr_ok {f : Nat → Int} {n : Nat} (h : ∀ k, k < n → f k = 0) : fErr f n = 0 := by
 unfold fErr
 have e2 : ((List.range n).map f).find? (fun e => decide (e ≠ 0)) = none := by
  rw [List.find?_eq_none]
  intro x hx
  obtain ⟨k, hk, rfl⟩ := List.mem_map.1 hx
  rw [h k (List.mem_range.1 hk)]
  simp
 rw [e2]; rfl
theorem fErr_zero {f : Nat → Int} {n : Nat} (h : fErr f n = 0) : ∀ k, k < n → f k = 0 := by
 intro k
 induction k using Nat.strongRecOn with
 | ind k ih =>
   intro hk
   apply Classical.byContradiction
   intro hne
   rw [fErr_err (fun j hj => ih j hj (by omega)) hk hne] at h
   exact hne h
abbrev Cnt := Int × Flt × Int × Int × Int × Int × Int × List Pce
abbrev Cnt.num (c : Cnt) : Int := c.1
abbrev Cnt.flt (c : Cnt) : Flt := c.2.1
abbrev Cnt.cats (c : Cnt) : Int := c.2.2.1
abbrev Cnt.lim (c : Cnt) : Int := c.2.2.2.1
abbrev Cnt.most (c : Cnt) : Int := c.2.2.2.2.1
abbrev Cnt.pos (c : Cnt) : Int := c.2.2.2.2.2.1
abbrev Cnt.arm (c : Cnt) : Int := c.2.2.2.2.2.2.1
abbrev Cnt.pcs (c : Cnt) : List Pce := c.2.2.2.2.2.2.2
def pc0 : Pce := ((0, 0, 0), 0, 0)
def ct0 : Cnt := (0, (ByteArray.empty, 0, ByteArray.empty, 0), 0, 0, 0, 0, 0, [])
def propC (c : Cnt) : Bool := inV c.num 1 999 && fltOk c.flt && inV c.cats 0 31 && inV c.lim 0 20000 && inV c.most 0 60 && inV c.pos 0 24 && inV c.arm (-50) 50
def con92 : Con := { ps := [.d true yCT], rs := [.d false .bool], pre := fun _ => True, out := fun (x : Cnt × Unit) => (propC x.1, ()), nw := id }
theorem c92 : CtrOk Tryz.prog 92 con92.ctr :=
 con_sound (G := ⟨[(110, con110.ctr), (111, con111.ctr)], [], [], [], []⟩) tab_ok (EnvOk.cons c110 has110 (EnvOk.cons c111 has111 EnvOk.nil)) rfl Tryz.func92 rfl con92 7 (by kernel_rfl) (by decide) (by decide) rfl (by decide) rfl (by
  rintro ⟨⟨(n : Int), ⟨a1, (a2 : Int), a3, (a4 : Int)⟩, (c : Int), (l : Int), (t : Int), (p : Int), (r : Int), (ps : List Pce)⟩, _⟩ hpre hwf X hT hG hk hK
  (simp -implicitDefEqProofs only [go_sem, bP, con92, con110, con111, hT, hG, hk, hK, Tryz.results92] at hwf ⊢)
  unfold propC
  clear hwf hpre hT hG hk hK
  generalize inV n 1 999 = q1
  generalize fltOk (a1, a2, a3, a4) = q2
  generalize inV c 0 31 = q3
  generalize inV l 0 20000 = q4
  generalize inV t 0 60 = q5
  generalize inV p 0 24 = q6
  generalize inV r (-50) 50 = q7
  cases q1 <;> cases q2 <;> cases q3 <;> cases q4 <;> cases q5 <;> cases q6 <;> cases q7 <;> simp)
def con106 : Con := { ps := [.d true yCT], rs := [.d false .bool], pre := fun _ => True, out := fun (x : Cnt × Unit) => (propC x.1, ()), nw := id }
theorem c106 : CtrOk Tryz.prog 106 con106.ctr :=
 con_sound (G := ⟨[(125, con125.ctr)], [], [], [], []⟩) tab_ok (EnvOk.cons c125 has125 EnvOk.nil) rfl Tryz.func106 rfl con106 7 (by kernel_rfl) (by decide) (by decide) rfl (by decide) rfl (by
  rintro ⟨⟨(n : Int), ⟨a1, (a2 : Int), a3, (a4 : Int)⟩, (c : Int), (l : Int), (t : Int), (p : Int), (r : Int), (ps : List Pce)⟩, _⟩ hpre hwf X hT hG hk hK
  (simp -implicitDefEqProofs only [go_sem, bP, con106, con125, hT, hG, hk, hK, Tryz.results106] at hwf ⊢)
  unfold propC inV
  clear hwf hpre hT hG hk hK
  simp only [Cnt.num, Cnt.flt, Cnt.cats, Cnt.lim, Cnt.most, Cnt.pos, Cnt.arm]
  generalize fltOk (a1, a2, a3, a4) = q2
  rw [Bool.eq_iff_iff]
  cases q2 <;> simp only [Bool.and_eq_true, decide_eq_true_eq, Bool.false_eq_true, and_false, false_and, true_and, and_true] <;> (try omega))
def pcErr (l : List Pce) (i : Nat) : Int :=
 if okPc (l.getD i pc0) = false then 1 else if i = 0 then 0 else if pltC (l.getD (i - 1) pc0).1 (l.getD i pc0).1 = 0 then 5 else if pltC (l.getD (i - 1) pc0).1 (l.getD i pc0).1 = 1 then 9 else 0
def ctErr (c : Cnt) : Int := if propC c = false then 1 else if 60 < c.pcs.length then 2 else fErr (pcErr c.pcs) c.pcs.length
theorem pcErr_1 {l : List Pce} {i : Nat} (h : okPc (l.getD i pc0) = false) : pcErr l i = 1 := by unfold pcErr; rw [if_pos h]
theorem pcErr_f {l : List Pce} {i : Nat} (h : okPc (l.getD i pc0) = true) (h0 : i = 0) : pcErr l i = 0 := by
 unfold pcErr; rw [if_neg (by rw [h]; simp), if_pos h0]
theorem pcErr_5 {l : List Pce} {i : Nat} (h : okPc (l.getD i pc0) = true) (h0 : ¬ i = 0) (hc : pltC (l.getD (i - 1) pc0).1 (l.getD i pc0).1 = 0) : pcErr l i = 5 := by
 unfold pcErr; rw [if_neg (by rw [h]; simp), if_neg h0, if_pos hc]
theorem pcErr_9 {l : List Pce} {i : Nat} (h : okPc (l.getD i pc0) = true) (h0 : ¬ i = 0) (hc : pltC (l.getD (i - 1) pc0).1 (l.getD i pc0).1 = 1) : pcErr l i = 9 := by
 unfold pcErr; rw [if_neg (by rw [h]; simp), if_neg h0, if_neg (by rw [hc]; decide), if_pos hc]
theorem pcErr_0 {l : List Pce} {i : Nat} (h : okPc (l.getD i pc0) = true) (h0 : ¬ i = 0) (hc : ¬ pltC (l.getD (i - 1) pc0).1 (l.getD i pc0).1 = 0) (hd : ¬ pltC (l.getD (i - 1) pc0).1 (l.getD i pc0).1 = 1) : pcErr l i = 0 := by
 unfold pcErr; rw [if_neg (by rw [h]; simp), if_neg h0, if_neg hc, if_neg hd]
theorem ctErr_zero {c : Cnt} (h : ctErr c = 0) : propC c = true ∧ c.pcs.length ≤ 60 ∧ ∀ i, i < c.pcs.length → okPc (c.pcs.getD i pc0) = true ∧ (0 < i → pltC (c.pcs.getD (i - 1) pc0).1 (c.pcs.getD i pc0).1 < 0) := by
 unfold ctErr at h
 split at h
 · omega
 · rename_i h1
   split at h
   · omega
   · rename_i h2
     refine ⟨by simpa using h1, by omega, fun i hi => ?_⟩
     have := fErr_zero h i hi
     unfold pcErr at this
     split at this
     · omega
     · rename_i h3
       refine ⟨by simpa using h3, fun h0 => ?_⟩
       rw [if_neg (by omega)] at this
       split at this
       · omega
       · split at this
         · omega
         · have := pltC_cmp.unit (c.pcs.getD (i - 1) pc0).1 (c.pcs.getD i pc0).1
           omega
def con68 : Con := { ps := [.d true yCT], rs := [.d false (.int .i64)], pre := fun _ => True, out := fun (x : Cnt × Unit) => (ctErr x.1, ()), nw := id }
theorem c68 : CtrOk Tryz.prog 68 con68.ctr :=
 con_sound (G := ⟨[(92, con92.ctr), (93, con93.ctr), (36, con36.ctr)], [], [], [], []⟩) tab_ok (EnvOk.cons c92 has92 (EnvOk.cons c93 has93 (EnvOk.cons c36 has36 EnvOk.nil))) rfl Tryz.func68 rfl con68 188999657631 (by kernel_rfl) (by decide) (by decide) rfl (by decide) rfl (by
  rintro ⟨⟨(n : Int), ⟨a1, (a2 : Int), a3, (a4 : Int)⟩, (c : Int), (lm : Int), (t : Int), (p : Int), (r : Int), (l : List Pce)⟩, _⟩ hpre hwf X hT hG hk hK
  (simp -implicitDefEqProofs only [go_sem, bP, con68, con92, con93, con36, hT, hG, hk, hK, Tryz.results68] at hwf ⊢); (try simp (disch := decide +kernel) only [drawn, true_and, and_true])
  clear hwf
  refine ⟨fun h => ?_, fun h _ => ⟨fun h2 => ?_, fun h2 _ => ?_⟩⟩
  · unfold ctErr; rw [if_pos h]
  · unfold ctErr; rw [if_neg (by rw [h]; simp), if_pos (by show 60 < l.length; omega)]
  · have e0 : ctErr (n, (a1, a2, a3, a4), c, lm, t, p, r, l) = fErr (pcErr l) l.length := by
     unfold ctErr; rw [if_neg (by rw [h]; simp), if_neg (by show ¬ 60 < l.length; omega)]
    refine evk_loop ⟨{ i : Nat // i ≤ l.length ∧ ∀ k, k < i → pcErr l k = 0 }, 1000, fun q => [(1, .one (.loc 70 0)), (2, .one (.int .i64 0)), (13, .one (.sl yPC l false)), (14, .one (.int .i64 l.length)), (15, .one (.int .i64 q.1))], fun q => [(70, .cells 61 [.int .i64 n, .str a1, .int .i64 a2, .str a3, .int .i64 a4, .int .i64 c, .int .i64 lm, .int .i64 t, .int .i64 p, .int .i64 r, .sl yPC l false])], fun q => l.length - q.1⟩ ⟨0, by omega, fun k hk => by omega⟩ ?_ ?_
    · simp only [go_sem]
      try first | rfl | (and_intros <;> first | rfl | omega)
    · rintro ⟨i, (hi : i ≤ l.length), (hz : ∀ k, k < i → pcErr l k = 0)⟩
      have he := fErr_err (f := pcErr l) (n := l.length) (i := i) hz
      (simp -implicitDefEqProofs only [go_sem, bP, con68, con92, con93, con36, hT, hG, hk, hK, Tryz.results68]); (try simp (disch := decide +kernel) only [drawn, true_and, and_true])
      obtain ⟨o, ho⟩ : ∃ o, l.getD i pc0 = o := ⟨_, rfl⟩
      obtain ⟨u, hu⟩ : ∃ u, l.getD (i - 1) pc0 = u := ⟨_, rfl⟩
      have eo : l.getD (i : Int).toNat ((0, 0, 0), 0, 0) = o := ho
      have eu : l.getD ((i : Int) - 1).toNat ((0, 0, 0), 0, 0) = u := by rw [show ((i : Int) - 1).toNat = i - 1 by omega]; exact hu
      rw [eo, eu]
      have nx : pcErr l i = 0 → ∀ k, k < i + 1 → pcErr l k = 0 := fun h k hk => by
       by_cases e : k = i
       · subst e; exact h
       · exact hz k (by omega)
      (repeat' with_reducible first | refine And.intro ?_ ?_ | intro _) <;> try first | with_reducible (first | assumption | omega | contradiction) | decide
      all_goals first
       | (have h1 : okPc o = false := by assumption
          rw [e0, he (by omega) (by rw [pcErr_1 (ho ▸ h1)]; decide), pcErr_1 (ho ▸ h1)]; done)
       | (have h1 : okPc o = true := by assumption
          have h3 : pltC u.1 o.1 = 0 := by assumption
          have e5 := pcErr_5 (ho ▸ h1) (by omega) (by rw [hu, ho]; exact h3)
          rw [e0, he (by omega) (by rw [e5]; decide), e5]; done)
       | (have h1 : okPc o = true := by assumption
          have h3 : pltC u.1 o.1 = 1 := by assumption
          have e5 := pcErr_9 (ho ▸ h1) (by omega) (by rw [hu, ho]; exact h3)
          rw [e0, he (by omega) (by rw [e5]; decide), e5]; done)
       | (have h1 : okPc o = true := by assumption
          have h0 : (i : Int) = 0 := by assumption
          refine fin_lp ⟨i + 1, by omega, nx (pcErr_f (ho ▸ h1) (by omega))⟩ ?_ (by dsimp only; omega)
          simp only [go_sem]
          try first | rfl | (and_intros <;> first | rfl | omega))
       | (have h1 : okPc o = true := by assumption
          have h3 : ¬ pltC u.1 o.1 = 0 := by assumption
          have h4 : ¬ pltC u.1 o.1 = 1 := by assumption
          refine fin_lp ⟨i + 1, by omega, nx (pcErr_0 (ho ▸ h1) (by omega) (by rw [hu, ho]; exact h3) (by rw [hu, ho]; exact h4))⟩ ?_ (by dsimp only; omega)
          simp only [go_sem]
          try first | rfl | (and_intros <;> first | rfl | omega))
       | (rw [e0, fErr_ok (fun k hk => hz k (by omega))]; done)
       | skip)
end Go.Proofs.YtomdgacmoeohnaaGreat

/- A part. -/
set_option maxRecDepth 100000
set_option maxHeartbeats 4000000
namespace Go.Proofs.YtomdgacmoeohnaaGreat
open Go.Ev
def idxV {α : Type} (p : α → Bool) (l : List α) : Int := match l.findIdx? p with | some i => i | none => -1
theorem getD_lt {α : Type} {l : List α} {i : Nat} {d : α} (h : i < l.length) : l.getD i d = l[i] := by simp [h]
theorem idxV_at {α : Type} {p : α → Bool} {l : List α} {d : α} {i : Nat} (hz : ∀ k, k < i → p (l.getD k d) = false) (hi : i < l.length) (h : p (l.getD i d) = true) : idxV p l = i := by
 unfold idxV
 have : l.findIdx? p = some i := by
  rw [List.findIdx?_eq_some_iff_getElem]
  refine ⟨hi, by rw [← getD_lt hi (d := d)]; exact h, fun j hj => ?_⟩
  have := hz j hj
  rw [getD_lt (by omega)] at this
  simp [this]
 rw [this]
theorem idxV_none {α : Type} {p : α → Bool} {l : List α} {d : α} (hz : ∀ k, k < l.length → p (l.getD k d) = false) : idxV p l = -1 := by
 unfold idxV
 have : l.findIdx? p = none := by
  rw [List.findIdx?_eq_none_iff]
  intro x hx
  obtain ⟨k, hk, rfl⟩ := List.getElem_of_mem hx
  rw [← getD_lt hk (d := d)]; exact hz k hk
 rw [this]
theorem idxV_lt {α : Type} (p : α → Bool) (l : List α) : -1 ≤ idxV p l ∧ idxV p l < l.length := by
 unfold idxV
 split
 · rename_i i h
   obtain ⟨h1, _⟩ := List.findIdx?_eq_some_iff_getElem.1 h
   omega
 · omega
theorem idxV_spec {α : Type} {p : α → Bool} {l : List α} {d : α} (h : 0 ≤ idxV p l) : (idxV p l).toNat < l.length ∧ p (l.getD (idxV p l).toNat d) = true ∧ ∀ k, k < (idxV p l).toNat → p (l.getD k d) = false := by
 unfold idxV at h ⊢
 split at h
 · rename_i i hi
   try simp only [hi]
   obtain ⟨h1, h2, h3⟩ := List.findIdx?_eq_some_iff_getElem.1 hi
   refine ⟨by omega, by rw [show ((i : Int)).toNat = i by omega, getD_lt h1]; exact h2, fun k hk => ?_⟩
   have := h3 k (by omega)
   rw [getD_lt (by omega)]
   simpa using this
 · omega
theorem idxV_neg {α : Type} {p : α → Bool} {l : List α} (h : idxV p l < 0) : ∀ x ∈ l, p x = false := by
 unfold idxV at h
 split at h
 · omega
 · rename_i hi
   rw [List.findIdx?_eq_none_iff] at hi
   intro x hx
   simpa using hi x hx
theorem any_at {α : Type} {p : α → Bool} {l : List α} {d : α} {i : Nat} (hi : i < l.length) (h : p (l.getD i d) = true) : l.any p = true := by
 rw [List.any_eq_true]; exact ⟨l[i], List.getElem_mem hi, by rw [← getD_lt hi (d := d)]; exact h⟩
theorem any_none {α : Type} {p : α → Bool} {l : List α} {d : α} (hz : ∀ k, k < l.length → p (l.getD k d) = false) : l.any p = false := by
 rw [List.any_eq_false]
 intro x hx
 obtain ⟨k, hk, rfl⟩ := List.getElem_of_mem hx
 rw [← getD_lt hk (d := d), hz k hk]; simp
theorem lt_succ {P : Nat → Prop} {i : Nat} (hz : ∀ k, k < i → P k) (h : P i) : ∀ k, k < i + 1 → P k := fun k hk => by
 by_cases e : k = i
 · subst e; exact h
 · exact hz k (by omega)
theorem getD_mem {α : Type} {l : List α} {i : Nat} {d : α} (h : i < l.length) : l.getD i d ∈ l := by rw [getD_lt h]; exact List.getElem_mem h
theorem mem_getD {α : Type} {l : List α} {x : α} {d : α} (h : x ∈ l) : ∃ k, k < l.length ∧ l.getD k d = x := by
 obtain ⟨k, hk, e⟩ := List.getElem_of_mem h
 exact ⟨k, hk, by rw [getD_lt hk]; exact e⟩
def con81 : Con := { ps := [.d true yCT], rs := [.d false (.int .i64)], pre := fun _ => True, out := fun (x : Cnt × Unit) => (ctErr x.1, ()), nw := id }
theorem c81 : CtrOk Tryz.prog 81 con81.ctr :=
 con_sound (G := ⟨[(106, con106.ctr), (90, con90.ctr), (66, con66.ctr)], [], [], [], []⟩) tab_ok (EnvOk.cons c106 has106 (EnvOk.cons c90 has90 (EnvOk.cons c66 has66 EnvOk.nil))) rfl Tryz.func81 rfl con81 43980632950943 (by kernel_rfl) (by decide) (by decide) rfl (by decide) rfl (by
  rintro ⟨⟨(n : Int), ⟨a1, (a2 : Int), a3, (a4 : Int)⟩, (c : Int), (lm : Int), (t : Int), (p : Int), (r : Int), (l : List Pce)⟩, _⟩ hpre hwf X hT hG hk hK
  (simp -implicitDefEqProofs only [go_sem, bP, con81, con106, con90, con66, hT, hG, hk, hK, Tryz.results81] at hwf ⊢); (try simp (disch := decide +kernel) only [drawn, true_and, and_true])
  clear hwf
  refine ⟨fun h => ?_, fun h _ => ⟨fun h2 => ?_, fun h2 => ?_⟩⟩
  · unfold ctErr; rw [if_pos h]
  · unfold ctErr; rw [if_neg (by rw [h]; simp), if_pos (by show 60 < l.length; omega)]
  · have e0 : ctErr (n, (a1, a2, a3, a4), c, lm, t, p, r, l) = fErr (pcErr l) l.length := by
     unfold ctErr; rw [if_neg (by rw [h]; simp), if_neg (by show ¬ 60 < l.length; omega)]
    refine evk_loop ⟨{ i : Nat // i ≤ l.length ∧ ∀ k, k < i → pcErr l k = 0 }, 1000, fun q => [(1, .one (.loc 70 0)), (2, .one (.int .i64 0)), (3, .one (.int .i64 q.1))], fun q => [(70, .cells 61 [.int .i64 n, .str a1, .int .i64 a2, .str a3, .int .i64 a4, .int .i64 c, .int .i64 lm, .int .i64 t, .int .i64 p, .int .i64 r, .sl yPC l false])], fun q => l.length - q.1⟩ ⟨0, by omega, fun k hk => by omega⟩ ?_ ?_
    · simp only [go_sem]
      try first | rfl | (and_intros <;> first | trivial | rfl | omega)
    · rintro ⟨i, (hi : i ≤ l.length), (hz : ∀ k, k < i → pcErr l k = 0)⟩
      have he := fErr_err (f := pcErr l) (n := l.length) (i := i) hz
      (simp -implicitDefEqProofs only [go_sem, bP, con81, con106, con90, con66, hT, hG, hk, hK, Tryz.results81]); (try simp (disch := decide +kernel) only [drawn, true_and, and_true])
      obtain ⟨o, ho⟩ : ∃ o, l.getD i pc0 = o := ⟨_, rfl⟩
      obtain ⟨u, hu⟩ : ∃ u, l.getD (i - 1) pc0 = u := ⟨_, rfl⟩
      have eo : l.getD (i : Int).toNat ((0, 0, 0), 0, 0) = o := ho
      have eu : l.getD ((i : Int) - 1).toNat ((0, 0, 0), 0, 0) = u := by rw [show ((i : Int) - 1).toNat = i - 1 by omega]; exact hu
      rw [eo, eu]
      have hun := pltC_cmp.unit u.1 o.1
      (repeat' with_reducible first | refine And.intro ?_ ?_ | intro _) <;> try first | with_reducible (first | assumption | omega | contradiction) | decide
      all_goals first
       | (have h1 : okPc o = false := by assumption
          rw [e0, he (by omega) (by rw [pcErr_1 (ho ▸ h1)]; decide), pcErr_1 (ho ▸ h1)]; done)
       | (have h1 : okPc o = true := by assumption
          have h3 : pltC u.1 o.1 = 0 := by assumption
          have e5 := pcErr_5 (ho ▸ h1) (by omega) (by rw [hu, ho]; exact h3)
          rw [e0, he (by omega) (by rw [e5]; decide), e5]; done)
       | (have h1 : okPc o = true := by assumption
          have h3 : pltC u.1 o.1 > 0 := by assumption
          have e5 := pcErr_9 (ho ▸ h1) (by omega) (by rw [hu, ho]; omega)
          rw [e0, he (by omega) (by rw [e5]; decide), e5]; done)
       | (have h1 : okPc o = true := by assumption
          have h0 : (i : Int) = 0 := by assumption
          refine fin_lp ⟨i + 1, by omega, lt_succ hz (pcErr_f (ho ▸ h1) (by omega))⟩ (by simp only [go_sem]; first | rfl | ((repeat' apply And.intro) <;> first | rfl | assumption | omega)) (by dsimp only; omega)
          done)
       | (have h1 : okPc o = true := by assumption
          have h3 : ¬ pltC u.1 o.1 = 0 := by assumption
          have h4 : ¬ pltC u.1 o.1 > 0 := by assumption
          refine fin_lp ⟨i + 1, by omega, lt_succ hz (pcErr_0 (ho ▸ h1) (by omega) (by rw [hu, ho]; exact h3) (by rw [hu, ho]; omega))⟩ (by simp only [go_sem]; first | rfl | ((repeat' apply And.intro) <;> first | rfl | assumption | omega)) (by dsimp only; omega)
          done)
       | (rw [e0, fErr_ok (fun k hk => hz k (by omega))]; done)
       | skip)
def holdsV (c : Cnt) (p : Plt) : Bool := c.pcs.any (fun x => decide (x.1 = p))
theorem plt_eq {a b : Plt} : (a.1 = b.1 ∧ a.2.1 = b.2.1 ∧ a.2.2 = b.2.2) ↔ a = b := ⟨fun h => Prod.ext h.1 (Prod.ext h.2.1 h.2.2), fun h => by rw [h]; exact ⟨rfl, rfl, rfl⟩⟩
def con82 : Con := { ps := [.d true yCT, .d true yPL], rs := [.d false .bool], pre := fun _ => True, out := fun (x : Cnt × Plt × Unit) => (holdsV x.1 x.2.1, ()), nw := id }
theorem c82 : CtrOk Tryz.prog 82 con82.ctr :=
 con_sound (G := ⟨[], [], [], [], []⟩) tab_ok EnvOk.nil rfl Tryz.func82 rfl con82 135007 (by kernel_rfl) (by decide) (by decide) rfl (by decide) rfl (by
  rintro ⟨⟨(n : Int), ⟨a1, (a2 : Int), a3, (a4 : Int)⟩, (c : Int), (lm : Int), (t : Int), (p : Int), (r : Int), (l : List Pce)⟩, ⟨(p1 : Int), (p2 : Int), (p3 : Int)⟩, _⟩ hpre hwf X hT hG hk hK
  (simp -implicitDefEqProofs only [go_sem, bP, con82, hT, hG, hk, hK, Tryz.results82] at hwf ⊢)
  clear hwf
  refine fun _ => evk_loop ⟨{ i : Nat // i ≤ l.length ∧ ∀ k, k < i → (fun x : Pce => decide (x.1 = ((p1, p2, p3) : Plt))) (l.getD k pc0) = false }, 1000, fun q => [(3, .one (.loc 71 0)), (4, .one (.bool false)), (8, .one (.sl yPC l false)), (9, .one (.int .i64 l.length)), (10, .one (.int .i64 q.1))], fun q => [(71, .cells 41 [.int .i64 p1, .int .i64 p2, .int .i64 p3])], fun q => l.length - q.1⟩ ⟨0, by omega, fun k hk => by omega⟩ ?_ ?_
  · simp only [go_sem]
    try first | rfl | (and_intros <;> first | trivial | rfl | omega)
  · rintro ⟨i, (hi : i ≤ l.length), hz⟩
    (simp -implicitDefEqProofs only [go_sem, bP, con82, hT, hG, hk, hK, Tryz.results82])
    obtain ⟨o, ho⟩ : ∃ o, l.getD i pc0 = o := ⟨_, rfl⟩
    have eo : l.getD (i : Int).toNat ((0, 0, 0), 0, 0) = o := ho
    rw [eo]
    have hq := plt_eq (a := o.1) (b := (p1, p2, p3))
    simp only at hq
    (repeat' with_reducible first | refine And.intro ?_ ?_ | intro _) <;> try first | with_reducible (first | assumption | omega | contradiction) | decide
    all_goals first
     | (have h : o.1.1 = p1 ∧ o.1.2.1 = p2 ∧ o.1.2.2 = p3 := by first | assumption | (and_intros <;> assumption)
        exact (any_at (l := l) (p := fun x : Pce => decide (x.1 = ((p1, p2, p3) : Plt))) (d := pc0) (i := i) (by omega) (by rw [ho]; simp [hq.1 h])).symm)
     | (have h : ¬ o.1.1 = p1 ∨ ¬ o.1.2.1 = p2 ∨ ¬ o.1.2.2 = p3 := by assumption
        have hn : ¬ o.1 = (p1, p2, p3) := fun e => by rw [e] at h; simp at h
        refine fin_lp ⟨i + 1, by omega, lt_succ hz (by show decide ((l.getD i pc0).1 = ((p1, p2, p3) : Plt)) = false; rw [ho]; exact decide_eq_false hn)⟩ (by simp only [go_sem]; first | rfl | ((repeat' apply And.intro) <;> first | rfl | assumption | omega)) (by dsimp only; omega)
        done)
     | exact (any_none (l := l) (p := fun x : Pce => decide (x.1 = ((p1, p2, p3) : Plt))) (d := pc0) fun k hk => hz k (by omega)).symm
     | skip)
def con56 : Con := { ps := [.d true yCT, .d true yPL], rs := [.d false .bool], pre := fun _ => True, out := fun (x : Cnt × Plt × Unit) => (holdsV x.1 x.2.1, ()), nw := id }
theorem c56 : CtrOk Tryz.prog 56 con56.ctr :=
 con_sound (G := ⟨[], [], [], [], []⟩) tab_ok EnvOk.nil rfl Tryz.func56 rfl con56 1049663 (by kernel_rfl) (by decide) (by decide) rfl (by decide) rfl (by
  rintro ⟨⟨(n : Int), ⟨a1, (a2 : Int), a3, (a4 : Int)⟩, (c : Int), (lm : Int), (t : Int), (p : Int), (r : Int), (l : List Pce)⟩, ⟨(p1 : Int), (p2 : Int), (p3 : Int)⟩, _⟩ hpre hwf X hT hG hk hK
  (simp -implicitDefEqProofs only [go_sem, bP, con56, hT, hG, hk, hK, Tryz.results56] at hwf ⊢); (try simp (disch := decide +kernel) only [drawn, true_and, and_true])
  clear hwf
  refine evk_loop ⟨{ i : Nat // i ≤ l.length ∧ ∀ k, k < i → (fun x : Pce => decide (x.1 = ((p1, p2, p3) : Plt))) (l.getD k pc0) = false }, 1000, fun q => [(2, .one (.loc 70 0)), (3, .one (.loc 71 0)), (4, .one (.bool false)), (5, .one (.int .i64 q.1))], fun q => [(70, .cells 61 [.int .i64 n, .str a1, .int .i64 a2, .str a3, .int .i64 a4, .int .i64 c, .int .i64 lm, .int .i64 t, .int .i64 p, .int .i64 r, .sl yPC l false]), (71, .cells 41 [.int .i64 p1, .int .i64 p2, .int .i64 p3])], fun q => l.length - q.1⟩ ⟨0, by omega, fun k hk => by omega⟩ ?_ ?_
  · simp only [go_sem]
    try first | rfl | (and_intros <;> first | trivial | rfl | omega)
  · rintro ⟨i, (hi : i ≤ l.length), hz⟩
    (simp -implicitDefEqProofs only [go_sem, bP, con56, hT, hG, hk, hK, Tryz.results56]); (try simp (disch := decide +kernel) only [drawn, true_and, and_true])
    obtain ⟨o, ho⟩ : ∃ o, l.getD i pc0 = o := ⟨_, rfl⟩
    have eo : l.getD (i : Int).toNat ((0, 0, 0), 0, 0) = o := ho
    rw [eo]
    have hq := plt_eq (a := o.1) (b := (p1, p2, p3))
    simp only at hq
    (repeat' with_reducible first | refine And.intro ?_ ?_ | intro _) <;> try first | with_reducible (first | assumption | omega | contradiction) | decide
    all_goals first
     | (have h : o.1.1 = p1 ∧ o.1.2.1 = p2 ∧ o.1.2.2 = p3 := by first | assumption | (and_intros <;> assumption)
        exact (any_at (l := l) (p := fun x : Pce => decide (x.1 = ((p1, p2, p3) : Plt))) (d := pc0) (i := i) (by omega) (by rw [ho]; simp [hq.1 h])).symm)
     | (have h : ¬ o.1.1 = p1 ∨ ¬ o.1.2.1 = p2 ∨ ¬ o.1.2.2 = p3 := by assumption
        have hn : ¬ o.1 = (p1, p2, p3) := fun e => by rw [e] at h; simp at h
        refine fin_lp ⟨i + 1, by omega, lt_succ hz (by show decide ((l.getD i pc0).1 = ((p1, p2, p3) : Plt)) = false; rw [ho]; exact decide_eq_false hn)⟩ (by simp only [go_sem]; first | rfl | ((repeat' apply And.intro) <;> first | rfl | assumption | omega)) (by dsimp only; omega)
        done)
     | exact (any_none (l := l) (p := fun x : Pce => decide (x.1 = ((p1, p2, p3) : Plt))) (d := pc0) fun k hk => hz k (by omega)).symm
     | skip)
def findV (l : List Cnt) (p : Plt) : Int × Bool := if 0 ≤ idxV (fun c => holdsV c p) l then ((l.getD (idxV (fun c => holdsV c p) l).toNat ct0).num, true) else (0, false)
theorem findV_at {l : List Cnt} {p : Plt} {i : Nat} (hz : ∀ k, k < i → holdsV (l.getD k ct0) p = false) (hi : i < l.length) (h : holdsV (l.getD i ct0) p = true) : findV l p = ((l.getD i ct0).num, true) := by
 unfold findV
 rw [idxV_at (d := ct0) hz hi h, if_pos (by omega)]
 rfl
theorem findV_none {l : List Cnt} {p : Plt} (hz : ∀ k, k < l.length → holdsV (l.getD k ct0) p = false) : findV l p = (0, false) := by
 unfold findV
 rw [idxV_none (d := ct0) hz, if_neg (by omega)]
def con50 : Con := { ps := [.d false (.sl yCT), .d true yPL], rs := [.d false (.int .i64), .d false .bool], pre := fun _ => True, out := fun (x : List Cnt × Plt × Unit) => ((findV x.1 x.2.1).1, (findV x.1 x.2.1).2, ()), nw := id }
theorem c50 : CtrOk Tryz.prog 50 con50.ctr :=
 con_sound (G := ⟨[(82, con82.ctr)], [], [], [], []⟩) tab_ok (EnvOk.cons c82 has82 EnvOk.nil) rfl Tryz.func50 rfl con50 69563 (by kernel_rfl) (by decide) (by decide) rfl (by decide) rfl (by
  rintro ⟨(l : List Cnt), ⟨(p1 : Int), (p2 : Int), (p3 : Int)⟩, _⟩ hpre hwf X hT hG hk hK
  (simp -implicitDefEqProofs only [go_sem, bP, con50, con82, hT, hG, hk, hK, Tryz.results50] at hwf ⊢)
  clear hwf
  refine fun _ => evk_loop ⟨{ i : Nat // i ≤ l.length ∧ ∀ k, k < i → holdsV (l.getD k ct0) (p1, p2, p3) = false }, 1000, fun q => [(3, .one (.loc 71 0)), (4, .one (.int .i64 0)), (5, .one (.bool false)), (8, .one (.sl yCT l false)), (9, .one (.int .i64 l.length)), (10, .one (.int .i64 q.1))], fun q => [(71, .cells 41 [.int .i64 p1, .int .i64 p2, .int .i64 p3])], fun q => l.length - q.1⟩ ⟨0, by omega, fun k hk => by omega⟩ ?_ ?_
  · simp only [go_sem]
    try first | rfl | (and_intros <;> first | trivial | rfl | omega)
  · rintro ⟨i, (hi : i ≤ l.length), hz⟩
    have hf := findV_at (l := l) (p := (p1, p2, p3)) (i := i) hz
    unfold ct0 at hf
    (simp -implicitDefEqProofs only [go_sem, bP, con50, con82, hT, hG, hk, hK, Tryz.results50])
    have hiN : (i : Int).toNat = i := by omega
    simp only [hiN]
    (repeat' with_reducible first | refine And.intro ?_ ?_ | intro _) <;> try first | with_reducible (first | assumption | omega | contradiction) | decide
    all_goals first
     | (have h : holdsV (l.getD i (0, (ByteArray.empty, 0, ByteArray.empty, 0), 0, 0, 0, 0, 0, [])) (p1, p2, p3) = true := by assumption
        rw [hf (by omega) h]; done)
     | (have h : holdsV (l.getD i (0, (ByteArray.empty, 0, ByteArray.empty, 0), 0, 0, 0, 0, 0, [])) (p1, p2, p3) = false := by assumption
        refine fin_lp ⟨i + 1, by omega, lt_succ hz (by exact h)⟩ (by simp only [go_sem]; first | rfl | ((repeat' apply And.intro) <;> first | rfl | assumption | omega)) (by dsimp only; omega)
        done)
     | (rw [findV_none fun k hk => hz k (by omega)]; done)
     | skip)
def con51 : Con := { ps := [.d false (.sl yCT), .d true yPL], rs := [.d false (.int .i64), .d false .bool], pre := fun _ => True, out := fun (x : List Cnt × Plt × Unit) => ((findV x.1 x.2.1).1, (findV x.1 x.2.1).2, ()), nw := id }
theorem c51 : CtrOk Tryz.prog 51 con51.ctr :=
 con_sound (G := ⟨[(56, con56.ctr)], [], [], [], []⟩) tab_ok (EnvOk.cons c56 has56 EnvOk.nil) rfl Tryz.func51 rfl con51 263291 (by kernel_rfl) (by decide) (by decide) rfl (by decide) rfl (by
  rintro ⟨(l : List Cnt), ⟨(p1 : Int), (p2 : Int), (p3 : Int)⟩, _⟩ hpre hwf X hT hG hk hK
  (simp -implicitDefEqProofs only [go_sem, bP, con51, con56, hT, hG, hk, hK, Tryz.results51] at hwf ⊢); (try simp (disch := decide +kernel) only [drawn, true_and, and_true])
  clear hwf
  refine evk_loop ⟨{ i : Nat // i ≤ l.length ∧ ∀ k, k < i → holdsV (l.getD k ct0) (p1, p2, p3) = false }, 1000, fun q => [(0, .one (.sl yCT l false)), (3, .one (.loc 71 0)), (4, .one (.int .i64 0)), (5, .one (.bool false)), (6, .one (.int .i64 q.1))], fun q => [(71, .cells 41 [.int .i64 p1, .int .i64 p2, .int .i64 p3])], fun q => l.length - q.1⟩ ⟨0, by omega, fun k hk => by omega⟩ ?_ ?_
  · simp only [go_sem]
    try first | rfl | (and_intros <;> first | trivial | rfl | omega)
  · rintro ⟨i, (hi : i ≤ l.length), hz⟩
    have hf := findV_at (l := l) (p := (p1, p2, p3)) (i := i) hz
    unfold ct0 at hf
    (simp -implicitDefEqProofs only [go_sem, bP, con51, con56, hT, hG, hk, hK, Tryz.results51]); (try simp (disch := decide +kernel) only [drawn, true_and, and_true])
    have hiN : (i : Int).toNat = i := by omega
    simp only [hiN]
    (repeat' with_reducible first | refine And.intro ?_ ?_ | intro _) <;> try first | with_reducible (first | assumption | omega | contradiction) | decide
    all_goals first
     | (have h : holdsV (l.getD i (0, (ByteArray.empty, 0, ByteArray.empty, 0), 0, 0, 0, 0, 0, [])) (p1, p2, p3) = true := by assumption
        rw [hf (by omega) h]; done)
     | (have h : holdsV (l.getD i (0, (ByteArray.empty, 0, ByteArray.empty, 0), 0, 0, 0, 0, 0, [])) (p1, p2, p3) = false := by assumption
        refine fin_lp ⟨i + 1, by omega, lt_succ hz (by exact h)⟩ (by simp only [go_sem]; first | rfl | ((repeat' apply And.intro) <;> first | rfl | assumption | omega)) (by dsimp only; omega)
        done)
     | (rw [findV_none fun k hk => hz k (by omega)]; done)
     | skip)
end Go.Proofs.YtomdgacmoeohnaaGreat
