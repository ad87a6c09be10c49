/- Part. -/
import Derived.Test.YtkjpbhkldioggaaGreatClKaToOrd
set_option linter.all false
set_option maxRecDepth 100000
set_option maxHeartbeats 4000000
namespace Go.Proofs.YtkjpbhkldioggaaGreat
open Go.Ev
abbrev Plt := Int × Int × Int
abbrev Pce := Plt × Int × Int
abbrev Opn := Int × Int × Int × Int × Int × Pce
def Opn.plate (o : Opn) : Plt := o.2.2.2.2.2.1
def Opn.seq (o : Opn) : Int := o.2.2.1
def Opn.kind (o : Opn) : Int := o.2.2.2.1
def Opn.box (o : Opn) : Int := o.2.2.2.2.1
def con85 : Con := { ps := [.d false yI], rs := [.d false .bool], pre := fun _ => True, out := fun x => (false, ()), nw := id }
theorem c85 : CtrOk Tryz.prog 85 con85.ctr :=
 con_sound (G := ⟨[], [], [], [], []⟩) tab_ok EnvOk.nil rfl Tryz.func85 rfl con85 5 (by kernel_rfl) (by decide) (by decide) rfl (by decide) rfl (by
  rintro ⟨(p : Int), _⟩ hpre hwf X hT hG hk hK
  (simp -implicitDefEqProofs only [go_sem, con85, hT, hG, hk, hK, Tryz.results85] at hwf ⊢))
def con49 : Con := { ps := [.d false yI, .d false yI], rs := [.d false yI], pre := fun _ => True, out := fun x => (cmpV x.1 x.2.1, ()), nw := id }
theorem c49 : CtrOk Tryz.prog 49 con49.ctr :=
 con_sound (G := ⟨[(85, con85.ctr)], [], [], [], []⟩) tab_ok (EnvOk.cons c85 has85 EnvOk.nil) rfl Tryz.func49 rfl con49 604275 (by kernel_rfl) (by decide) (by decide) rfl (by decide) rfl (by
  rintro ⟨(a : Int), (b : Int), _⟩ hpre hwf X hT hG hk hK
  (simp -implicitDefEqProofs only [go_sem, con49, con85, hT, hG, hk, hK, Tryz.results49] at hwf ⊢)
  unfold cmpV; refine ⟨fun h => h.elim, fun h => h.elim, fun h => by rw [if_pos h], fun h => ⟨fun k => by rw [if_neg h, if_pos k], fun k => by rw [if_neg h, if_neg k]⟩⟩)
def con79 : Con := { ps := [.d false (.sl yI)], rs := [.d false yI], pre := fun _ => True, out := fun x => (orV x.1, ()), nw := id }
theorem c79 : CtrOk Tryz.prog 79 con79.ctr :=
 con_sound (G := ⟨[], [], [], [], []⟩) tab_ok EnvOk.nil rfl Tryz.func79 rfl con79 17389 (by kernel_rfl) (by decide) (by decide) rfl (by decide) rfl (by
  rintro ⟨(l : List Int), _⟩ hpre hwf X hT hG hk hK
  (simp -implicitDefEqProofs only [go_sem, bP, con79, hT, hG, hk, hK, Tryz.results79] at hwf ⊢)
  intro hl; refine evk_loop ⟨{ i : Nat // i ≤ l.length ∧ orV l = orV (l.drop i) }, 1000, fun i => [(3, .one (.int .i64 0)), (6, .one (.sl yI l false)), (7, .one (.int .i64 l.length)), (8, .one (.int .i64 i.1))], fun _ => [], fun i => l.length - i.1⟩ ⟨0, by simp, by simp⟩ ?_ ?_
  · simp only [go_sem]; rfl
  · rintro ⟨i, (hi : i ≤ l.length), (he : orV l = orV (l.drop i))⟩
    (simp -implicitDefEqProofs only [go_sem, bP, con79, hT, hG, hk, hK, Tryz.results79])
    refine ⟨fun hlt => ?_, fun hge => ?_⟩
    · have hi' : i < l.length := by omega
      have ek : l.getD (i : Int).toNat 0 = l[i] := by simp [hi']
      rw [ek]; have hst : orV l = if l[i] = 0 then orV (l.drop (i + 1)) else l[i] := by
       rw [he, List.drop_eq_getElem_cons hi', orV]
      (repeat' with_reducible first | refine And.intro ?_ ?_ | intro _) <;> try first | with_reducible (first | assumption | omega | contradiction) | decide
      all_goals rename_i h
      · first
         | rw [hst, if_neg h]
         | (refine fin_lp ⟨i + 1, by omega, ?_⟩ ?_ ?_
            · rw [hst, if_pos h]
            · simp only [go_sem]; rfl
            · show l.length - (i + 1) < l.length - i; omega)
    · rw [he, List.drop_of_length_le (by omega)]; rfl)
def pltC (a b : Plt) : Int := lexC cmpV (lexC cmpV cmpV) a b
theorem pltC_cmp : Cmp pltC := cmpV_cmp.lex (cmpV_cmp.lex cmpV_cmp)
def con42 : Con := { ps := [.d true yPL, .d true yPL], rs := [.d false yI], pre := fun _ => True, out := fun (x : Plt × Plt × Unit) => (pltC x.1 x.2.1, ()), nw := id }
theorem c42 : CtrOk Tryz.prog 42 con42.ctr :=
 con_sound (G := ⟨[(79, con79.ctr), (49, con49.ctr)], [], [], [], []⟩) tab_ok (EnvOk.cons c79 has79 (EnvOk.cons c49 has49 EnvOk.nil)) rfl Tryz.func42 rfl con42 31 (by kernel_rfl) (by decide) (by decide) rfl (by decide) rfl (by
  rintro ⟨⟨(a1 : Int), (a2 : Int), (a3 : Int)⟩, ⟨(b1 : Int), (b2 : Int), (b3 : Int)⟩, _⟩ hpre hwf X hT hG hk hK
  (simp -implicitDefEqProofs only [go_sem, bP, con42, con79, con49, hT, hG, hk, hK, Tryz.results42] at hwf ⊢); (try simp (disch := decide +kernel) only [drawn, true_and, and_true])
  (repeat' with_reducible first | refine And.intro ?_ ?_ | intro _) <;> try first | with_reducible (first | assumption | omega | contradiction) | decide
  unfold pltC lexC; simp only [orV]
  (repeat' split) <;> first | rfl | omega)
def okPl (p : Plt) : Bool := inV p.1 0 9 && inV p.2.1 1 999 && inV p.2.2 0 999999
def okPc (x : Pce) : Bool := okPl x.1 && inV x.2.1 1 999 && inV x.2.2 0 4
def okOp (o : Opn) : Bool := inV o.1 0 1048576 && inV o.2.1 1 6 && inV o.2.2.1 1 1048576 && (decide (o.2.2.2.1 = 1) || decide (o.2.2.2.1 = 2)) && inV o.2.2.2.2.1 1 999 && okPc o.2.2.2.2.2
def con111 : Con := { ps := [.d false yI, .d false yI, .d false yI], rs := [.d false .bool], pre := fun _ => True, out := fun x => (inV x.1 x.2.1 x.2.2.1, ()), nw := id }
theorem c111 : CtrOk Tryz.prog 111 con111.ctr :=
 con_sound (G := ⟨[], [], [], [], []⟩) tab_ok EnvOk.nil rfl Tryz.func111 rfl con111 71 (by kernel_rfl) (by decide) (by decide) rfl (by decide) rfl (by
  rintro ⟨(n : Int), (a : Int), (b : Int), _⟩ hpre hwf X hT hG hk hK
  (simp -implicitDefEqProofs only [go_sem, bP, con111, hT, hG, hk, hK, Tryz.results111] at hwf ⊢)
  (repeat' with_reducible first | refine And.intro ?_ ?_ | intro _) <;> try first | with_reducible (first | assumption | omega | contradiction) | decide
  rfl)
def con76 : Con := { ps := [.d true yPL], rs := [.d false .bool], pre := fun _ => True, out := fun (x : Plt × Unit) => (okPl x.1, ()), nw := id }
theorem c76 : CtrOk Tryz.prog 76 con76.ctr :=
 con_sound (G := ⟨[], [], [], [], []⟩) tab_ok EnvOk.nil rfl Tryz.func76 rfl con76 7 (by kernel_rfl) (by decide) (by decide) rfl (by decide) rfl (by
  rintro ⟨⟨(a : Int), (b : Int), (c : Int)⟩, _⟩ hpre hwf X hT hG hk hK
  (simp -implicitDefEqProofs only [go_sem, bP, con76, hT, hG, hk, hK, Tryz.results76] at hwf ⊢)
  unfold okPl inV; rw [Bool.eq_iff_iff]; simp only [Bool.and_eq_true, decide_eq_true_eq]; omega)
def con88 : Con := { ps := [.d true yPC], rs := [.d false .bool], pre := fun _ => True, out := fun (x : Pce × Unit) => (okPc x.1, ()), nw := id }
theorem c88 : CtrOk Tryz.prog 88 con88.ctr :=
 con_sound (G := ⟨[(111, con111.ctr), (76, con76.ctr)], [], [], [], []⟩) tab_ok (EnvOk.cons c111 has111 (EnvOk.cons c76 has76 EnvOk.nil)) rfl Tryz.func88 rfl con88 7 (by kernel_rfl) (by decide) (by decide) rfl (by decide) rfl (by
  rintro ⟨⟨⟨(a : Int), (b : Int), (c : Int)⟩, (d : Int), (e : Int)⟩, _⟩ hpre hwf X hT hG hk hK
  (simp -implicitDefEqProofs only [go_sem, bP, con88, con111, con76, hT, hG, hk, hK, Tryz.results88] at hwf ⊢)
  unfold okPc; generalize okPl (a, b, c) = q1; generalize inV d 1 999 = q2; generalize inV e 0 4 = q3; cases q1 <;> cases q2 <;> cases q3 <;> simp)
def platesV (i : Int) : Plt := ((goMod i 1000).tdiv 500, 117 + ((goMod i 1000).tdiv 100).tmod 5, 1000 + (goMod i 1000).tmod 100)
def con21 : Con := { ps := [.d false yI], rs := [.d true yPL], pre := fun _ => True, out := fun x => (platesV x.1, ()), nw := id }
theorem c21 : CtrOk Tryz.prog 21 con21.ctr :=
 con_sound (G := ⟨[(18, con18.ctr)], [], [], [], []⟩) tab_ok (EnvOk.cons c18 has18 EnvOk.nil) rfl Tryz.func21 rfl con21 5 (by kernel_rfl) (by decide) (by decide) rfl (by decide) rfl (by
  rintro ⟨(i : Int), _⟩ hpre hwf X hT hG hk hK
  (simp -implicitDefEqProofs only [go_sem, bP, con21, con18, hT, hG, hk, hK, Tryz.results21] at hwf ⊢)
  have hb := goMod_bd i 1000 (by omega); have := tmod_bd ((goMod i 1000).tdiv 100) 5 (by omega); have := tmod_bd (goMod i 1000) 100 (by omega); have : 0 ≤ (goMod i 1000).tdiv 500 := Int.tdiv_nonneg hb.1 (by omega); have : (goMod i 1000).tdiv 500 ≤ goMod i 1000 := Int.tdiv_le_self 500 hb.1; have : 0 ≤ (goMod i 1000).tdiv 100 := Int.tdiv_nonneg hb.1 (by omega); have : (goMod i 1000).tdiv 100 ≤ goMod i 1000 := Int.tdiv_le_self 100 hb.1
  (repeat' with_reducible first | refine And.intro ?_ ?_ | intro _) <;> try first | with_reducible (first | assumption | omega | contradiction) | decide
  all_goals rfl)
theorem step_pos {s : Src} (h : 0 ≤ s.2) : 0 ≤ (Src.step s).2 := Src.step_pos s h
def con55 : Con := { ps := [.p 65 ySR, .d false yI], rs := [.d true yPL], pre := fun x => 0 ≤ x.1.2, out := fun x => (platesV (goMod (Src.raw x.1) x.2.1), ()), nw := fun x => (Src.step x.1, x.2) }
theorem c55 : CtrOk Tryz.prog 55 con55.ctr :=
 con_sound (G := ⟨[(19, con19.ctr), (21, con21.ctr)], [], [], [], []⟩) tab_ok (EnvOk.cons c19 has19 (EnvOk.cons c21 has21 EnvOk.nil)) rfl Tryz.func55 rfl con55 19 (by kernel_rfl) (by decide) (by decide) rfl (by decide) rfl (by
  rintro ⟨⟨(s : List Int), (a : Int)⟩, (n : Int), _⟩ hpre hwf X hT hG hk hK
  (simp -implicitDefEqProofs only [go_sem, bP, con55, con19, con21, hT, hG, hk, hK, Tryz.results55] at hwf ⊢)
  exact hpre)
def con56 : Con := { ps := [.p 65 ySR, .d false (.sl yI)], rs := [.d false yI], pre := fun (x : Src × List Int × Unit) => 0 ≤ x.1.2 ∧ 0 < x.2.1.length, out := fun (x : Src × List Int × Unit) => (x.2.1.getD (goMod (Src.raw x.1) x.2.1.length).toNat 0, ()), nw := fun x => (Src.step x.1, x.2) }
theorem c56 : CtrOk Tryz.prog 56 con56.ctr :=
 con_sound (G := ⟨[(19, con19.ctr)], [], [], [], []⟩) tab_ok (EnvOk.cons c19 has19 EnvOk.nil) rfl Tryz.func56 rfl con56 19 (by kernel_rfl) (by decide) (by decide) rfl (by decide) rfl (by
  rintro ⟨⟨(s : List Int), (a : Int)⟩, (l : List Int), _⟩ hpre hwf X hT hG hk hK
  (simp -implicitDefEqProofs only [go_sem, bP, con56, con19, hT, hG, hk, hK, Tryz.results56] at hwf ⊢)
  obtain ⟨h1, h2⟩ : 0 ≤ a ∧ 0 < l.length := hpre; have hb := goMod_bd (Src.raw (s, a)) l.length (by omega)
  (repeat' with_reducible first | refine And.intro ?_ ?_ | intro _) <;> try first | with_reducible (first | assumption | omega | contradiction) | decide)
theorem platesV_ok (i : Int) : okPl (platesV i) = true := by
 have hb := goMod_bd i 1000 (by omega); have h1 : 0 ≤ (goMod i 1000).tdiv 100 := Int.tdiv_nonneg hb.1 (by omega); have h2 : 0 ≤ ((goMod i 1000).tdiv 100).tmod 5 := Int.tmod_nonneg 5 h1; have h3 := tmod_bd ((goMod i 1000).tdiv 100) 5 (by omega); have h4 : 0 ≤ (goMod i 1000).tmod 100 := Int.tmod_nonneg 100 hb.1; have h5 := tmod_bd (goMod i 1000) 100 (by omega); have h6 : 0 ≤ (goMod i 1000).tdiv 500 := Int.tdiv_nonneg hb.1 (by omega); have h7 : (goMod i 1000).tdiv 500 ≤ 9 := by
  rw [Int.tdiv_eq_ediv_of_nonneg hb.1]; omega
 unfold okPl platesV inV; simp only [Bool.and_eq_true, decide_eq_true_eq]; omega
def pieceV (s : Src) (n : Int) : Pce := (platesV (goMod (Src.raw s) n), 1 + goMod (Src.raw (Src.step s)) 40, [0, 0, 0, 1, 1, 2, 3, 4].getD (goMod (Src.raw (Src.step (Src.step s))) 8).toNat 0)
theorem pieceV_ok (s : Src) (n : Int) : okPc (pieceV s n) = true := by
 have hA := goMod_bd (Src.raw (Src.step s)) 40 (by omega); have hB := goMod_bd (Src.raw (Src.step (Src.step s))) 8 (by omega); have hw : ∀ k : Int, 0 ≤ k ∧ k < 8 → 0 ≤ [0, 0, 0, 1, 1, 2, 3, 4].getD k.toNat (0 : Int) ∧ [0, 0, 0, 1, 1, 2, 3, 4].getD k.toNat (0 : Int) ≤ 4 := fun k hk => by
  rcases (by omega : k = 0 ∨ k = 1 ∨ k = 2 ∨ k = 3 ∨ k = 4 ∨ k = 5 ∨ k = 6 ∨ k = 7) with rfl | rfl | rfl | rfl | rfl | rfl | rfl | rfl <;> decide
 have hw := hw _ hB; unfold okPc inV pieceV; simp only [platesV_ok, Bool.and_eq_true, decide_eq_true_eq, true_and]; exact ⟨⟨by omega, by omega⟩, hw.1, hw.2⟩
def con20 : Con := { ps := [.p 65 ySR, .d false yI], rs := [.d true yPC], pre := fun (x : Src × Int × Unit) => 0 ≤ x.1.2, out := fun (x : Src × Int × Unit) => (pieceV x.1 x.2.1, ()), nw := fun (x : Src × Int × Unit) => (Src.step (Src.step (Src.step x.1)), x.2) }
theorem c20 : CtrOk Tryz.prog 20 con20.ctr :=
 con_sound (G := ⟨[(19, con19.ctr), (56, con56.ctr), (55, con55.ctr)], [], [], [], []⟩) tab_ok (EnvOk.cons c19 has19 (EnvOk.cons c56 has56 (EnvOk.cons c55 has55 EnvOk.nil))) rfl Tryz.func20 rfl con20 19 (by kernel_rfl) (by decide) (by decide) rfl (by decide) rfl (by
  rintro ⟨⟨(s : List Int), (a : Int)⟩, (n : Int), _⟩ hpre hwf X hT hG hk hK
  (simp -implicitDefEqProofs only [go_sem, bP, con20, con19, con56, con55, hT, hG, hk, hK, Tryz.results20] at hwf ⊢)
  have h1 : 0 ≤ a := hpre; have hs1 : 0 ≤ (Src.step (s, a)).snd := step_pos h1; have hs2 : 0 ≤ (Src.step (s, a)).step.snd := step_pos hs1; have hs3 : 0 ≤ (Src.step (s, a)).step.step.snd := step_pos hs2; have hA := goMod_bd (Src.step (s, a)).raw 40 (by omega)
  (repeat' with_reducible first | refine And.intro ?_ ?_ | intro _) <;> try first | with_reducible (first | assumption | omega | contradiction) | decide
  all_goals try rfl)
def strs3 : List ByteArray := [⟨#[66, 65]⟩, ⟨#[76, 72]⟩, ⟨#[83, 75]⟩]
def fltsV (n : Int) : Flt := (strs3.getD (goMod n 27 / 9).toNat ByteArray.empty, 1 + goMod n 27 / 3 % 3, ByteArray.empty, 1 + goMod n 27 % 3)
def con5 : Con := { ps := [.d false yI], rs := [.d true yFL], pre := fun _ => True, out := fun x => (fltsV x.1, ()), nw := id }
theorem c5 : CtrOk Tryz.prog 5 con5.ctr :=
 con_sound (G := ⟨[(18, con18.ctr)], [], [], [], []⟩) tab_ok (EnvOk.cons c18 has18 EnvOk.nil) rfl Tryz.func5 rfl con5 5 (by kernel_rfl) (by decide) (by decide) rfl (by decide) rfl (by
  rintro ⟨(n : Int), _⟩ hpre hwf X hT hG hk hK
  (simp -implicitDefEqProofs only [go_sem, bP, con5, con18, hT, hG, hk, hK, Tryz.results5] at hwf ⊢)
  have hb := goMod_bd n 27 (by omega); have e : fltsV n = (strs3.getD (goMod n 27 / 9).toNat ByteArray.empty, 1 + goMod n 27 / 3 % 3, ByteArray.empty, 1 + goMod n 27 % 3) := rfl; rw [e]; generalize goMod n 27 = k at hb ⊢; have e1 : k.tdiv 9 = k / 9 := Int.tdiv_eq_ediv_of_nonneg hb.1; have e2 : k.tdiv 3 = k / 3 := Int.tdiv_eq_ediv_of_nonneg hb.1; have e3 : k.tmod 3 = k % 3 := Int.tmod_eq_emod_of_nonneg hb.1; have e4 : (k / 3).tmod 3 = k / 3 % 3 := Int.tmod_eq_emod_of_nonneg (by omega); simp only [e1, e2, e3, e4]
  (repeat' with_reducible first | refine And.intro ?_ ?_ | intro _) <;> try first | with_reducible (first | assumption | omega | contradiction) | decide
  all_goals rfl)
def fErr (f : Nat → Int) (n : Nat) : Int := (((List.range n).map f).find? (fun e => decide (e ≠ 0))).getD 0
theorem fErr_err {f : Nat → Int} {n i : Nat} (h : ∀ k, k < i → f k = 0) (hi : i < n) (he : f i ≠ 0) : fErr f n = f i := by
 unfold fErr; have e0 : List.range n = List.range i ++ (i :: (List.range n).drop (i + 1)) :=
  (List.take_append_drop i (List.range n)).symm.trans (by rw [List.take_range, Nat.min_eq_left (by omega), List.drop_eq_getElem_cons (i := i) (by simpa using hi), List.getElem_range])
 obtain ⟨D, hD⟩ : ∃ D, (List.range n).drop (i + 1) = D := ⟨_, rfl⟩; rw [hD] at e0; have e : (List.range n).map f = (List.range i).map f ++ (f i :: D.map f) := by
  rw [e0, List.map_append, List.map_cons]
 rw [e, List.find?_append]; have e2 : ((List.range i).map f).find? (fun e => decide (e ≠ 0)) = none := by
  rw [List.find?_eq_none]; intro x hx; obtain ⟨k, hk, rfl⟩ := List.mem_map.1 hx; rw [h k (List.mem_range.1 hk)]; simp
 rw [e2]; simp [he]
theorem fErr_ok {f : Nat → Int} {n : Nat} (h : ∀ k, k < n → f k = 0) : fErr f n = 0 := by
 unfold fErr; have e2 : ((List.range n).map f).find? (fun e => decide (e ≠ 0)) = none := by
  rw [List.find?_eq_none]; intro x hx; obtain ⟨k, hk, rfl⟩ := List.mem_map.1 hx; rw [h k (List.mem_range.1 hk)]; simp
 rw [e2]; rfl
theorem fErr_zero {f : Nat → Int} {n : Nat} (h : fErr f n = 0) : ∀ k, k < n → f k = 0 := by
 intro k
 induction k using Nat.strongRecOn with
 | ind k ih =>
   intro hk; apply Classical.byContradiction; intro hne; rw [fErr_err (fun j hj => ih j hj (by omega)) hk hne] at h; exact hne h
abbrev Cnt := Int × Flt × Int × Int × Int × Int × Int × List Pce
abbrev Cnt.num (c : Cnt) : Int := c.1
abbrev Cnt.flt (c : Cnt) : Flt := c.2.1
abbrev Cnt.cats (c : Cnt) : Int := c.2.2.1
abbrev Cnt.lim (c : Cnt) : Int := c.2.2.2.1
abbrev Cnt.most (c : Cnt) : Int := c.2.2.2.2.1
abbrev Cnt.pos (c : Cnt) : Int := c.2.2.2.2.2.1
abbrev Cnt.arm (c : Cnt) : Int := c.2.2.2.2.2.2.1
abbrev Cnt.pcs (c : Cnt) : List Pce := c.2.2.2.2.2.2.2
def pc0 : Pce := ((0, 0, 0), 0, 0)
def ct0 : Cnt := (0, (ByteArray.empty, 0, ByteArray.empty, 0), 0, 0, 0, 0, 0, [])
def propC (c : Cnt) : Bool := inV c.num 1 999 && fltOk c.flt && inV c.cats 0 31 && inV c.lim 0 20000 && inV c.most 0 60 && inV c.pos 0 24 && inV c.arm (-50) 50
def con87 : Con := { ps := [.d true yCT], rs := [.d false .bool], pre := fun _ => True, out := fun (x : Cnt × Unit) => (propC x.1, ()), nw := id }
theorem c87 : CtrOk Tryz.prog 87 con87.ctr :=
 con_sound (G := ⟨[(111, con111.ctr), (112, con112.ctr)], [], [], [], []⟩) tab_ok (EnvOk.cons c111 has111 (EnvOk.cons c112 has112 EnvOk.nil)) rfl Tryz.func87 rfl con87 7 (by kernel_rfl) (by decide) (by decide) rfl (by decide) rfl (by
  rintro ⟨⟨(n : Int), ⟨a1, (a2 : Int), a3, (a4 : Int)⟩, (c : Int), (l : Int), (t : Int), (p : Int), (r : Int), (ps : List Pce)⟩, _⟩ hpre hwf X hT hG hk hK
  (simp -implicitDefEqProofs only [go_sem, bP, con87, con111, con112, hT, hG, hk, hK, Tryz.results87] at hwf ⊢)
  unfold propC; clear hwf hpre hT hG hk hK; generalize inV n 1 999 = q1; generalize fltOk (a1, a2, a3, a4) = q2; generalize inV c 0 31 = q3; generalize inV l 0 20000 = q4; generalize inV t 0 60 = q5; generalize inV p 0 24 = q6; generalize inV r (-50) 50 = q7; cases q1 <;> cases q2 <;> cases q3 <;> cases q4 <;> cases q5 <;> cases q6 <;> cases q7 <;> simp)
def takesV (c : Cnt) (k : Int) : Bool := decide (andV .i64 (c.cats / 2 ^ k.toNat) 1 = 1)
def con74 : Con := { ps := [.d true yCT, .d false yI], rs := [.d false .bool], pre := fun (x : Cnt × Int × Unit) => 0 ≤ x.1.cats ∧ 0 ≤ x.2.1 ∧ x.2.1 < 32, out := fun (x : Cnt × Int × Unit) => (takesV x.1 x.2.1, ()), nw := id }
theorem c74 : CtrOk Tryz.prog 74 con74.ctr :=
 con_sound (G := ⟨[], [], [], [], []⟩) tab_ok EnvOk.nil rfl Tryz.func74 rfl con74 23 (by kernel_rfl) (by decide) (by decide) rfl (by decide) rfl (by
  rintro ⟨⟨(n : Int), ⟨a1, (a2 : Int), a3, (a4 : Int)⟩, (c : Int), (l : Int), (t : Int), (p : Int), (r : Int), (ps : List Pce)⟩, (k : Int), _⟩ hpre hwf X hT hG hk hK
  (simp -implicitDefEqProofs only [go_sem, bP, con74, hT, hG, hk, hK, Tryz.results74] at hwf ⊢)
  obtain ⟨h1, h2, h3⟩ : 0 ≤ c ∧ 0 ≤ k ∧ k < 32 := hpre
  (repeat' with_reducible first | refine And.intro ?_ ?_ | intro _) <;> try first | with_reducible (first | assumption | omega | contradiction) | decide
  all_goals (unfold takesV; first | rfl | simp))
def pcErr (l : List Pce) (i : Nat) : Int :=
 if okPc (l.getD i pc0) = false then 1 else if i = 0 then 0 else if pltC (l.getD (i - 1) pc0).1 (l.getD i pc0).1 = 0 then 5 else if pltC (l.getD (i - 1) pc0).1 (l.getD i pc0).1 = 1 then 9 else 0
def ctErr (c : Cnt) : Int := if propC c = false then 1 else if 60 < c.pcs.length then 2 else fErr (pcErr c.pcs) c.pcs.length
theorem pcErr_1 {l : List Pce} {i : Nat} (h : okPc (l.getD i pc0) = false) : pcErr l i = 1 := by unfold pcErr; rw [if_pos h]
theorem pcErr_f {l : List Pce} {i : Nat} (h : okPc (l.getD i pc0) = true) (h0 : i = 0) : pcErr l i = 0 := by
 unfold pcErr; rw [if_neg (by rw [h]; simp), if_pos h0]
theorem pcErr_5 {l : List Pce} {i : Nat} (h : okPc (l.getD i pc0) = true) (h0 : ¬ i = 0) (hc : pltC (l.getD (i - 1) pc0).1 (l.getD i pc0).1 = 0) : pcErr l i = 5 := by
 unfold pcErr; rw [if_neg (by rw [h]; simp), if_neg h0, if_pos hc]
theorem pcErr_9 {l : List Pce} {i : Nat} (h : okPc (l.getD i pc0) = true) (h0 : ¬ i = 0) (hc : pltC (l.getD (i - 1) pc0).1 (l.getD i pc0).1 = 1) : pcErr l i = 9 := by
 unfold pcErr; rw [if_neg (by rw [h]; simp), if_neg h0, if_neg (by rw [hc]; decide), if_pos hc]
theorem pcErr_0 {l : List Pce} {i : Nat} (h : okPc (l.getD i pc0) = true) (h0 : ¬ i = 0) (hc : ¬ pltC (l.getD (i - 1) pc0).1 (l.getD i pc0).1 = 0) (hd : ¬ pltC (l.getD (i - 1) pc0).1 (l.getD i pc0).1 = 1) : pcErr l i = 0 := by
 unfold pcErr; rw [if_neg (by rw [h]; simp), if_neg h0, if_neg hc, if_neg hd]
theorem ctErr_zero {c : Cnt} (h : ctErr c = 0) : propC c = true ∧ c.pcs.length ≤ 60 ∧ ∀ i, i < c.pcs.length → okPc (c.pcs.getD i pc0) = true ∧ (0 < i → pltC (c.pcs.getD (i - 1) pc0).1 (c.pcs.getD i pc0).1 < 0) := by
 unfold ctErr at h; split at h
 · omega
 · rename_i h1; split at h
   · omega
   · rename_i h2; refine ⟨by simpa using h1, by omega, fun i hi => ?_⟩; have := fErr_zero h i hi; unfold pcErr at this; split at this
     · omega
     · rename_i h3; refine ⟨by simpa using h3, fun h0 => ?_⟩; rw [if_neg (by omega)] at this; split at this
       · omega
       · split at this
         · omega
         · have := pltC_cmp.unit (c.pcs.getD (i - 1) pc0).1 (c.pcs.getD i pc0).1; omega
def con57 : Con := { ps := [.d true yCT], rs := [.d false yI], pre := fun _ => True, out := fun (x : Cnt × Unit) => (ctErr x.1, ()), nw := id }
theorem c57 : CtrOk Tryz.prog 57 con57.ctr :=
 con_sound (G := ⟨[(87, con87.ctr), (88, con88.ctr), (42, con42.ctr)], [], [], [], []⟩) tab_ok (EnvOk.cons c87 has87 (EnvOk.cons c88 has88 (EnvOk.cons c42 has42 EnvOk.nil))) rfl Tryz.func57 rfl con57 188999657631 (by kernel_rfl) (by decide) (by decide) rfl (by decide) rfl (by
  rintro ⟨⟨(n : Int), ⟨a1, (a2 : Int), a3, (a4 : Int)⟩, (c : Int), (lm : Int), (t : Int), (p : Int), (r : Int), (l : List Pce)⟩, _⟩ hpre hwf X hT hG hk hK
  (simp -implicitDefEqProofs only [go_sem, bP, con57, con87, con88, con42, hT, hG, hk, hK, Tryz.results57] at hwf ⊢); (try simp (disch := decide +kernel) only [drawn, true_and, and_true])
  clear hwf; refine ⟨fun h => ?_, fun h _ => ⟨fun h2 => ?_, fun h2 _ => ?_⟩⟩
  · unfold ctErr; rw [if_pos h]
  · unfold ctErr; rw [if_neg (by rw [h]; simp), if_pos (by show 60 < l.length; omega)]
  · have e0 : ctErr (n, (a1, a2, a3, a4), c, lm, t, p, r, l) = fErr (pcErr l) l.length := by
     unfold ctErr; rw [if_neg (by rw [h]; simp), if_neg (by show ¬ 60 < l.length; omega)]
    refine evk_loop ⟨{ i : Nat // i ≤ l.length ∧ ∀ k, k < i → pcErr l k = 0 }, 1000, fun q => [(1, .one (.loc 70 0)), (2, .one (.int .i64 0)), (13, .one (.sl yPC l false)), (14, .one (.int .i64 l.length)), (15, .one (.int .i64 q.1))], fun q => [(70, .cells 85 [.int .i64 n, .str a1, .int .i64 a2, .str a3, .int .i64 a4, .int .i64 c, .int .i64 lm, .int .i64 t, .int .i64 p, .int .i64 r, .sl yPC l false])], fun q => l.length - q.1⟩ ⟨0, by omega, fun k hk => by omega⟩ ?_ ?_
    · simp only [go_sem]
      try first | rfl | (and_intros <;> first | rfl | omega)
    · rintro ⟨i, (hi : i ≤ l.length), (hz : ∀ k, k < i → pcErr l k = 0)⟩; have he := fErr_err (f := pcErr l) (n := l.length) (i := i) hz
      (simp -implicitDefEqProofs only [go_sem, bP, con57, con87, con88, con42, hT, hG, hk, hK, Tryz.results57]); (try simp (disch := decide +kernel) only [drawn, true_and, and_true])
      obtain ⟨o, ho⟩ : ∃ o, l.getD i pc0 = o := ⟨_, rfl⟩; obtain ⟨u, hu⟩ : ∃ u, l.getD (i - 1) pc0 = u := ⟨_, rfl⟩; have eo : l.getD (i : Int).toNat ((0, 0, 0), 0, 0) = o := ho; have eu : l.getD ((i : Int) - 1).toNat ((0, 0, 0), 0, 0) = u := by rw [show ((i : Int) - 1).toNat = i - 1 by omega]; exact hu
      rw [eo, eu]; have nx : pcErr l i = 0 → ∀ k, k < i + 1 → pcErr l k = 0 := fun h k hk => by
       by_cases e : k = i
       · subst e; exact h
       · exact hz k (by omega)
      (repeat' with_reducible first | refine And.intro ?_ ?_ | intro _) <;> try first | with_reducible (first | assumption | omega | contradiction) | decide
      all_goals first
       | (have h1 : okPc o = false := by assumption
          rw [e0, he (by omega) (by rw [pcErr_1 (ho ▸ h1)]; decide), pcErr_1 (ho ▸ h1)]; done)
       | (have h1 : okPc o = true := by assumption
          have h3 : pltC u.1 o.1 = 0 := by assumption
          have e5 := pcErr_5 (ho ▸ h1) (by omega) (by rw [hu, ho]; exact h3)
          rw [e0, he (by omega) (by rw [e5]; decide), e5]; done)
       | (have h1 : okPc o = true := by assumption
          have h3 : pltC u.1 o.1 = 1 := by assumption
          have e5 := pcErr_9 (ho ▸ h1) (by omega) (by rw [hu, ho]; exact h3)
          rw [e0, he (by omega) (by rw [e5]; decide), e5]; done)
       | (have h1 : okPc o = true := by assumption
          have h0 : (i : Int) = 0 := by assumption
          refine fin_lp ⟨i + 1, by omega, nx (pcErr_f (ho ▸ h1) (by omega))⟩ ?_ (by dsimp only; omega); simp only [go_sem]
          try first | rfl | (and_intros <;> first | rfl | omega))
       | (have h1 : okPc o = true := by assumption
          have h3 : ¬ pltC u.1 o.1 = 0 := by assumption
          have h4 : ¬ pltC u.1 o.1 = 1 := by assumption
          refine fin_lp ⟨i + 1, by omega, nx (pcErr_0 (ho ▸ h1) (by omega) (by rw [hu, ho]; exact h3) (by rw [hu, ho]; exact h4))⟩ ?_ (by dsimp only; omega); simp only [go_sem]
          try first | rfl | (and_intros <;> first | rfl | omega))
       | (rw [e0, fErr_ok (fun k hk => hz k (by omega))]; done)
       | skip)
def idxV {α : Type} (p : α → Bool) (l : List α) : Int := match l.findIdx? p with | some i => i | none => -1
theorem getD_lt {α : Type} {l : List α} {i : Nat} {d : α} (h : i < l.length) : l.getD i d = l[i] := by simp [h]
theorem idxV_at {α : Type} {p : α → Bool} {l : List α} {d : α} {i : Nat} (hz : ∀ k, k < i → p (l.getD k d) = false) (hi : i < l.length) (h : p (l.getD i d) = true) : idxV p l = i := by
 unfold idxV; have : l.findIdx? p = some i := by
  rw [List.findIdx?_eq_some_iff_getElem]; refine ⟨hi, by rw [← getD_lt hi (d := d)]; exact h, fun j hj => ?_⟩; have := hz j hj; rw [getD_lt (by omega)] at this; simp [this]
 rw [this]
theorem idxV_none {α : Type} {p : α → Bool} {l : List α} {d : α} (hz : ∀ k, k < l.length → p (l.getD k d) = false) : idxV p l = -1 := by
 unfold idxV; have : l.findIdx? p = none := by
  rw [List.findIdx?_eq_none_iff]; intro x hx; obtain ⟨k, hk, rfl⟩ := List.getElem_of_mem hx; rw [← getD_lt hk (d := d)]; exact hz k hk
 rw [this]
theorem idxV_lt {α : Type} (p : α → Bool) (l : List α) : -1 ≤ idxV p l ∧ idxV p l < l.length := by
 unfold idxV; split
 · rename_i i h; obtain ⟨h1, _⟩ := List.findIdx?_eq_some_iff_getElem.1 h; omega
 · omega
theorem idxV_spec {α : Type} {p : α → Bool} {l : List α} {d : α} (h : 0 ≤ idxV p l) : (idxV p l).toNat < l.length ∧ p (l.getD (idxV p l).toNat d) = true ∧ ∀ k, k < (idxV p l).toNat → p (l.getD k d) = false := by
 unfold idxV at h ⊢; split at h
 · rename_i i hi
   try simp only [hi]
   obtain ⟨h1, h2, h3⟩ := List.findIdx?_eq_some_iff_getElem.1 hi; refine ⟨by omega, by rw [show ((i : Int)).toNat = i by omega, getD_lt h1]; exact h2, fun k hk => ?_⟩; have := h3 k (by omega); rw [getD_lt (by omega)]; simpa using this
 · omega
theorem idxV_neg {α : Type} {p : α → Bool} {l : List α} (h : idxV p l < 0) : ∀ x ∈ l, p x = false := by
 unfold idxV at h; split at h
 · omega
 · rename_i hi; rw [List.findIdx?_eq_none_iff] at hi; intro x hx; simpa using hi x hx
theorem any_at {α : Type} {p : α → Bool} {l : List α} {d : α} {i : Nat} (hi : i < l.length) (h : p (l.getD i d) = true) : l.any p = true := by
 rw [List.any_eq_true]; exact ⟨l[i], List.getElem_mem hi, by rw [← getD_lt hi (d := d)]; exact h⟩
theorem any_none {α : Type} {p : α → Bool} {l : List α} {d : α} (hz : ∀ k, k < l.length → p (l.getD k d) = false) : l.any p = false := by
 rw [List.any_eq_false]; intro x hx; obtain ⟨k, hk, rfl⟩ := List.getElem_of_mem hx; rw [← getD_lt hk (d := d), hz k hk]; simp
theorem lt_succ {P : Nat → Prop} {i : Nat} (hz : ∀ k, k < i → P k) (h : P i) : ∀ k, k < i + 1 → P k := fun k hk => by
 by_cases e : k = i
 · subst e; exact h
 · exact hz k (by omega)
theorem getD_mem {α : Type} {l : List α} {i : Nat} {d : α} (h : i < l.length) : l.getD i d ∈ l := by rw [getD_lt h]; exact List.getElem_mem h
theorem mem_getD {α : Type} {l : List α} {x : α} {d : α} (h : x ∈ l) : ∃ k, k < l.length ∧ l.getD k d = x := by
 obtain ⟨k, hk, e⟩ := List.getElem_of_mem h; exact ⟨k, hk, by rw [getD_lt hk]; exact e⟩
def weightV (l : List Pce) : Int := (l.map (fun x => x.2.1)).sum
theorem weightV_succ {l : List Pce} {i : Nat} (h : i < l.length) : weightV (l.take (i + 1)) = weightV (l.take i) + (l.getD i pc0).2.1 := by
 unfold weightV; rw [tsE h, List.map_append, List.sum_append, getD_lt h]; simp
theorem weightV_bd {l : List Pce} (h : ∀ i, i < l.length → 0 ≤ (l.getD i pc0).2.1 ∧ (l.getD i pc0).2.1 ≤ 999) : ∀ i, i ≤ l.length → 0 ≤ weightV (l.take i) ∧ weightV (l.take i) ≤ 999 * i := by
 intro i
 induction i with
 | zero => intro _; simp [weightV]
 | succ i ih =>
   intro hi; rw [weightV_succ (by omega)]; have := ih (by omega); have := h i (by omega); omega
def con92 : Con := { ps := [.d false (.sl yPC)], rs := [.d false yI], pre := fun (x : List Pce × Unit) => x.1.length ≤ 100000 ∧ ∀ i, i < x.1.length → 0 ≤ (x.1.getD i pc0).2.1 ∧ (x.1.getD i pc0).2.1 ≤ 999, out := fun (x : List Pce × Unit) => (weightV x.1, ()), nw := id }
theorem c92 : CtrOk Tryz.prog 92 con92.ctr :=
 con_sound (G := ⟨[], [], [], [], []⟩) tab_ok EnvOk.nil rfl Tryz.func92 rfl con92 1005 (by kernel_rfl) (by decide) (by decide) rfl (by decide) rfl (by
  rintro ⟨(l : List Pce), _⟩ hpre hwf X hT hG hk hK
  (simp -implicitDefEqProofs only [go_sem, bP, con92, hT, hG, hk, hK, Tryz.results92] at hwf ⊢)
  obtain ⟨h1, h2⟩ : l.length ≤ 100000 ∧ ∀ i, i < l.length → 0 ≤ (l.getD i pc0).2.1 ∧ (l.getD i pc0).2.1 ≤ 999 := hpre; have hb := weightV_bd h2; refine fun _ => evk_loop ⟨{ i : Nat // i ≤ l.length }, 1000, fun q => [(3, .one (.int .i64 (weightV (l.take q.1)))), (6, .one (.sl yPC l false)), (7, .one (.int .i64 l.length)), (8, .one (.int .i64 q.1))], fun q => [], fun q => l.length - q.1⟩ ⟨0, by omega⟩ ?_ ?_
  · simp only [go_sem]
    try first | rfl | (and_intros <;> first | trivial | rfl | omega)
  · rintro ⟨i, (hi : i ≤ l.length)⟩; have hbi := hb i hi
    (simp -implicitDefEqProofs only [go_sem, bP, con92, hT, hG, hk, hK, Tryz.results92])
    obtain ⟨o, ho⟩ : ∃ o, l.getD i pc0 = o := ⟨_, rfl⟩; have eo : l.getD (i : Int).toNat ((0, 0, 0), 0, 0) = o := ho; rw [eo]; have hw : i < l.length → weightV (l.take (i + 1)) = weightV (l.take i) + o.2.1 := fun h => by rw [weightV_succ h, ho]
    have h2i := h2 i; rw [ho] at h2i
    (repeat' with_reducible first | refine And.intro ?_ ?_ | intro _) <;> try first | with_reducible (first | assumption | omega | contradiction) | decide
    · have hil : i < l.length := by omega
      refine fin_lp ⟨i + 1, by omega⟩ ?_ (by dsimp only; omega); simp only [go_sem]; rw [hw hil]
      try first | rfl | (and_intros <;> first | trivial | rfl | omega)
    · rw [List.take_of_length_le (by omega)])
theorem okPc_bd {o : Pce} (h : okPc o = true) : (1 ≤ o.2.1 ∧ o.2.1 ≤ 999) ∧ 0 ≤ o.2.2 ∧ o.2.2 ≤ 4 := by
 unfold okPc inV at h; simp only [Bool.and_eq_true, decide_eq_true_eq] at h; omega
theorem ct_weights {c : Cnt} (h : ctErr c = 0) : c.pcs.length ≤ 100000 ∧ ∀ i, i < c.pcs.length → 0 ≤ (c.pcs.getD i pc0).2.1 ∧ (c.pcs.getD i pc0).2.1 ≤ 999 := by
 obtain ⟨_, h2, h3⟩ := ctErr_zero h; exact ⟨by omega, fun i hi => by have := okPc_bd (h3 i hi).1; omega⟩
theorem propC_cats {c : Cnt} (h : propC c = true) : 0 ≤ c.cats ∧ c.cats ≤ 31 := by
 unfold propC inV at h; simp only [Bool.and_eq_true, decide_eq_true_eq] at h; omega
def con75 : Con := { ps := [.d true yCT], rs := [.d false yI], pre := fun _ => True, out := fun (x : Cnt × Unit) => (if ctErr x.1 ≠ 0 then 0 else weightV x.1.pcs, ()), nw := id }
theorem c75 : CtrOk Tryz.prog 75 con75.ctr :=
 con_sound (G := ⟨[(57, con57.ctr), (92, con92.ctr)], [], [], [], []⟩) tab_ok (EnvOk.cons c57 has57 (EnvOk.cons c92 has92 EnvOk.nil)) rfl Tryz.func75 rfl con75 39 (by kernel_rfl) (by decide) (by decide) rfl (by decide) rfl (by
  rintro ⟨⟨(n : Int), ⟨a1, (a2 : Int), a3, (a4 : Int)⟩, (c : Int), (lm : Int), (t : Int), (p : Int), (r : Int), (l : List Pce)⟩, _⟩ hpre hwf X hT hG hk hK
  (simp -implicitDefEqProofs only [go_sem, bP, con75, con57, con92, hT, hG, hk, hK, Tryz.results75] at hwf ⊢)
  clear hwf; have hw := ct_weights (c := (n, (a1, a2, a3, a4), c, lm, t, p, r, l)); generalize he : ctErr (n, (a1, a2, a3, a4), c, lm, t, p, r, l) = e at hw ⊢
  (repeat' with_reducible first | refine And.intro ?_ ?_ | intro _) <;> try first | with_reducible (first | assumption | omega | contradiction) | decide
  all_goals first
   | (have h0 : e = 0 := by assumption
      exact (hw h0).1)
   | (have h0 : e = 0 := by assumption
      exact (hw h0).2)
   | (have h0 : e = 0 := by assumption
      exact ((hw h0).2 _ (by assumption)).1)
   | (have h0 : e = 0 := by assumption
      exact ((hw h0).2 _ (by assumption)).2)
   | (have h0 : ¬ e = 0 := by assumption
      rw [if_pos h0])
   | (have h0 : e = 0 := by assumption
      rw [if_neg (by simp [h0])]))
def overV (c : Cnt) : Bool := if ctErr c ≠ 0 then false else c.pcs.any (fun x => !takesV c x.2.2) || decide (weightV c.pcs > c.lim) || decide ((c.pcs.length : Int) > c.most)
def con38 : Con := { ps := [.d true yCT], rs := [.d false .bool], pre := fun _ => True, out := fun (x : Cnt × Unit) => (overV x.1, ()), nw := id }
theorem c38 : CtrOk Tryz.prog 38 con38.ctr :=
 con_sound (G := ⟨[(57, con57.ctr), (74, con74.ctr), (75, con75.ctr)], [], [], [], []⟩) tab_ok (EnvOk.cons c57 has57 (EnvOk.cons c74 has74 (EnvOk.cons c75 has75 EnvOk.nil))) rfl Tryz.func38 rfl con38 532119 (by kernel_rfl) (by decide) (by decide) rfl (by decide) rfl (by
  rintro ⟨⟨(n : Int), ⟨a1, (a2 : Int), a3, (a4 : Int)⟩, (c : Int), (lm : Int), (t : Int), (p : Int), (r : Int), (l : List Pce)⟩, _⟩ hpre hwf X hT hG hk hK
  (simp -implicitDefEqProofs only [go_sem, bP, con38, con57, con74, con75, hT, hG, hk, hK, Tryz.results38] at hwf ⊢); (try simp (disch := decide +kernel) only [drawn, true_and, and_true])
  clear hwf; obtain ⟨C, hC⟩ : ∃ C : Cnt, (n, (a1, a2, a3, a4), c, lm, t, p, r, l) = C := ⟨_, rfl⟩; simp only [hC]; have hl : C.pcs = l := by rw [← hC]
  have hcc : C.cats = c := by rw [← hC]
  have hm : C.lim = lm := by rw [← hC]
  have hmo : C.most = t := by rw [← hC]
  refine fun _ => ⟨fun h => ?_, fun h hlen => ?_⟩
  · unfold overV; rw [if_pos h]
  · obtain ⟨g1, g2, g3⟩ := ctErr_zero h; have g4 := propC_cats g1; rw [hl] at g2 g3; rw [hcc] at g4; have e0 : overV C = (l.any (fun x => !takesV C x.2.2) || decide (weightV l > lm) || decide ((l.length : Int) > t)) := by
     unfold overV; rw [if_neg (by simp [h]), hl, hm, hmo]
    refine evk_loop ⟨{ i : Nat // i ≤ l.length ∧ ∀ k, k < i → (fun x : Pce => !takesV C x.2.2) (l.getD k pc0) = false }, 1000, fun q => [(1, .one (.loc 70 0)), (2, .one (.bool false)), (9, .one (.sl yPC l false)), (10, .one (.int .i64 l.length)), (11, .one (.int .i64 q.1))], fun q => [(70, .cells 85 [.int .i64 n, .str a1, .int .i64 a2, .str a3, .int .i64 a4, .int .i64 c, .int .i64 lm, .int .i64 t, .int .i64 p, .int .i64 r, .sl yPC l false])], fun q => l.length - q.1⟩ ⟨0, by omega, fun k hk => by omega⟩ ?_ ?_
    · simp only [go_sem]
      try first | rfl | (and_intros <;> first | trivial | rfl | omega)
    · rintro ⟨i, (hi : i ≤ l.length), hz⟩
      (simp -implicitDefEqProofs only [go_sem, bP, con38, con57, con74, con75, hT, hG, hk, hK, Tryz.results38]); (try simp (disch := decide +kernel) only [drawn, true_and, and_true])
      simp only [hC]; obtain ⟨o, ho⟩ : ∃ o, l.getD i pc0 = o := ⟨_, rfl⟩; have eo : l.getD (i : Int).toNat ((0, 0, 0), 0, 0) = o := ho; rw [eo]; have ho2 : i < l.length → (1 ≤ o.2.1 ∧ o.2.1 ≤ 999) ∧ 0 ≤ o.2.2 ∧ o.2.2 ≤ 4 := fun hi => okPc_bd (ho ▸ (g3 i hi).1); simp only [hcc]; refine ⟨fun hlt => ?_, fun hge => ?_⟩
      · have ho2 := ho2 (by omega)
        (repeat' with_reducible first | refine And.intro ?_ ?_ | intro _) <;> try first | with_reducible (first | assumption | omega | contradiction) | decide
        all_goals first
         | (have h1 : takesV C o.2.2 = false := by assumption
            rw [e0, any_at (d := pc0) (i := i) (by omega) (by rw [ho, h1]; rfl)]
            simp; done)
         | (have h1 : takesV C o.2.2 = true := by assumption
            refine fin_lp ⟨i + 1, by omega, lt_succ hz (by show (!takesV C (l.getD i pc0).2.2) = false; rw [ho, h1]; first | done | rfl)⟩ (by simp only [go_sem]; first | rfl | ((repeat' apply And.intro) <;> first | rfl | assumption | omega)) (by dsimp only; omega)
            done)
         | skip
      · have hz' : l.any (fun x => !takesV C x.2.2) = false := any_none (d := pc0) fun k hk => hz k (by omega); rw [e0, hz', h]; simp only [if_neg (show ¬ (0 : Int) ≠ 0 by simp), hl]
        (repeat' with_reducible first | refine And.intro ?_ ?_ | intro _) <;> try first | with_reducible (first | assumption | omega | contradiction) | decide
        all_goals first | rfl | simp | skip)
def holdsV (c : Cnt) (p : Plt) : Bool := c.pcs.any (fun x => decide (x.1 = p))
theorem plt_eq {a b : Plt} : (a.1 = b.1 ∧ a.2.1 = b.2.1 ∧ a.2.2 = b.2.2) ↔ a = b := ⟨fun h => Prod.ext h.1 (Prod.ext h.2.1 h.2.2), fun h => by rw [h]; exact ⟨rfl, rfl, rfl⟩⟩
def con100 : Con := { ps := [.d true yCT, .d true yPL], rs := [.d false .bool], pre := fun _ => True, out := fun (x : Cnt × Plt × Unit) => (holdsV x.1 x.2.1, ()), nw := id }
theorem c100 : CtrOk Tryz.prog 100 con100.ctr :=
 con_sound (G := ⟨[], [], [], [], []⟩) tab_ok EnvOk.nil rfl Tryz.func100 rfl con100 135007 (by kernel_rfl) (by decide) (by decide) rfl (by decide) rfl (by
  rintro ⟨⟨(n : Int), ⟨a1, (a2 : Int), a3, (a4 : Int)⟩, (c : Int), (lm : Int), (t : Int), (p : Int), (r : Int), (l : List Pce)⟩, ⟨(p1 : Int), (p2 : Int), (p3 : Int)⟩, _⟩ hpre hwf X hT hG hk hK
  (simp -implicitDefEqProofs only [go_sem, bP, con100, hT, hG, hk, hK, Tryz.results100] at hwf ⊢)
  clear hwf; refine fun _ => evk_loop ⟨{ i : Nat // i ≤ l.length ∧ ∀ k, k < i → (fun x : Pce => decide (x.1 = ((p1, p2, p3) : Plt))) (l.getD k pc0) = false }, 1000, fun q => [(3, .one (.loc 71 0)), (4, .one (.bool false)), (8, .one (.sl yPC l false)), (9, .one (.int .i64 l.length)), (10, .one (.int .i64 q.1))], fun q => [(71, .cells 45 [.int .i64 p1, .int .i64 p2, .int .i64 p3])], fun q => l.length - q.1⟩ ⟨0, by omega, fun k hk => by omega⟩ ?_ ?_
  · simp only [go_sem]
    try first | rfl | (and_intros <;> first | trivial | rfl | omega)
  · rintro ⟨i, (hi : i ≤ l.length), hz⟩
    (simp -implicitDefEqProofs only [go_sem, bP, con100, hT, hG, hk, hK, Tryz.results100])
    obtain ⟨o, ho⟩ : ∃ o, l.getD i pc0 = o := ⟨_, rfl⟩; have eo : l.getD (i : Int).toNat ((0, 0, 0), 0, 0) = o := ho; rw [eo]; have hq := plt_eq (a := o.1) (b := (p1, p2, p3)); simp only at hq
    (repeat' with_reducible first | refine And.intro ?_ ?_ | intro _) <;> try first | with_reducible (first | assumption | omega | contradiction) | decide
    all_goals first
     | (have h : o.1.1 = p1 ∧ o.1.2.1 = p2 ∧ o.1.2.2 = p3 := by first | assumption | (and_intros <;> assumption)
        exact (any_at (l := l) (p := fun x : Pce => decide (x.1 = ((p1, p2, p3) : Plt))) (d := pc0) (i := i) (by omega) (by rw [ho]; simp [hq.1 h])).symm)
     | (have h : ¬ o.1.1 = p1 ∨ ¬ o.1.2.1 = p2 ∨ ¬ o.1.2.2 = p3 := by assumption
        have hn : ¬ o.1 = (p1, p2, p3) := fun e => by rw [e] at h; simp at h
        refine fin_lp ⟨i + 1, by omega, lt_succ hz (by show decide ((l.getD i pc0).1 = ((p1, p2, p3) : Plt)) = false; rw [ho]; exact decide_eq_false hn)⟩ (by simp only [go_sem]; first | rfl | ((repeat' apply And.intro) <;> first | rfl | assumption | omega)) (by dsimp only; omega)
        done)
     | exact (any_none (l := l) (p := fun x : Pce => decide (x.1 = ((p1, p2, p3) : Plt))) (d := pc0) fun k hk => hz k (by omega)).symm
     | skip)
def findV (l : List Cnt) (p : Plt) : Int × Bool := if 0 ≤ idxV (fun c => holdsV c p) l then ((l.getD (idxV (fun c => holdsV c p) l).toNat ct0).num, true) else (0, false)
theorem findV_at {l : List Cnt} {p : Plt} {i : Nat} (hz : ∀ k, k < i → holdsV (l.getD k ct0) p = false) (hi : i < l.length) (h : holdsV (l.getD i ct0) p = true) : findV l p = ((l.getD i ct0).num, true) := by
 unfold findV; rw [idxV_at (d := ct0) hz hi h, if_pos (by omega)]; rfl
theorem findV_none {l : List Cnt} {p : Plt} (hz : ∀ k, k < l.length → holdsV (l.getD k ct0) p = false) : findV l p = (0, false) := by
 unfold findV; rw [idxV_none (d := ct0) hz, if_neg (by omega)]
def con80 : Con := { ps := [.d false (.sl yCT), .d true yPL], rs := [.d false yI, .d false .bool], pre := fun _ => True, out := fun (x : List Cnt × Plt × Unit) => ((findV x.1 x.2.1).1, (findV x.1 x.2.1).2, ()), nw := id }
theorem c80 : CtrOk Tryz.prog 80 con80.ctr :=
 con_sound (G := ⟨[(100, con100.ctr)], [], [], [], []⟩) tab_ok (EnvOk.cons c100 has100 EnvOk.nil) rfl Tryz.func80 rfl con80 69563 (by kernel_rfl) (by decide) (by decide) rfl (by decide) rfl (by
  rintro ⟨(l : List Cnt), ⟨(p1 : Int), (p2 : Int), (p3 : Int)⟩, _⟩ hpre hwf X hT hG hk hK
  (simp -implicitDefEqProofs only [go_sem, bP, con80, con100, hT, hG, hk, hK, Tryz.results80] at hwf ⊢)
  clear hwf; refine fun _ => evk_loop ⟨{ i : Nat // i ≤ l.length ∧ ∀ k, k < i → holdsV (l.getD k ct0) (p1, p2, p3) = false }, 1000, fun q => [(3, .one (.loc 71 0)), (4, .one (.int .i64 0)), (5, .one (.bool false)), (8, .one (.sl yCT l false)), (9, .one (.int .i64 l.length)), (10, .one (.int .i64 q.1))], fun q => [(71, .cells 45 [.int .i64 p1, .int .i64 p2, .int .i64 p3])], fun q => l.length - q.1⟩ ⟨0, by omega, fun k hk => by omega⟩ ?_ ?_
  · simp only [go_sem]
    try first | rfl | (and_intros <;> first | trivial | rfl | omega)
  · rintro ⟨i, (hi : i ≤ l.length), hz⟩; have hf := findV_at (l := l) (p := (p1, p2, p3)) (i := i) hz; unfold ct0 at hf
    (simp -implicitDefEqProofs only [go_sem, bP, con80, con100, hT, hG, hk, hK, Tryz.results80])
    have hiN : (i : Int).toNat = i := by omega
    simp only [hiN]
    (repeat' with_reducible first | refine And.intro ?_ ?_ | intro _) <;> try first | with_reducible (first | assumption | omega | contradiction) | decide
    all_goals first
     | (have h : holdsV (l.getD i (0, (ByteArray.empty, 0, ByteArray.empty, 0), 0, 0, 0, 0, 0, [])) (p1, p2, p3) = true := by assumption
        rw [hf (by omega) h]; done)
     | (have h : holdsV (l.getD i (0, (ByteArray.empty, 0, ByteArray.empty, 0), 0, 0, 0, 0, 0, [])) (p1, p2, p3) = false := by assumption
        refine fin_lp ⟨i + 1, by omega, lt_succ hz (by exact h)⟩ (by simp only [go_sem]; first | rfl | ((repeat' apply And.intro) <;> first | rfl | assumption | omega)) (by dsimp only; omega)
        done)
     | (rw [findV_none fun k hk => hz k (by omega)]; done)
     | skip)
end Go.Proofs.YtkjpbhkldioggaaGreat
