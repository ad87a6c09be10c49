/- The order of plates; pieces; the generators of single values. -/
import Derived.Test.YteheklpenjjfaaaGreatOfKaToOrd
set_option linter.unusedSimpArgs false
set_option linter.unusedVariables false
set_option maxRecDepth 100000
set_option maxHeartbeats 4000000
namespace Go.Proofs.YteheklpenjjfaaaGreat
open Go.Ev

abbrev Plt := Int × Int × Int
abbrev Pce := Plt × Int × Int
abbrev Opn := Int × Int × Int × Int × Int × Pce
def Opn.seq (o : Opn) : Int := o.2.2.1
def Opn.kind (o : Opn) : Int := o.2.2.2.1
def Opn.box (o : Opn) : Int := o.2.2.2.2.1
def con73 : Con := { ps := [.d false (.int .i64)], rs := [.d false .bool], pre := fun _ => True, out := fun x => (false, ()), nw := id }
theorem c73 : CtrOk Tryz.prog 73 con73.ctr :=
 con_sound (G := ⟨[], [], [], [], []⟩) tab_ok EnvOk.nil rfl Tryz.func73 rfl con73 5 (by kernel_rfl) (by decide) (by decide) rfl (by decide) rfl (by
  rintro ⟨(p : Int), _⟩ hpre hwf X hT hG hk hK
  (simp -implicitDefEqProofs (maxSteps := 4000000) only [go_sem, con73, hT, hG, hk, hK, Tryz.results73] at hwf ⊢); (try simp (disch := decide +kernel) only [drawn, true_and, and_true]))
def con51 : Con := { ps := [.d false (.int .i64), .d false (.int .i64)], rs := [.d false (.int .i64)], pre := fun _ => True, out := fun x => (cmpV x.1 x.2.1, ()), nw := id }
theorem c51 : CtrOk Tryz.prog 51 con51.ctr :=
 con_sound (G := ⟨[(73, con73.ctr)], [], [], [], []⟩) tab_ok (EnvOk.cons c73 has73 EnvOk.nil) rfl Tryz.func51 rfl con51 604275 (by kernel_rfl) (by decide) (by decide) rfl (by decide) rfl (by
  rintro ⟨(a : Int), (b : Int), _⟩ hpre hwf X hT hG hk hK
  (simp -implicitDefEqProofs (maxSteps := 4000000) only [go_sem, con51, con73, hT, hG, hk, hK, Tryz.results51] at hwf ⊢); (try simp (disch := decide +kernel) only [drawn, true_and, and_true])
  unfold cmpV
  refine ⟨fun h => h.elim, fun h => h.elim, fun h => by rw [if_pos h], fun h => ⟨fun k => by rw [if_neg h, if_pos k], fun k => by rw [if_neg h, if_neg k]⟩⟩)
def con83 : Con := { ps := [.d false (.sl (.int .i64))], rs := [.d false (.int .i64)], pre := fun _ => True, out := fun x => (orV x.1, ()), nw := id }
theorem c83 : CtrOk Tryz.prog 83 con83.ctr :=
 con_sound (G := ⟨[], [], [], [], []⟩) tab_ok EnvOk.nil rfl Tryz.func83 rfl con83 17389 (by kernel_rfl) (by decide) (by decide) rfl (by decide) rfl (by
  rintro ⟨(l : List Int), _⟩ hpre hwf X hT hG hk hK
  (simp -implicitDefEqProofs (maxSteps := 4000000) only [go_sem, Bool.not_eq_true', Bool.not_eq_false', Bool.or_eq_true, Bool.or_eq_false_iff, Bool.and_eq_true, Bool.and_eq_false_iff, decide_eq_true_eq, decide_eq_false_iff_not, Classical.not_not, not_or, maxLen, con83, hT, hG, hk, hK, Tryz.results83] at hwf ⊢); (try simp (disch := decide +kernel) only [drawn, true_and, and_true])
  intro hl
  refine evk_loop ⟨{ i : Nat // i ≤ l.length ∧ orV l = orV (l.drop i) }, 1000, fun i => [(3, .one (.int .i64 0)), (6, .one (.sl (.int .i64) l false)), (7, .one (.int .i64 l.length)), (8, .one (.int .i64 i.1))], fun _ => [], fun i => l.length - i.1⟩ ⟨0, by simp, by simp⟩ ?_ ?_
  · simp only [go_sem]
    rfl
  · rintro ⟨i, (hi : i ≤ l.length), (he : orV l = orV (l.drop i))⟩
    (simp -implicitDefEqProofs (maxSteps := 4000000) only [go_sem, Bool.not_eq_true', Bool.not_eq_false', Bool.or_eq_true, Bool.or_eq_false_iff, Bool.and_eq_true, Bool.and_eq_false_iff, decide_eq_true_eq, decide_eq_false_iff_not, Classical.not_not, not_or, maxLen, con83, hT, hG, hk, hK, Tryz.results83]); (try simp (disch := decide +kernel) only [drawn, true_and, and_true])
    refine ⟨fun hlt => ?_, fun hge => ?_⟩
    · have hi' : i < l.length := by omega
      have ek : l.getD (i : Int).toNat 0 = l[i] := by simp [hi']
      rw [ek]
      have hst : orV l = if l[i] = 0 then orV (l.drop (i + 1)) else l[i] := by
       rw [he, List.drop_eq_getElem_cons hi', orV]
      (repeat' (with_reducible (first | refine And.intro ?_ ?_ | intro _))) <;> (try (first | with_reducible (first | done | assumption | omega | contradiction) | decide))
      all_goals rename_i h
      · first
         | rw [hst, if_neg h]
         | (refine fin_lp ⟨i + 1, by omega, ?_⟩ ?_ ?_
            · rw [hst, if_pos h]
            · simp only [go_sem]
              rfl
            · show l.length - (i + 1) < l.length - i
              omega)
    · rw [he, List.drop_of_length_le (by omega)]
      rfl)
def pltC (a b : Plt) : Int := lexC cmpV (lexC cmpV cmpV) a b
theorem pltC_cmp : Cmp pltC := cmpV_cmp.lex (cmpV_cmp.lex cmpV_cmp)
def con60 : Con := { ps := [.d true yPL, .d true yPL], rs := [.d false (.int .i64)], pre := fun _ => True, out := fun (x : Plt × Plt × Unit) => (pltC x.1 x.2.1, ()), nw := id }
theorem c60 : CtrOk Tryz.prog 60 con60.ctr :=
 con_sound (G := ⟨[(83, con83.ctr), (51, con51.ctr)], [], [], [], []⟩) tab_ok (EnvOk.cons c83 has83 (EnvOk.cons c51 has51 EnvOk.nil)) rfl Tryz.func60 rfl con60 31 (by kernel_rfl) (by decide) (by decide) rfl (by decide) rfl (by
  rintro ⟨⟨(a1 : Int), (a2 : Int), (a3 : Int)⟩, ⟨(b1 : Int), (b2 : Int), (b3 : Int)⟩, _⟩ hpre hwf X hT hG hk hK
  (simp -implicitDefEqProofs (maxSteps := 4000000) only [go_sem, Bool.not_eq_true', Bool.not_eq_false', Bool.or_eq_true, Bool.or_eq_false_iff, Bool.and_eq_true, Bool.and_eq_false_iff, decide_eq_true_eq, decide_eq_false_iff_not, Classical.not_not, not_or, maxLen, con60, con83, con51, hT, hG, hk, hK, Tryz.results60] at hwf ⊢); (try simp (disch := decide +kernel) only [drawn, true_and, and_true])
  (repeat' (with_reducible (first | refine And.intro ?_ ?_ | intro _))) <;> (try (first | with_reducible (first | done | assumption | omega | contradiction) | decide))
  unfold pltC lexC
  simp only [orV]
  (repeat' split) <;> first | rfl | omega)
def okPl (p : Plt) : Bool := inV p.1 0 9 && inV p.2.1 1 999 && inV p.2.2 0 999999
def okPc (x : Pce) : Bool := okPl x.1 && inV x.2.1 1 999 && inV x.2.2 0 4
def con88 : Con := { ps := [.d false (.int .i64), .d false (.int .i64), .d false (.int .i64)], rs := [.d false .bool], pre := fun _ => True, out := fun x => (inV x.1 x.2.1 x.2.2.1, ()), nw := id }
theorem c88 : CtrOk Tryz.prog 88 con88.ctr :=
 con_sound (G := ⟨[], [], [], [], []⟩) tab_ok EnvOk.nil rfl Tryz.func88 rfl con88 71 (by kernel_rfl) (by decide) (by decide) rfl (by decide) rfl (by
  rintro ⟨(n : Int), (a : Int), (b : Int), _⟩ hpre hwf X hT hG hk hK
  (simp -implicitDefEqProofs (maxSteps := 4000000) only [go_sem, Bool.not_eq_true', Bool.not_eq_false', Bool.or_eq_true, Bool.or_eq_false_iff, Bool.and_eq_true, Bool.and_eq_false_iff, decide_eq_true_eq, decide_eq_false_iff_not, Classical.not_not, not_or, maxLen, con88, hT, hG, hk, hK, Tryz.results88] at hwf ⊢); (try simp (disch := decide +kernel) only [drawn, true_and, and_true])
  (repeat' (with_reducible (first | refine And.intro ?_ ?_ | intro _))) <;> (try (first | with_reducible (first | done | assumption | omega | contradiction) | decide))
  rfl)
def con78 : Con := { ps := [.d true yPL], rs := [.d false .bool], pre := fun _ => True, out := fun (x : Plt × Unit) => (okPl x.1, ()), nw := id }
theorem c78 : CtrOk Tryz.prog 78 con78.ctr :=
 con_sound (G := ⟨[], [], [], [], []⟩) tab_ok EnvOk.nil rfl Tryz.func78 rfl con78 7 (by kernel_rfl) (by decide) (by decide) rfl (by decide) rfl (by
  rintro ⟨⟨(a : Int), (b : Int), (c : Int)⟩, _⟩ hpre hwf X hT hG hk hK
  (simp -implicitDefEqProofs (maxSteps := 4000000) only [go_sem, Bool.not_eq_true', Bool.not_eq_false', Bool.or_eq_true, Bool.or_eq_false_iff, Bool.and_eq_true, Bool.and_eq_false_iff, decide_eq_true_eq, decide_eq_false_iff_not, Classical.not_not, not_or, maxLen, con78, hT, hG, hk, hK, Tryz.results78] at hwf ⊢); (try simp (disch := decide +kernel) only [drawn, true_and, and_true])
  unfold okPl inV
  rw [Bool.eq_iff_iff]
  simp only [Bool.and_eq_true, decide_eq_true_eq]
  omega)
def con70 : Con := { ps := [.d true yPC], rs := [.d false .bool], pre := fun _ => True, out := fun (x : Pce × Unit) => (okPc x.1, ()), nw := id }
theorem c70 : CtrOk Tryz.prog 70 con70.ctr :=
 con_sound (G := ⟨[(88, con88.ctr), (78, con78.ctr)], [], [], [], []⟩) tab_ok (EnvOk.cons c88 has88 (EnvOk.cons c78 has78 EnvOk.nil)) rfl Tryz.func70 rfl con70 7 (by kernel_rfl) (by decide) (by decide) rfl (by decide) rfl (by
  rintro ⟨⟨⟨(a : Int), (b : Int), (c : Int)⟩, (d : Int), (e : Int)⟩, _⟩ hpre hwf X hT hG hk hK
  (simp -implicitDefEqProofs (maxSteps := 4000000) only [go_sem, Bool.not_eq_true', Bool.not_eq_false', Bool.or_eq_true, Bool.or_eq_false_iff, Bool.and_eq_true, Bool.and_eq_false_iff, decide_eq_true_eq, decide_eq_false_iff_not, Classical.not_not, not_or, maxLen, con70, con88, con78, hT, hG, hk, hK, Tryz.results70] at hwf ⊢); (try simp (disch := decide +kernel) only [drawn, true_and, and_true])
  unfold okPc
  generalize okPl (a, b, c) = q1
  generalize inV d 1 999 = q2
  generalize inV e 0 4 = q3
  cases q1 <;> cases q2 <;> cases q3 <;> simp)
def platesV (i : Int) : Plt := ((goMod i 1000).tdiv 500, 117 + ((goMod i 1000).tdiv 100).tmod 5, 1000 + (goMod i 1000).tmod 100)
def con28 : Con := { ps := [.d false (.int .i64)], rs := [.d true yPL], pre := fun _ => True, out := fun x => (platesV x.1, ()), nw := id }
theorem c28 : CtrOk Tryz.prog 28 con28.ctr :=
 con_sound (G := ⟨[(26, con26.ctr)], [], [], [], []⟩) tab_ok (EnvOk.cons c26 has26 EnvOk.nil) rfl Tryz.func28 rfl con28 5 (by kernel_rfl) (by decide) (by decide) rfl (by decide) rfl (by
  rintro ⟨(i : Int), _⟩ hpre hwf X hT hG hk hK
  (simp -implicitDefEqProofs (maxSteps := 4000000) only [go_sem, Bool.not_eq_true', Bool.not_eq_false', Bool.or_eq_true, Bool.or_eq_false_iff, Bool.and_eq_true, Bool.and_eq_false_iff, decide_eq_true_eq, decide_eq_false_iff_not, Classical.not_not, not_or, maxLen, con28, con26, hT, hG, hk, hK, Tryz.results28] at hwf ⊢); (try simp (disch := decide +kernel) only [drawn, true_and, and_true])
  have hb := goMod_bd i 1000 (by omega)
  have := tmod_bd ((goMod i 1000).tdiv 100) 5 (by omega)
  have := tmod_bd (goMod i 1000) 100 (by omega)
  have : 0 ≤ (goMod i 1000).tdiv 500 := Int.tdiv_nonneg hb.1 (by omega)
  have : (goMod i 1000).tdiv 500 ≤ goMod i 1000 := Int.tdiv_le_self 500 hb.1
  have : 0 ≤ (goMod i 1000).tdiv 100 := Int.tdiv_nonneg hb.1 (by omega)
  have : (goMod i 1000).tdiv 100 ≤ goMod i 1000 := Int.tdiv_le_self 100 hb.1
  (repeat' (with_reducible (first | refine And.intro ?_ ?_ | intro _))) <;> (try (first | with_reducible (first | done | assumption | omega | contradiction) | decide))
  all_goals rfl)
theorem step_pos {s : Src} (h : 0 ≤ s.2) : 0 ≤ (Src.step s).2 := Src.step_pos s h
def con31 : Con := { ps := [.p 62 ySR, .d false (.int .i64)], rs := [.d true yPL], pre := fun x => 0 ≤ x.1.2, out := fun x => (platesV (goMod (Src.raw x.1) x.2.1), ()), nw := fun x => (Src.step x.1, x.2) }
theorem c31 : CtrOk Tryz.prog 31 con31.ctr :=
 con_sound (G := ⟨[(12, con12.ctr), (28, con28.ctr)], [], [], [], []⟩) tab_ok (EnvOk.cons c12 has12 (EnvOk.cons c28 has28 EnvOk.nil)) rfl Tryz.func31 rfl con31 19 (by kernel_rfl) (by decide) (by decide) rfl (by decide) rfl (by
  rintro ⟨⟨(s : List Int), (a : Int)⟩, (n : Int), _⟩ hpre hwf X hT hG hk hK
  (simp -implicitDefEqProofs (maxSteps := 4000000) only [go_sem, Bool.not_eq_true', Bool.not_eq_false', Bool.or_eq_true, Bool.or_eq_false_iff, Bool.and_eq_true, Bool.and_eq_false_iff, decide_eq_true_eq, decide_eq_false_iff_not, Classical.not_not, not_or, maxLen, con31, con12, con28, hT, hG, hk, hK, Tryz.results31] at hwf ⊢); (try simp (disch := decide +kernel) only [drawn, true_and, and_true])
  exact hpre)
def con27 : Con := { ps := [.p 62 ySR, .d false (.sl (.int .i64))], rs := [.d false (.int .i64)], pre := fun (x : Src × List Int × Unit) => 0 ≤ x.1.2 ∧ 0 < x.2.1.length, out := fun (x : Src × List Int × Unit) => (x.2.1.getD (goMod (Src.raw x.1) x.2.1.length).toNat 0, ()), nw := fun x => (Src.step x.1, x.2) }
theorem c27 : CtrOk Tryz.prog 27 con27.ctr :=
 con_sound (G := ⟨[(12, con12.ctr)], [], [], [], []⟩) tab_ok (EnvOk.cons c12 has12 EnvOk.nil) rfl Tryz.func27 rfl con27 19 (by kernel_rfl) (by decide) (by decide) rfl (by decide) rfl (by
  rintro ⟨⟨(s : List Int), (a : Int)⟩, (l : List Int), _⟩ hpre hwf X hT hG hk hK
  (simp -implicitDefEqProofs (maxSteps := 4000000) only [go_sem, Bool.not_eq_true', Bool.not_eq_false', Bool.or_eq_true, Bool.or_eq_false_iff, Bool.and_eq_true, Bool.and_eq_false_iff, decide_eq_true_eq, decide_eq_false_iff_not, Classical.not_not, not_or, maxLen, con27, con12, hT, hG, hk, hK, Tryz.results27] at hwf ⊢); (try simp (disch := decide +kernel) only [drawn, true_and, and_true])
  obtain ⟨h1, h2⟩ : 0 ≤ a ∧ 0 < l.length := hpre
  have hb := goMod_bd (Src.raw (s, a)) l.length (by omega)
  (repeat' (with_reducible (first | refine And.intro ?_ ?_ | intro _))) <;> (try (first | with_reducible (first | done | assumption | omega | contradiction) | decide)))
theorem platesV_ok (i : Int) : okPl (platesV i) = true := by
 have hb := goMod_bd i 1000 (by omega)
 have h1 : 0 ≤ (goMod i 1000).tdiv 100 := Int.tdiv_nonneg hb.1 (by omega)
 have h2 : 0 ≤ ((goMod i 1000).tdiv 100).tmod 5 := Int.tmod_nonneg 5 h1
 have h3 := tmod_bd ((goMod i 1000).tdiv 100) 5 (by omega)
 have h4 : 0 ≤ (goMod i 1000).tmod 100 := Int.tmod_nonneg 100 hb.1
 have h5 := tmod_bd (goMod i 1000) 100 (by omega)
 have h6 : 0 ≤ (goMod i 1000).tdiv 500 := Int.tdiv_nonneg hb.1 (by omega)
 have h7 : (goMod i 1000).tdiv 500 ≤ 9 := by
  rw [Int.tdiv_eq_ediv_of_nonneg hb.1]; omega
 unfold okPl platesV inV
 simp only [Bool.and_eq_true, decide_eq_true_eq]
 omega
def pieceV (s : Src) (n : Int) : Pce := (platesV (goMod (Src.raw s) n), 1 + goMod (Src.raw (Src.step s)) 40, [0, 0, 0, 1, 1, 2, 3, 4].getD (goMod (Src.raw (Src.step (Src.step s))) 8).toNat 0)
def con29 : Con := { ps := [.p 62 ySR, .d false (.int .i64)], rs := [.d true yPC], pre := fun (x : Src × Int × Unit) => 0 ≤ x.1.2, out := fun (x : Src × Int × Unit) => (pieceV x.1 x.2.1, ()), nw := fun (x : Src × Int × Unit) => (Src.step (Src.step (Src.step x.1)), x.2) }
theorem c29 : CtrOk Tryz.prog 29 con29.ctr :=
 con_sound (G := ⟨[(12, con12.ctr), (27, con27.ctr), (31, con31.ctr)], [], [], [], []⟩) tab_ok (EnvOk.cons c12 has12 (EnvOk.cons c27 has27 (EnvOk.cons c31 has31 EnvOk.nil))) rfl Tryz.func29 rfl con29 19 (by kernel_rfl) (by decide) (by decide) rfl (by decide) rfl (by
  rintro ⟨⟨(s : List Int), (a : Int)⟩, (n : Int), _⟩ hpre hwf X hT hG hk hK
  (simp -implicitDefEqProofs (maxSteps := 4000000) only [go_sem, Bool.not_eq_true', Bool.not_eq_false', Bool.or_eq_true, Bool.or_eq_false_iff, Bool.and_eq_true, Bool.and_eq_false_iff, decide_eq_true_eq, decide_eq_false_iff_not, Classical.not_not, not_or, maxLen, con29, con12, con27, con31, hT, hG, hk, hK, Tryz.results29] at hwf ⊢); (try simp (disch := decide +kernel) only [drawn, true_and, and_true])
  have h1 : 0 ≤ a := hpre
  have hs1 : 0 ≤ (Src.step (s, a)).snd := step_pos h1
  have hs2 : 0 ≤ (Src.step (s, a)).step.snd := step_pos hs1
  have hs3 : 0 ≤ (Src.step (s, a)).step.step.snd := step_pos hs2
  have hA := goMod_bd (Src.step (s, a)).raw 40 (by omega)
  (repeat' (with_reducible (first | refine And.intro ?_ ?_ | intro _))) <;> (try (first | with_reducible (first | done | assumption | omega | contradiction) | decide))
  all_goals try rfl)
def strs3 : List ByteArray := [⟨#[66, 65]⟩, ⟨#[76, 72]⟩, ⟨#[83, 75]⟩]
def fltsV (n : Int) : Flt := (strs3.getD (goMod n 27 / 9).toNat ByteArray.empty, 1 + goMod n 27 / 3 % 3, ByteArray.empty, 1 + goMod n 27 % 3)
def con11 : Con := { ps := [.d false (.int .i64)], rs := [.d true yFL], pre := fun _ => True, out := fun x => (fltsV x.1, ()), nw := id }
theorem c11 : CtrOk Tryz.prog 11 con11.ctr :=
 con_sound (G := ⟨[(26, con26.ctr)], [], [], [], []⟩) tab_ok (EnvOk.cons c26 has26 EnvOk.nil) rfl Tryz.func11 rfl con11 5 (by kernel_rfl) (by decide) (by decide) rfl (by decide) rfl (by
  rintro ⟨(n : Int), _⟩ hpre hwf X hT hG hk hK
  (simp -implicitDefEqProofs (maxSteps := 4000000) only [go_sem, Bool.not_eq_true', Bool.not_eq_false', Bool.or_eq_true, Bool.or_eq_false_iff, Bool.and_eq_true, Bool.and_eq_false_iff, decide_eq_true_eq, decide_eq_false_iff_not, Classical.not_not, not_or, maxLen, con11, con26, hT, hG, hk, hK, Tryz.results11] at hwf ⊢); (try simp (disch := decide +kernel) only [drawn, true_and, and_true])
  have hb := goMod_bd n 27 (by omega)
  have e : fltsV n = (strs3.getD (goMod n 27 / 9).toNat ByteArray.empty, 1 + goMod n 27 / 3 % 3, ByteArray.empty, 1 + goMod n 27 % 3) := rfl
  rw [e]
  generalize goMod n 27 = k at hb ⊢
  have e1 : k.tdiv 9 = k / 9 := Int.tdiv_eq_ediv_of_nonneg hb.1
  have e2 : k.tdiv 3 = k / 3 := Int.tdiv_eq_ediv_of_nonneg hb.1
  have e3 : k.tmod 3 = k % 3 := Int.tmod_eq_emod_of_nonneg hb.1
  have e4 : (k / 3).tmod 3 = k / 3 % 3 := Int.tmod_eq_emod_of_nonneg (by omega)
  simp only [e1, e2, e3, e4]
  (repeat' (with_reducible (first | refine And.intro ?_ ?_ | intro _))) <;> (try (first | with_reducible (first | done | assumption | omega | contradiction) | decide))
  all_goals rfl)
end Go.Proofs.YteheklpenjjfaaaGreat

/- Containers: what is valid, what they hold. -/
set_option linter.unusedSimpArgs false
set_option linter.unusedVariables false
set_option maxRecDepth 100000
set_option maxHeartbeats 4000000
namespace Go.Proofs.YteheklpenjjfaaaGreat
open Go.Ev

/-- The first number that is not 0. -/
def fErr (f : Nat → Int) (n : Nat) : Int := (((List.range n).map f).find? (fun e => decide (e ≠ 0))).getD 0
theorem fErr_err {f : Nat → Int} {n i : Nat} (h : ∀ k, k < i → f k = 0) (hi : i < n) (he : f i ≠ 0) : fErr f n = f i := by
 unfold fErr
 have e0 : List.range n = List.range i ++ (i :: (List.range n).drop (i + 1)) :=
  (List.take_append_drop i (List.range n)).symm.trans (by rw [List.take_range, Nat.min_eq_left (by omega), List.drop_eq_getElem_cons (i := i) (by simpa using hi), List.getElem_range])
 obtain ⟨D, hD⟩ : ∃ D, (List.range n).drop (i + 1) = D := ⟨_, rfl⟩
 rw [hD] at e0
 have e : (List.range n).map f = (List.range i).map f ++ (f i :: D.map f) := by
  rw [e0, List.map_append, List.map_cons]
 rw [e, List.find?_append]
 have e2 : ((List.range i).map f).find? (fun e => decide (e ≠ 0)) = none := by
  rw [List.find?_eq_none]
  intro x hx
  obtain ⟨k, hk, rfl⟩ := List.mem_map.1 hx
  rw [h k (List.mem_range.1 hk)]
  simp
 rw [e2]
 simp [he]
theorem fErr_ok {f : Nat → Int} {n : Nat} (h : ∀ k, k < n → f k = 0) : fErr f n = 0 := by
 unfold fErr
 have e2 : ((List.range n).map f).find? (fun e => decide (e ≠ 0)) = none := by
  rw [List.find?_eq_none]
  intro x hx
  obtain ⟨k, hk, rfl⟩ := List.mem_map.1 hx
  rw [h k (List.mem_range.1 hk)]
  simp
 rw [e2]; rfl
theorem fErr_zero {f : Nat → Int} {n : Nat} (h : fErr f n = 0) : ∀ k, k < n → f k = 0 := by
 intro k
 induction k using Nat.strongRecOn with
 | ind k ih =>
   intro hk
   apply Classical.byContradiction
   intro hne
   rw [fErr_err (fun j hj => ih j hj (by omega)) hk hne] at h
   exact hne h
abbrev Cnt := Int × Flt × Int × Int × Int × Int × Int × List Pce
abbrev Cnt.num (c : Cnt) : Int := c.1
abbrev Cnt.flt (c : Cnt) : Flt := c.2.1
abbrev Cnt.cats (c : Cnt) : Int := c.2.2.1
abbrev Cnt.lim (c : Cnt) : Int := c.2.2.2.1
abbrev Cnt.most (c : Cnt) : Int := c.2.2.2.2.1
abbrev Cnt.pos (c : Cnt) : Int := c.2.2.2.2.2.1
abbrev Cnt.arm (c : Cnt) : Int := c.2.2.2.2.2.2.1
abbrev Cnt.pcs (c : Cnt) : List Pce := c.2.2.2.2.2.2.2
def pc0 : Pce := ((0, 0, 0), 0, 0)
def ct0 : Cnt := (0, (ByteArray.empty, 0, ByteArray.empty, 0), 0, 0, 0, 0, 0, [])
def propC (c : Cnt) : Bool := inV c.num 1 999 && fltOk c.flt && inV c.cats 0 31 && inV c.lim 0 20000 && inV c.most 0 60 && inV c.pos 0 24 && inV c.arm (-50) 50
def con69 : Con := { ps := [.d true yCT], rs := [.d false .bool], pre := fun _ => True, out := fun (x : Cnt × Unit) => (propC x.1, ()), nw := id }
theorem c69 : CtrOk Tryz.prog 69 con69.ctr :=
 con_sound (G := ⟨[(88, con88.ctr), (89, con89.ctr)], [], [], [], []⟩) tab_ok (EnvOk.cons c88 has88 (EnvOk.cons c89 has89 EnvOk.nil)) rfl Tryz.func69 rfl con69 7 (by kernel_rfl) (by decide) (by decide) rfl (by decide) rfl (by
  rintro ⟨⟨(n : Int), ⟨a1, (a2 : Int), a3, (a4 : Int)⟩, (c : Int), (l : Int), (t : Int), (p : Int), (r : Int), (ps : List Pce)⟩, _⟩ hpre hwf X hT hG hk hK
  (simp -implicitDefEqProofs (maxSteps := 4000000) only [go_sem, Bool.not_eq_true', Bool.not_eq_false', Bool.or_eq_true, Bool.or_eq_false_iff, Bool.and_eq_true, Bool.and_eq_false_iff, decide_eq_true_eq, decide_eq_false_iff_not, Classical.not_not, not_or, maxLen, con69, con88, con89, hT, hG, hk, hK, Tryz.results69] at hwf ⊢); (try simp (disch := decide +kernel) only [drawn, true_and, and_true])
  unfold propC
  clear hwf hpre hT hG hk hK
  generalize inV n 1 999 = q1
  generalize fltOk (a1, a2, a3, a4) = q2
  generalize inV c 0 31 = q3
  generalize inV l 0 20000 = q4
  generalize inV t 0 60 = q5
  generalize inV p 0 24 = q6
  generalize inV r (-50) 50 = q7
  cases q1 <;> cases q2 <;> cases q3 <;> cases q4 <;> cases q5 <;> cases q6 <;> cases q7 <;> simp)
def pcErr (l : List Pce) (i : Nat) : Int :=
 if okPc (l.getD i pc0) = false then 1 else if i = 0 then 0 else if pltC (l.getD (i - 1) pc0).1 (l.getD i pc0).1 = 0 then 5 else if pltC (l.getD (i - 1) pc0).1 (l.getD i pc0).1 = 1 then 9 else 0
def ctErr (c : Cnt) : Int := if propC c = false then 1 else if 60 < c.pcs.length then 2 else fErr (pcErr c.pcs) c.pcs.length
theorem pcErr_1 {l : List Pce} {i : Nat} (h : okPc (l.getD i pc0) = false) : pcErr l i = 1 := by unfold pcErr; rw [if_pos h]
theorem pcErr_f {l : List Pce} {i : Nat} (h : okPc (l.getD i pc0) = true) (h0 : i = 0) : pcErr l i = 0 := by
 unfold pcErr; rw [if_neg (by rw [h]; simp), if_pos h0]
theorem pcErr_5 {l : List Pce} {i : Nat} (h : okPc (l.getD i pc0) = true) (h0 : ¬ i = 0) (hc : pltC (l.getD (i - 1) pc0).1 (l.getD i pc0).1 = 0) : pcErr l i = 5 := by
 unfold pcErr; rw [if_neg (by rw [h]; simp), if_neg h0, if_pos hc]
theorem pcErr_9 {l : List Pce} {i : Nat} (h : okPc (l.getD i pc0) = true) (h0 : ¬ i = 0) (hc : pltC (l.getD (i - 1) pc0).1 (l.getD i pc0).1 = 1) : pcErr l i = 9 := by
 unfold pcErr; rw [if_neg (by rw [h]; simp), if_neg h0, if_neg (by rw [hc]; decide), if_pos hc]
theorem pcErr_0 {l : List Pce} {i : Nat} (h : okPc (l.getD i pc0) = true) (h0 : ¬ i = 0) (hc : ¬ pltC (l.getD (i - 1) pc0).1 (l.getD i pc0).1 = 0) (hd : ¬ pltC (l.getD (i - 1) pc0).1 (l.getD i pc0).1 = 1) : pcErr l i = 0 := by
 unfold pcErr; rw [if_neg (by rw [h]; simp), if_neg h0, if_neg hc, if_neg hd]
theorem ctErr_zero {c : Cnt} (h : ctErr c = 0) : propC c = true ∧ c.pcs.length ≤ 60 ∧ ∀ i, i < c.pcs.length → okPc (c.pcs.getD i pc0) = true ∧ (0 < i → pltC (c.pcs.getD (i - 1) pc0).1 (c.pcs.getD i pc0).1 < 0) := by
 unfold ctErr at h
 split at h
 · omega
 · rename_i h1
   split at h
   · omega
   · rename_i h2
     refine ⟨by simpa using h1, by omega, fun i hi => ?_⟩
     have := fErr_zero h i hi
     unfold pcErr at this
     split at this
     · omega
     · rename_i h3
       refine ⟨by simpa using h3, fun h0 => ?_⟩
       rw [if_neg (by omega)] at this
       split at this
       · omega
       · split at this
         · omega
         · have := pltC_cmp.unit (c.pcs.getD (i - 1) pc0).1 (c.pcs.getD i pc0).1
           omega
def con46 : Con := { ps := [.d true yCT], rs := [.d false (.int .i64)], pre := fun _ => True, out := fun (x : Cnt × Unit) => (ctErr x.1, ()), nw := id }
theorem c46 : CtrOk Tryz.prog 46 con46.ctr :=
 con_sound (G := ⟨[(69, con69.ctr), (70, con70.ctr), (60, con60.ctr)], [], [], [], []⟩) tab_ok (EnvOk.cons c69 has69 (EnvOk.cons c70 has70 (EnvOk.cons c60 has60 EnvOk.nil))) rfl Tryz.func46 rfl con46 188999657631 (by kernel_rfl) (by decide) (by decide) rfl (by decide) rfl (by
  rintro ⟨⟨(n : Int), ⟨a1, (a2 : Int), a3, (a4 : Int)⟩, (c : Int), (lm : Int), (t : Int), (p : Int), (r : Int), (l : List Pce)⟩, _⟩ hpre hwf X hT hG hk hK
  (simp -implicitDefEqProofs (maxSteps := 4000000) only [go_sem, Bool.not_eq_true', Bool.not_eq_false', Bool.or_eq_true, Bool.or_eq_false_iff, Bool.and_eq_true, Bool.and_eq_false_iff, decide_eq_true_eq, decide_eq_false_iff_not, Classical.not_not, not_or, maxLen, con46, con69, con70, con60, hT, hG, hk, hK, Tryz.results46] at hwf ⊢); (try simp (disch := decide +kernel) only [drawn, true_and, and_true])
  clear hwf
  refine ⟨fun h => ?_, fun h _ => ⟨fun h2 => ?_, fun h2 _ => ?_⟩⟩
  · unfold ctErr; rw [if_pos h]
  · unfold ctErr; rw [if_neg (by rw [h]; simp), if_pos (by show 60 < l.length; omega)]
  · have e0 : ctErr (n, (a1, a2, a3, a4), c, lm, t, p, r, l) = fErr (pcErr l) l.length := by
     unfold ctErr; rw [if_neg (by rw [h]; simp), if_neg (by show ¬ 60 < l.length; omega)]
    refine evk_loop ⟨{ i : Nat // i ≤ l.length ∧ ∀ k, k < i → pcErr l k = 0 }, 1000, fun q => [(1, .one (.loc 70 0)), (2, .one (.int .i64 0)), (13, .one (.sl yPC l false)), (14, .one (.int .i64 l.length)), (15, .one (.int .i64 q.1))], fun q => [(70, .cells 44 [.int .i64 n, .str a1, .int .i64 a2, .str a3, .int .i64 a4, .int .i64 c, .int .i64 lm, .int .i64 t, .int .i64 p, .int .i64 r, .sl yPC l false])], fun q => l.length - q.1⟩ ⟨0, by omega, fun k hk => by omega⟩ ?_ ?_
    · simp only [go_sem]
      try (first | rfl | exact ⟨rfl, rfl⟩ | (and_intros <;> first | rfl | omega))
    · rintro ⟨i, (hi : i ≤ l.length), (hz : ∀ k, k < i → pcErr l k = 0)⟩
      have he := fErr_err (f := pcErr l) (n := l.length) (i := i) hz
      (simp -implicitDefEqProofs (maxSteps := 4000000) only [go_sem, Bool.not_eq_true', Bool.not_eq_false', Bool.or_eq_true, Bool.or_eq_false_iff, Bool.and_eq_true, Bool.and_eq_false_iff, decide_eq_true_eq, decide_eq_false_iff_not, Classical.not_not, not_or, maxLen, con46, con69, con70, con60, hT, hG, hk, hK, Tryz.results46]); (try simp (disch := decide +kernel) only [drawn, true_and, and_true])
      obtain ⟨o, ho⟩ : ∃ o, l.getD i pc0 = o := ⟨_, rfl⟩
      obtain ⟨u, hu⟩ : ∃ u, l.getD (i - 1) pc0 = u := ⟨_, rfl⟩
      have eo : l.getD (i : Int).toNat ((0, 0, 0), 0, 0) = o := ho
      have eu : l.getD ((i : Int) - 1).toNat ((0, 0, 0), 0, 0) = u := by rw [show ((i : Int) - 1).toNat = i - 1 by omega]; exact hu
      rw [eo, eu]
      have nx : pcErr l i = 0 → ∀ k, k < i + 1 → pcErr l k = 0 := fun h k hk => by
       by_cases e : k = i
       · subst e; exact h
       · exact hz k (by omega)
      (repeat' (with_reducible (first | refine And.intro ?_ ?_ | intro _))) <;> (try (first | with_reducible (first | done | assumption | omega | contradiction) | decide))
      all_goals first
       | (have h1 : okPc o = false := by assumption
          rw [e0, he (by omega) (by rw [pcErr_1 (ho ▸ h1)]; decide), pcErr_1 (ho ▸ h1)]; done)
       | (have h1 : okPc o = true := by assumption
          have h3 : pltC u.1 o.1 = 0 := by assumption
          have e5 := pcErr_5 (ho ▸ h1) (by omega) (by rw [hu, ho]; exact h3)
          rw [e0, he (by omega) (by rw [e5]; decide), e5]; done)
       | (have h1 : okPc o = true := by assumption
          have h3 : pltC u.1 o.1 = 1 := by assumption
          have e5 := pcErr_9 (ho ▸ h1) (by omega) (by rw [hu, ho]; exact h3)
          rw [e0, he (by omega) (by rw [e5]; decide), e5]; done)
       | (have h1 : okPc o = true := by assumption
          have h0 : (i : Int) = 0 := by assumption
          refine fin_lp ⟨i + 1, by omega, nx (pcErr_f (ho ▸ h1) (by omega))⟩ ?_ (by dsimp only; omega)
          simp only [go_sem]
          try (first | rfl | exact ⟨rfl, rfl⟩ | (and_intros <;> first | rfl | omega)))
       | (have h1 : okPc o = true := by assumption
          have h3 : ¬ pltC u.1 o.1 = 0 := by assumption
          have h4 : ¬ pltC u.1 o.1 = 1 := by assumption
          refine fin_lp ⟨i + 1, by omega, nx (pcErr_0 (ho ▸ h1) (by omega) (by rw [hu, ho]; exact h3) (by rw [hu, ho]; exact h4))⟩ ?_ (by dsimp only; omega)
          simp only [go_sem]
          try (first | rfl | exact ⟨rfl, rfl⟩ | (and_intros <;> first | rfl | omega)))
       | (rw [e0, fErr_ok (fun k hk => hz k (by omega))]; done)
       | skip)
end Go.Proofs.YteheklpenjjfaaaGreat

/- Containers: what they hold; sums of weights. -/
set_option linter.unusedSimpArgs false
set_option linter.unusedVariables false
set_option maxRecDepth 100000
set_option maxHeartbeats 4000000
namespace Go.Proofs.YteheklpenjjfaaaGreat
open Go.Ev

/-- The place of the first element with a property, or -1. -/
def idxV {α : Type} (p : α → Bool) (l : List α) : Int := match l.findIdx? p with | some i => i | none => -1
theorem getD_lt {α : Type} {l : List α} {i : Nat} {d : α} (h : i < l.length) : l.getD i d = l[i] := by simp [h]
theorem idxV_at {α : Type} {p : α → Bool} {l : List α} {d : α} {i : Nat} (hz : ∀ k, k < i → p (l.getD k d) = false) (hi : i < l.length) (h : p (l.getD i d) = true) : idxV p l = i := by
 unfold idxV
 have : l.findIdx? p = some i := by
  rw [List.findIdx?_eq_some_iff_getElem]
  refine ⟨hi, by rw [← getD_lt hi (d := d)]; exact h, fun j hj => ?_⟩
  have := hz j hj
  rw [getD_lt (by omega)] at this
  simp [this]
 rw [this]
theorem idxV_none {α : Type} {p : α → Bool} {l : List α} {d : α} (hz : ∀ k, k < l.length → p (l.getD k d) = false) : idxV p l = -1 := by
 unfold idxV
 have : l.findIdx? p = none := by
  rw [List.findIdx?_eq_none_iff]
  intro x hx
  obtain ⟨k, hk, rfl⟩ := List.getElem_of_mem hx
  rw [← getD_lt hk (d := d)]; exact hz k hk
 rw [this]
theorem idxV_lt {α : Type} (p : α → Bool) (l : List α) : -1 ≤ idxV p l ∧ idxV p l < l.length := by
 unfold idxV
 split
 · rename_i i h
   obtain ⟨h1, _⟩ := List.findIdx?_eq_some_iff_getElem.1 h
   omega
 · omega
theorem idxV_spec {α : Type} {p : α → Bool} {l : List α} {d : α} (h : 0 ≤ idxV p l) : (idxV p l).toNat < l.length ∧ p (l.getD (idxV p l).toNat d) = true ∧ ∀ k, k < (idxV p l).toNat → p (l.getD k d) = false := by
 unfold idxV at h ⊢
 split at h
 · rename_i i hi
   try simp only [hi]
   obtain ⟨h1, h2, h3⟩ := List.findIdx?_eq_some_iff_getElem.1 hi
   refine ⟨by omega, by rw [show ((i : Int)).toNat = i by omega, getD_lt h1]; exact h2, fun k hk => ?_⟩
   have := h3 k (by omega)
   rw [getD_lt (by omega)]
   simpa using this
 · omega
theorem idxV_neg {α : Type} {p : α → Bool} {l : List α} (h : idxV p l < 0) : ∀ x ∈ l, p x = false := by
 unfold idxV at h
 split at h
 · omega
 · rename_i hi
   rw [List.findIdx?_eq_none_iff] at hi
   intro x hx
   simpa using hi x hx
theorem any_at {α : Type} {p : α → Bool} {l : List α} {d : α} {i : Nat} (hi : i < l.length) (h : p (l.getD i d) = true) : l.any p = true := by
 rw [List.any_eq_true]; exact ⟨l[i], List.getElem_mem hi, by rw [← getD_lt hi (d := d)]; exact h⟩
theorem any_none {α : Type} {p : α → Bool} {l : List α} {d : α} (hz : ∀ k, k < l.length → p (l.getD k d) = false) : l.any p = false := by
 rw [List.any_eq_false]
 intro x hx
 obtain ⟨k, hk, rfl⟩ := List.getElem_of_mem hx
 rw [← getD_lt hk (d := d), hz k hk]; simp
theorem lt_succ {P : Nat → Prop} {i : Nat} (hz : ∀ k, k < i → P k) (h : P i) : ∀ k, k < i + 1 → P k := fun k hk => by
 by_cases e : k = i
 · subst e; exact h
 · exact hz k (by omega)
theorem getD_mem {α : Type} {l : List α} {i : Nat} {d : α} (h : i < l.length) : l.getD i d ∈ l := by rw [getD_lt h]; exact List.getElem_mem h
theorem mem_getD {α : Type} {l : List α} {x : α} {d : α} (h : x ∈ l) : ∃ k, k < l.length ∧ l.getD k d = x := by
 obtain ⟨k, hk, e⟩ := List.getElem_of_mem h
 exact ⟨k, hk, by rw [getD_lt hk]; exact e⟩

def holdsV (c : Cnt) (p : Plt) : Bool := c.pcs.any (fun x => decide (x.1 = p))
theorem plt_eq {a b : Plt} : (a.1 = b.1 ∧ a.2.1 = b.2.1 ∧ a.2.2 = b.2.2) ↔ a = b := ⟨fun h => Prod.ext h.1 (Prod.ext h.2.1 h.2.2), fun h => by rw [h]; exact ⟨rfl, rfl, rfl⟩⟩
def con87 : Con := { ps := [.d true yCT, .d true yPL], rs := [.d false .bool], pre := fun _ => True, out := fun (x : Cnt × Plt × Unit) => (holdsV x.1 x.2.1, ()), nw := id }
theorem c87 : CtrOk Tryz.prog 87 con87.ctr :=
 con_sound (G := ⟨[], [], [], [], []⟩) tab_ok EnvOk.nil rfl Tryz.func87 rfl con87 135007 (by kernel_rfl) (by decide) (by decide) rfl (by decide) rfl (by
  rintro ⟨⟨(n : Int), ⟨a1, (a2 : Int), a3, (a4 : Int)⟩, (c : Int), (lm : Int), (t : Int), (p : Int), (r : Int), (l : List Pce)⟩, ⟨(p1 : Int), (p2 : Int), (p3 : Int)⟩, _⟩ hpre hwf X hT hG hk hK
  (simp -implicitDefEqProofs (maxSteps := 4000000) only [go_sem, Bool.not_eq_true', Bool.not_eq_false', Bool.or_eq_true, Bool.or_eq_false_iff, Bool.and_eq_true, Bool.and_eq_false_iff, decide_eq_true_eq, decide_eq_false_iff_not, Classical.not_not, not_or, maxLen, con87, hT, hG, hk, hK, Tryz.results87] at hwf ⊢); (try simp (disch := decide +kernel) only [drawn, true_and, and_true])
  clear hwf
  refine fun _ => evk_loop ⟨{ i : Nat // i ≤ l.length ∧ ∀ k, k < i → (fun x : Pce => decide (x.1 = ((p1, p2, p3) : Plt))) (l.getD k pc0) = false }, 1000, fun q => [(3, .one (.loc 71 0)), (4, .one (.bool false)), (8, .one (.sl yPC l false)), (9, .one (.int .i64 l.length)), (10, .one (.int .i64 q.1))], fun q => [(71, .cells 65 [.int .i64 p1, .int .i64 p2, .int .i64 p3])], fun q => l.length - q.1⟩ ⟨0, by omega, fun k hk => by omega⟩ ?_ ?_
  · simp only [go_sem]
    try (first | rfl | exact ⟨rfl, rfl⟩ | (and_intros <;> first | trivial | rfl | omega))
  · rintro ⟨i, (hi : i ≤ l.length), hz⟩
    (simp -implicitDefEqProofs (maxSteps := 4000000) only [go_sem, Bool.not_eq_true', Bool.not_eq_false', Bool.or_eq_true, Bool.or_eq_false_iff, Bool.and_eq_true, Bool.and_eq_false_iff, decide_eq_true_eq, decide_eq_false_iff_not, Classical.not_not, not_or, maxLen, con87, hT, hG, hk, hK, Tryz.results87]); (try simp (disch := decide +kernel) only [drawn, true_and, and_true])
    obtain ⟨o, ho⟩ : ∃ o, l.getD i pc0 = o := ⟨_, rfl⟩
    have eo : l.getD (i : Int).toNat ((0, 0, 0), 0, 0) = o := ho
    rw [eo]
    have hq := plt_eq (a := o.1) (b := (p1, p2, p3))
    simp only at hq
    (repeat' (with_reducible (first | refine And.intro ?_ ?_ | intro _))) <;> (try (first | with_reducible (first | done | assumption | omega | contradiction) | decide))
    all_goals first
     | (have h : o.1.1 = p1 ∧ o.1.2.1 = p2 ∧ o.1.2.2 = p3 := by first | assumption | (and_intros <;> assumption)
        exact (any_at (l := l) (p := fun x : Pce => decide (x.1 = ((p1, p2, p3) : Plt))) (d := pc0) (i := i) (by omega) (by rw [ho]; simp [hq.1 h])).symm)
     | (have h : ¬ o.1.1 = p1 ∨ ¬ o.1.2.1 = p2 ∨ ¬ o.1.2.2 = p3 := by assumption
        have hn : ¬ o.1 = (p1, p2, p3) := fun e => by rw [e] at h; simp at h
        refine fin_lp ⟨i + 1, by omega, lt_succ hz (by show decide ((l.getD i pc0).1 = ((p1, p2, p3) : Plt)) = false; rw [ho]; exact decide_eq_false hn)⟩ (by simp only [go_sem]; first | rfl | ((repeat' apply And.intro) <;> first | rfl | assumption | omega)) (by dsimp only; omega)
        done)
     | exact (any_none (l := l) (p := fun x : Pce => decide (x.1 = ((p1, p2, p3) : Plt))) (d := pc0) fun k hk => hz k (by omega)).symm
     | skip)
def findV (l : List Cnt) (p : Plt) : Int × Bool := if 0 ≤ idxV (fun c => holdsV c p) l then ((l.getD (idxV (fun c => holdsV c p) l).toNat ct0).num, true) else (0, false)
theorem findV_at {l : List Cnt} {p : Plt} {i : Nat} (hz : ∀ k, k < i → holdsV (l.getD k ct0) p = false) (hi : i < l.length) (h : holdsV (l.getD i ct0) p = true) : findV l p = ((l.getD i ct0).num, true) := by
 unfold findV
 rw [idxV_at (d := ct0) hz hi h, if_pos (by omega)]
 rfl
theorem findV_none {l : List Cnt} {p : Plt} (hz : ∀ k, k < l.length → holdsV (l.getD k ct0) p = false) : findV l p = (0, false) := by
 unfold findV
 rw [idxV_none (d := ct0) hz, if_neg (by omega)]
def con68 : Con := { ps := [.d false (.sl yCT), .d true yPL], rs := [.d false (.int .i64), .d false .bool], pre := fun _ => True, out := fun (x : List Cnt × Plt × Unit) => ((findV x.1 x.2.1).1, (findV x.1 x.2.1).2, ()), nw := id }
theorem c68 : CtrOk Tryz.prog 68 con68.ctr :=
 con_sound (G := ⟨[(87, con87.ctr)], [], [], [], []⟩) tab_ok (EnvOk.cons c87 has87 EnvOk.nil) rfl Tryz.func68 rfl con68 69563 (by kernel_rfl) (by decide) (by decide) rfl (by decide) rfl (by
  rintro ⟨(l : List Cnt), ⟨(p1 : Int), (p2 : Int), (p3 : Int)⟩, _⟩ hpre hwf X hT hG hk hK
  (simp -implicitDefEqProofs (maxSteps := 4000000) only [go_sem, Bool.not_eq_true', Bool.not_eq_false', Bool.or_eq_true, Bool.or_eq_false_iff, Bool.and_eq_true, Bool.and_eq_false_iff, decide_eq_true_eq, decide_eq_false_iff_not, Classical.not_not, not_or, maxLen, con68, con87, hT, hG, hk, hK, Tryz.results68] at hwf ⊢); (try simp (disch := decide +kernel) only [drawn, true_and, and_true])
  clear hwf
  refine fun _ => evk_loop ⟨{ i : Nat // i ≤ l.length ∧ ∀ k, k < i → holdsV (l.getD k ct0) (p1, p2, p3) = false }, 1000, fun q => [(3, .one (.loc 71 0)), (4, .one (.int .i64 0)), (5, .one (.bool false)), (8, .one (.sl yCT l false)), (9, .one (.int .i64 l.length)), (10, .one (.int .i64 q.1))], fun q => [(71, .cells 65 [.int .i64 p1, .int .i64 p2, .int .i64 p3])], fun q => l.length - q.1⟩ ⟨0, by omega, fun k hk => by omega⟩ ?_ ?_
  · simp only [go_sem]
    try (first | rfl | exact ⟨rfl, rfl⟩ | (and_intros <;> first | trivial | rfl | omega))
  · rintro ⟨i, (hi : i ≤ l.length), hz⟩
    have hf := findV_at (l := l) (p := (p1, p2, p3)) (i := i) hz
    unfold ct0 at hf
    (simp -implicitDefEqProofs (maxSteps := 4000000) only [go_sem, Bool.not_eq_true', Bool.not_eq_false', Bool.or_eq_true, Bool.or_eq_false_iff, Bool.and_eq_true, Bool.and_eq_false_iff, decide_eq_true_eq, decide_eq_false_iff_not, Classical.not_not, not_or, maxLen, con68, con87, hT, hG, hk, hK, Tryz.results68]); (try simp (disch := decide +kernel) only [drawn, true_and, and_true])
    have hiN : (i : Int).toNat = i := by omega
    simp only [hiN]
    (repeat' (with_reducible (first | refine And.intro ?_ ?_ | intro _))) <;> (try (first | with_reducible (first | done | assumption | omega | contradiction) | decide))
    all_goals first
     | (have h : holdsV (l.getD i (0, (ByteArray.empty, 0, ByteArray.empty, 0), 0, 0, 0, 0, 0, [])) (p1, p2, p3) = true := by assumption
        rw [hf (by omega) h]; done)
     | (have h : holdsV (l.getD i (0, (ByteArray.empty, 0, ByteArray.empty, 0), 0, 0, 0, 0, 0, [])) (p1, p2, p3) = false := by assumption
        refine fin_lp ⟨i + 1, by omega, lt_succ hz (by exact h)⟩ (by simp only [go_sem]; first | rfl | ((repeat' apply And.intro) <;> first | rfl | assumption | omega)) (by dsimp only; omega)
        done)
     | (rw [findV_none fun k hk => hz k (by omega)]; done)
     | skip)
end Go.Proofs.YteheklpenjjfaaaGreat
