/- The order of plates; pieces; the generators of single values. -/
import Derived.Test.YtjhoidgpecgfoaaDoorDrKaToOrd
set_option linter.unusedSimpArgs false
set_option linter.unusedVariables false
set_option maxRecDepth 100000
set_option maxHeartbeats 4000000
namespace Go.Proofs.YtjhoidgpecgfoaaDoor
open Go.Ev

abbrev Plt := Int × Int × Int
abbrev Pce := Plt × Int × Int
abbrev Opn := Int × Int × Int × Int × Int × Pce
def Opn.seq (o : Opn) : Int := o.2.2.1
def Opn.kind (o : Opn) : Int := o.2.2.2.1
def Opn.box (o : Opn) : Int := o.2.2.2.2.1
def con68 : Con := { ps := [.d false (.int .i64)], rs := [.d false .bool], pre := fun _ => True, out := fun x => (false, ()), nw := id }
theorem c68 : CtrOk Tryd.prog 68 con68.ctr :=
 con_sound (G := ⟨[], [], [], [], []⟩) tab_ok EnvOk.nil rfl Tryd.func68 rfl con68 5 (by kernel_rfl) (by decide) (by decide) rfl (by decide) rfl (by
  rintro ⟨(p : Int), _⟩ hpre hwf X hT hG hk hK
  (simp -implicitDefEqProofs (maxSteps := 4000000) only [go_sem, con68, hT, hG, hk, hK, Tryd.results68] at hwf ⊢); (try simp (disch := decide +kernel) only [drawn, true_and, and_true]))
def con49 : Con := { ps := [.d false (.int .i64), .d false (.int .i64)], rs := [.d false (.int .i64)], pre := fun _ => True, out := fun x => (cmpV x.1 x.2.1, ()), nw := id }
theorem c49 : CtrOk Tryd.prog 49 con49.ctr :=
 con_sound (G := ⟨[(68, con68.ctr)], [], [], [], []⟩) tab_ok (EnvOk.cons c68 has68 EnvOk.nil) rfl Tryd.func49 rfl con49 604275 (by kernel_rfl) (by decide) (by decide) rfl (by decide) rfl (by
  rintro ⟨(a : Int), (b : Int), _⟩ hpre hwf X hT hG hk hK
  (simp -implicitDefEqProofs (maxSteps := 4000000) only [go_sem, con49, con68, hT, hG, hk, hK, Tryd.results49] at hwf ⊢); (try simp (disch := decide +kernel) only [drawn, true_and, and_true])
  unfold cmpV
  refine ⟨fun h => h.elim, fun h => h.elim, fun h => by rw [if_pos h], fun h => ⟨fun k => by rw [if_neg h, if_pos k], fun k => by rw [if_neg h, if_neg k]⟩⟩)
def con48 : Con := { ps := [.d false (.sl (.int .i64))], rs := [.d false (.int .i64)], pre := fun _ => True, out := fun x => (orV x.1, ()), nw := id }
theorem c48 : CtrOk Tryd.prog 48 con48.ctr :=
 con_sound (G := ⟨[], [], [], [], []⟩) tab_ok EnvOk.nil rfl Tryd.func48 rfl con48 17389 (by kernel_rfl) (by decide) (by decide) rfl (by decide) rfl (by
  rintro ⟨(l : List Int), _⟩ hpre hwf X hT hG hk hK
  (simp -implicitDefEqProofs (maxSteps := 4000000) only [go_sem, Bool.not_eq_true', Bool.not_eq_false', Bool.or_eq_true, Bool.or_eq_false_iff, Bool.and_eq_true, Bool.and_eq_false_iff, decide_eq_true_eq, decide_eq_false_iff_not, Classical.not_not, not_or, maxLen, con48, hT, hG, hk, hK, Tryd.results48] at hwf ⊢); (try simp (disch := decide +kernel) only [drawn, true_and, and_true])
  intro hl
  refine evk_loop ⟨{ i : Nat // i ≤ l.length ∧ orV l = orV (l.drop i) }, 1000, fun i => [(3, .one (.int .i64 0)), (6, .one (.sl (.int .i64) l false)), (7, .one (.int .i64 l.length)), (8, .one (.int .i64 i.1))], fun _ => [], fun i => l.length - i.1⟩ ⟨0, by simp, by simp⟩ ?_ ?_
  · simp only [go_sem]
    rfl
  · rintro ⟨i, (hi : i ≤ l.length), (he : orV l = orV (l.drop i))⟩
    (simp -implicitDefEqProofs (maxSteps := 4000000) only [go_sem, Bool.not_eq_true', Bool.not_eq_false', Bool.or_eq_true, Bool.or_eq_false_iff, Bool.and_eq_true, Bool.and_eq_false_iff, decide_eq_true_eq, decide_eq_false_iff_not, Classical.not_not, not_or, maxLen, con48, hT, hG, hk, hK, Tryd.results48]); (try simp (disch := decide +kernel) only [drawn, true_and, and_true])
    refine ⟨fun hlt => ?_, fun hge => ?_⟩
    · have hi' : i < l.length := by omega
      have ek : l.getD (i : Int).toNat 0 = l[i] := by simp [hi']
      rw [ek]
      have hst : orV l = if l[i] = 0 then orV (l.drop (i + 1)) else l[i] := by
       rw [he, List.drop_eq_getElem_cons hi', orV]
      (repeat' (with_reducible (first | refine And.intro ?_ ?_ | intro _))) <;> (try (first | with_reducible (first | done | assumption | omega | contradiction) | decide))
      all_goals rename_i h
      · first
         | rw [hst, if_neg h]
         | (refine fin_lp ⟨i + 1, by omega, ?_⟩ ?_ ?_
            · rw [hst, if_pos h]
            · simp only [go_sem]
              rfl
            · show l.length - (i + 1) < l.length - i
              omega)
    · rw [he, List.drop_of_length_le (by omega)]
      rfl)
def pltC (a b : Plt) : Int := lexC cmpV (lexC cmpV cmpV) a b
theorem pltC_cmp : Cmp pltC := cmpV_cmp.lex (cmpV_cmp.lex cmpV_cmp)
def con30 : Con := { ps := [.d true yPL, .d true yPL], rs := [.d false (.int .i64)], pre := fun _ => True, out := fun (x : Plt × Plt × Unit) => (pltC x.1 x.2.1, ()), nw := id }
theorem c30 : CtrOk Tryd.prog 30 con30.ctr :=
 con_sound (G := ⟨[(48, con48.ctr), (49, con49.ctr)], [], [], [], []⟩) tab_ok (EnvOk.cons c48 has48 (EnvOk.cons c49 has49 EnvOk.nil)) rfl Tryd.func30 rfl con30 31 (by kernel_rfl) (by decide) (by decide) rfl (by decide) rfl (by
  rintro ⟨⟨(a1 : Int), (a2 : Int), (a3 : Int)⟩, ⟨(b1 : Int), (b2 : Int), (b3 : Int)⟩, _⟩ hpre hwf X hT hG hk hK
  (simp -implicitDefEqProofs (maxSteps := 4000000) only [go_sem, Bool.not_eq_true', Bool.not_eq_false', Bool.or_eq_true, Bool.or_eq_false_iff, Bool.and_eq_true, Bool.and_eq_false_iff, decide_eq_true_eq, decide_eq_false_iff_not, Classical.not_not, not_or, maxLen, con30, con48, con49, hT, hG, hk, hK, Tryd.results30] at hwf ⊢); (try simp (disch := decide +kernel) only [drawn, true_and, and_true])
  (repeat' (with_reducible (first | refine And.intro ?_ ?_ | intro _))) <;> (try (first | with_reducible (first | done | assumption | omega | contradiction) | decide))
  unfold pltC lexC
  simp only [orV]
  (repeat' split) <;> first | rfl | omega)
def okPl (p : Plt) : Bool := inV p.1 0 9 && inV p.2.1 1 999 && inV p.2.2 0 999999
def okPc (x : Pce) : Bool := okPl x.1 && inV x.2.1 1 999 && inV x.2.2 0 4
def con81 : Con := { ps := [.d false (.int .i64), .d false (.int .i64), .d false (.int .i64)], rs := [.d false .bool], pre := fun _ => True, out := fun x => (inV x.1 x.2.1 x.2.2.1, ()), nw := id }
theorem c81 : CtrOk Tryd.prog 81 con81.ctr :=
 con_sound (G := ⟨[], [], [], [], []⟩) tab_ok EnvOk.nil rfl Tryd.func81 rfl con81 71 (by kernel_rfl) (by decide) (by decide) rfl (by decide) rfl (by
  rintro ⟨(n : Int), (a : Int), (b : Int), _⟩ hpre hwf X hT hG hk hK
  (simp -implicitDefEqProofs (maxSteps := 4000000) only [go_sem, Bool.not_eq_true', Bool.not_eq_false', Bool.or_eq_true, Bool.or_eq_false_iff, Bool.and_eq_true, Bool.and_eq_false_iff, decide_eq_true_eq, decide_eq_false_iff_not, Classical.not_not, not_or, maxLen, con81, hT, hG, hk, hK, Tryd.results81] at hwf ⊢); (try simp (disch := decide +kernel) only [drawn, true_and, and_true])
  (repeat' (with_reducible (first | refine And.intro ?_ ?_ | intro _))) <;> (try (first | with_reducible (first | done | assumption | omega | contradiction) | decide))
  rfl)
def con83 : Con := { ps := [.d true yPL], rs := [.d false .bool], pre := fun _ => True, out := fun (x : Plt × Unit) => (okPl x.1, ()), nw := id }
theorem c83 : CtrOk Tryd.prog 83 con83.ctr :=
 con_sound (G := ⟨[], [], [], [], []⟩) tab_ok EnvOk.nil rfl Tryd.func83 rfl con83 7 (by kernel_rfl) (by decide) (by decide) rfl (by decide) rfl (by
  rintro ⟨⟨(a : Int), (b : Int), (c : Int)⟩, _⟩ hpre hwf X hT hG hk hK
  (simp -implicitDefEqProofs (maxSteps := 4000000) only [go_sem, Bool.not_eq_true', Bool.not_eq_false', Bool.or_eq_true, Bool.or_eq_false_iff, Bool.and_eq_true, Bool.and_eq_false_iff, decide_eq_true_eq, decide_eq_false_iff_not, Classical.not_not, not_or, maxLen, con83, hT, hG, hk, hK, Tryd.results83] at hwf ⊢); (try simp (disch := decide +kernel) only [drawn, true_and, and_true])
  unfold okPl inV
  rw [Bool.eq_iff_iff]
  simp only [Bool.and_eq_true, decide_eq_true_eq]
  omega)
def con71 : Con := { ps := [.d true yPC], rs := [.d false .bool], pre := fun _ => True, out := fun (x : Pce × Unit) => (okPc x.1, ()), nw := id }
theorem c71 : CtrOk Tryd.prog 71 con71.ctr :=
 con_sound (G := ⟨[(81, con81.ctr), (83, con83.ctr)], [], [], [], []⟩) tab_ok (EnvOk.cons c81 has81 (EnvOk.cons c83 has83 EnvOk.nil)) rfl Tryd.func71 rfl con71 7 (by kernel_rfl) (by decide) (by decide) rfl (by decide) rfl (by
  rintro ⟨⟨⟨(a : Int), (b : Int), (c : Int)⟩, (d : Int), (e : Int)⟩, _⟩ hpre hwf X hT hG hk hK
  (simp -implicitDefEqProofs (maxSteps := 4000000) only [go_sem, Bool.not_eq_true', Bool.not_eq_false', Bool.or_eq_true, Bool.or_eq_false_iff, Bool.and_eq_true, Bool.and_eq_false_iff, decide_eq_true_eq, decide_eq_false_iff_not, Classical.not_not, not_or, maxLen, con71, con81, con83, hT, hG, hk, hK, Tryd.results71] at hwf ⊢); (try simp (disch := decide +kernel) only [drawn, true_and, and_true])
  unfold okPc
  generalize okPl (a, b, c) = q1
  generalize inV d 1 999 = q2
  generalize inV e 0 4 = q3
  cases q1 <;> cases q2 <;> cases q3 <;> simp)
def platesV (i : Int) : Plt := ((goMod i 1000).tdiv 500, 117 + ((goMod i 1000).tdiv 100).tmod 5, 1000 + (goMod i 1000).tmod 100)
def con9 : Con := { ps := [.d false (.int .i64)], rs := [.d true yPL], pre := fun _ => True, out := fun x => (platesV x.1, ()), nw := id }
theorem c9 : CtrOk Tryd.prog 9 con9.ctr :=
 con_sound (G := ⟨[(21, con21.ctr)], [], [], [], []⟩) tab_ok (EnvOk.cons c21 has21 EnvOk.nil) rfl Tryd.func9 rfl con9 5 (by kernel_rfl) (by decide) (by decide) rfl (by decide) rfl (by
  rintro ⟨(i : Int), _⟩ hpre hwf X hT hG hk hK
  (simp -implicitDefEqProofs (maxSteps := 4000000) only [go_sem, Bool.not_eq_true', Bool.not_eq_false', Bool.or_eq_true, Bool.or_eq_false_iff, Bool.and_eq_true, Bool.and_eq_false_iff, decide_eq_true_eq, decide_eq_false_iff_not, Classical.not_not, not_or, maxLen, con9, con21, hT, hG, hk, hK, Tryd.results9] at hwf ⊢); (try simp (disch := decide +kernel) only [drawn, true_and, and_true])
  have hb := goMod_bd i 1000 (by omega)
  have := tmod_bd ((goMod i 1000).tdiv 100) 5 (by omega)
  have := tmod_bd (goMod i 1000) 100 (by omega)
  have : 0 ≤ (goMod i 1000).tdiv 500 := Int.tdiv_nonneg hb.1 (by omega)
  have : (goMod i 1000).tdiv 500 ≤ goMod i 1000 := Int.tdiv_le_self 500 hb.1
  have : 0 ≤ (goMod i 1000).tdiv 100 := Int.tdiv_nonneg hb.1 (by omega)
  have : (goMod i 1000).tdiv 100 ≤ goMod i 1000 := Int.tdiv_le_self 100 hb.1
  (repeat' (with_reducible (first | refine And.intro ?_ ?_ | intro _))) <;> (try (first | with_reducible (first | done | assumption | omega | contradiction) | decide))
  all_goals rfl)
theorem step_pos {s : Src} (h : 0 ≤ s.2) : 0 ≤ (Src.step s).2 := Src.step_pos s h
def con20 : Con := { ps := [.p 65 ySR, .d false (.int .i64)], rs := [.d true yPL], pre := fun x => 0 ≤ x.1.2, out := fun x => (platesV (goMod (Src.raw x.1) x.2.1), ()), nw := fun x => (Src.step x.1, x.2) }
theorem c20 : CtrOk Tryd.prog 20 con20.ctr :=
 con_sound (G := ⟨[(10, con10.ctr), (9, con9.ctr)], [], [], [], []⟩) tab_ok (EnvOk.cons c10 has10 (EnvOk.cons c9 has9 EnvOk.nil)) rfl Tryd.func20 rfl con20 19 (by kernel_rfl) (by decide) (by decide) rfl (by decide) rfl (by
  rintro ⟨⟨(s : List Int), (a : Int)⟩, (n : Int), _⟩ hpre hwf X hT hG hk hK
  (simp -implicitDefEqProofs (maxSteps := 4000000) only [go_sem, Bool.not_eq_true', Bool.not_eq_false', Bool.or_eq_true, Bool.or_eq_false_iff, Bool.and_eq_true, Bool.and_eq_false_iff, decide_eq_true_eq, decide_eq_false_iff_not, Classical.not_not, not_or, maxLen, con20, con10, con9, hT, hG, hk, hK, Tryd.results20] at hwf ⊢); (try simp (disch := decide +kernel) only [drawn, true_and, and_true])
  exact hpre)
def con19 : Con := { ps := [.p 65 ySR, .d false (.sl (.int .i64))], rs := [.d false (.int .i64)], pre := fun (x : Src × List Int × Unit) => 0 ≤ x.1.2 ∧ 0 < x.2.1.length, out := fun (x : Src × List Int × Unit) => (x.2.1.getD (goMod (Src.raw x.1) x.2.1.length).toNat 0, ()), nw := fun x => (Src.step x.1, x.2) }
theorem c19 : CtrOk Tryd.prog 19 con19.ctr :=
 con_sound (G := ⟨[(10, con10.ctr)], [], [], [], []⟩) tab_ok (EnvOk.cons c10 has10 EnvOk.nil) rfl Tryd.func19 rfl con19 19 (by kernel_rfl) (by decide) (by decide) rfl (by decide) rfl (by
  rintro ⟨⟨(s : List Int), (a : Int)⟩, (l : List Int), _⟩ hpre hwf X hT hG hk hK
  (simp -implicitDefEqProofs (maxSteps := 4000000) only [go_sem, Bool.not_eq_true', Bool.not_eq_false', Bool.or_eq_true, Bool.or_eq_false_iff, Bool.and_eq_true, Bool.and_eq_false_iff, decide_eq_true_eq, decide_eq_false_iff_not, Classical.not_not, not_or, maxLen, con19, con10, hT, hG, hk, hK, Tryd.results19] at hwf ⊢); (try simp (disch := decide +kernel) only [drawn, true_and, and_true])
  obtain ⟨h1, h2⟩ : 0 ≤ a ∧ 0 < l.length := hpre
  have hb := goMod_bd (Src.raw (s, a)) l.length (by omega)
  (repeat' (with_reducible (first | refine And.intro ?_ ?_ | intro _))) <;> (try (first | with_reducible (first | done | assumption | omega | contradiction) | decide)))
theorem platesV_ok (i : Int) : okPl (platesV i) = true := by
 have hb := goMod_bd i 1000 (by omega)
 have h1 : 0 ≤ (goMod i 1000).tdiv 100 := Int.tdiv_nonneg hb.1 (by omega)
 have h2 : 0 ≤ ((goMod i 1000).tdiv 100).tmod 5 := Int.tmod_nonneg 5 h1
 have h3 := tmod_bd ((goMod i 1000).tdiv 100) 5 (by omega)
 have h4 : 0 ≤ (goMod i 1000).tmod 100 := Int.tmod_nonneg 100 hb.1
 have h5 := tmod_bd (goMod i 1000) 100 (by omega)
 have h6 : 0 ≤ (goMod i 1000).tdiv 500 := Int.tdiv_nonneg hb.1 (by omega)
 have h7 : (goMod i 1000).tdiv 500 ≤ 9 := by
  rw [Int.tdiv_eq_ediv_of_nonneg hb.1]; omega
 unfold okPl platesV inV
 simp only [Bool.and_eq_true, decide_eq_true_eq]
 omega
def strs3 : List ByteArray := [⟨#[66, 65]⟩, ⟨#[76, 72]⟩, ⟨#[83, 75]⟩]
def fltsV (n : Int) : Flt := (strs3.getD (goMod n 27 / 9).toNat ByteArray.empty, 1 + goMod n 27 / 3 % 3, ByteArray.empty, 1 + goMod n 27 % 3)
def con11 : Con := { ps := [.d false (.int .i64)], rs := [.d true yFL], pre := fun _ => True, out := fun x => (fltsV x.1, ()), nw := id }
theorem c11 : CtrOk Tryd.prog 11 con11.ctr :=
 con_sound (G := ⟨[(21, con21.ctr)], [], [], [], []⟩) tab_ok (EnvOk.cons c21 has21 EnvOk.nil) rfl Tryd.func11 rfl con11 5 (by kernel_rfl) (by decide) (by decide) rfl (by decide) rfl (by
  rintro ⟨(n : Int), _⟩ hpre hwf X hT hG hk hK
  (simp -implicitDefEqProofs (maxSteps := 4000000) only [go_sem, Bool.not_eq_true', Bool.not_eq_false', Bool.or_eq_true, Bool.or_eq_false_iff, Bool.and_eq_true, Bool.and_eq_false_iff, decide_eq_true_eq, decide_eq_false_iff_not, Classical.not_not, not_or, maxLen, con11, con21, hT, hG, hk, hK, Tryd.results11] at hwf ⊢); (try simp (disch := decide +kernel) only [drawn, true_and, and_true])
  have hb := goMod_bd n 27 (by omega)
  have e : fltsV n = (strs3.getD (goMod n 27 / 9).toNat ByteArray.empty, 1 + goMod n 27 / 3 % 3, ByteArray.empty, 1 + goMod n 27 % 3) := rfl
  rw [e]
  generalize goMod n 27 = k at hb ⊢
  have e1 : k.tdiv 9 = k / 9 := Int.tdiv_eq_ediv_of_nonneg hb.1
  have e2 : k.tdiv 3 = k / 3 := Int.tdiv_eq_ediv_of_nonneg hb.1
  have e3 : k.tmod 3 = k % 3 := Int.tmod_eq_emod_of_nonneg hb.1
  have e4 : (k / 3).tmod 3 = k / 3 % 3 := Int.tmod_eq_emod_of_nonneg (by omega)
  simp only [e1, e2, e3, e4]
  (repeat' (with_reducible (first | refine And.intro ?_ ?_ | intro _))) <;> (try (first | with_reducible (first | done | assumption | omega | contradiction) | decide))
  all_goals rfl)
end Go.Proofs.YtjhoidgpecgfoaaDoor

/- Containers: what is valid, what they hold. -/
set_option linter.unusedSimpArgs false
set_option linter.unusedVariables false
set_option maxRecDepth 100000
set_option maxHeartbeats 4000000
namespace Go.Proofs.YtjhoidgpecgfoaaDoor
open Go.Ev

/-- The first number that is not 0. -/
def fErr (f : Nat → Int) (n : Nat) : Int := (((List.range n).map f).find? (fun e => decide (e ≠ 0))).getD 0
theorem fErr_err {f : Nat → Int} {n i : Nat} (h : ∀ k, k < i → f k = 0) (hi : i < n) (he : f i ≠ 0) : fErr f n = f i := by
 unfold fErr
 have e0 : List.range n = List.range i ++ (i :: (List.range n).drop (i + 1)) :=
  (List.take_append_drop i (List.range n)).symm.trans (by rw [List.take_range, Nat.min_eq_left (by omega), List.drop_eq_getElem_cons (i := i) (by simpa using hi), List.getElem_range])
 obtain ⟨D, hD⟩ : ∃ D, (List.range n).drop (i + 1) = D := ⟨_, rfl⟩
 rw [hD] at e0
 have e : (List.range n).map f = (List.range i).map f ++ (f i :: D.map f) := by
  rw [e0, List.map_append, List.map_cons]
 rw [e, List.find?_append]
 have e2 : ((List.range i).map f).find? (fun e => decide (e ≠ 0)) = none := by
  rw [List.find?_eq_none]
  intro x hx
  obtain ⟨k, hk, rfl⟩ := List.mem_map.1 hx
  rw [h k (List.mem_range.1 hk)]
  simp
 rw [e2]
 simp [he]
theorem fErr_ok {f : Nat → Int} {n : Nat} (h : ∀ k, k < n → f k = 0) : fErr f n = 0 := by
 unfold fErr
 have e2 : ((List.range n).map f).find? (fun e => decide (e ≠ 0)) = none := by
  rw [List.find?_eq_none]
  intro x hx
  obtain ⟨k, hk, rfl⟩ := List.mem_map.1 hx
  rw [h k (List.mem_range.1 hk)]
  simp
 rw [e2]; rfl
theorem fErr_zero {f : Nat → Int} {n : Nat} (h : fErr f n = 0) : ∀ k, k < n → f k = 0 := by
 intro k
 induction k using Nat.strongRecOn with
 | ind k ih =>
   intro hk
   apply Classical.byContradiction
   intro hne
   rw [fErr_err (fun j hj => ih j hj (by omega)) hk hne] at h
   exact hne h
abbrev Cnt := Int × Flt × Int × Int × Int × Int × Int × List Pce
abbrev Cnt.num (c : Cnt) : Int := c.1
abbrev Cnt.flt (c : Cnt) : Flt := c.2.1
abbrev Cnt.cats (c : Cnt) : Int := c.2.2.1
abbrev Cnt.lim (c : Cnt) : Int := c.2.2.2.1
abbrev Cnt.most (c : Cnt) : Int := c.2.2.2.2.1
abbrev Cnt.pos (c : Cnt) : Int := c.2.2.2.2.2.1
abbrev Cnt.arm (c : Cnt) : Int := c.2.2.2.2.2.2.1
abbrev Cnt.pcs (c : Cnt) : List Pce := c.2.2.2.2.2.2.2
def pc0 : Pce := ((0, 0, 0), 0, 0)
def ct0 : Cnt := (0, (ByteArray.empty, 0, ByteArray.empty, 0), 0, 0, 0, 0, 0, [])
def propC (c : Cnt) : Bool := inV c.num 1 999 && fltOk c.flt && inV c.cats 0 31 && inV c.lim 0 20000 && inV c.most 0 60 && inV c.pos 0 24 && inV c.arm (-50) 50
def con70 : Con := { ps := [.d true yCT], rs := [.d false .bool], pre := fun _ => True, out := fun (x : Cnt × Unit) => (propC x.1, ()), nw := id }
theorem c70 : CtrOk Tryd.prog 70 con70.ctr :=
 con_sound (G := ⟨[(81, con81.ctr), (82, con82.ctr)], [], [], [], []⟩) tab_ok (EnvOk.cons c81 has81 (EnvOk.cons c82 has82 EnvOk.nil)) rfl Tryd.func70 rfl con70 7 (by kernel_rfl) (by decide) (by decide) rfl (by decide) rfl (by
  rintro ⟨⟨(n : Int), ⟨a1, (a2 : Int), a3, (a4 : Int)⟩, (c : Int), (l : Int), (t : Int), (p : Int), (r : Int), (ps : List Pce)⟩, _⟩ hpre hwf X hT hG hk hK
  (simp -implicitDefEqProofs (maxSteps := 4000000) only [go_sem, Bool.not_eq_true', Bool.not_eq_false', Bool.or_eq_true, Bool.or_eq_false_iff, Bool.and_eq_true, Bool.and_eq_false_iff, decide_eq_true_eq, decide_eq_false_iff_not, Classical.not_not, not_or, maxLen, con70, con81, con82, hT, hG, hk, hK, Tryd.results70] at hwf ⊢); (try simp (disch := decide +kernel) only [drawn, true_and, and_true])
  unfold propC
  clear hwf hpre hT hG hk hK
  generalize inV n 1 999 = q1
  generalize fltOk (a1, a2, a3, a4) = q2
  generalize inV c 0 31 = q3
  generalize inV l 0 20000 = q4
  generalize inV t 0 60 = q5
  generalize inV p 0 24 = q6
  generalize inV r (-50) 50 = q7
  cases q1 <;> cases q2 <;> cases q3 <;> cases q4 <;> cases q5 <;> cases q6 <;> cases q7 <;> simp)
def takesV (c : Cnt) (k : Int) : Bool := decide (andV .i64 (c.cats / 2 ^ k.toNat) 1 = 1)
def con53 : Con := { ps := [.d true yCT, .d false (.int .i64)], rs := [.d false .bool], pre := fun (x : Cnt × Int × Unit) => 0 ≤ x.1.cats ∧ 0 ≤ x.2.1 ∧ x.2.1 < 32, out := fun (x : Cnt × Int × Unit) => (takesV x.1 x.2.1, ()), nw := id }
theorem c53 : CtrOk Tryd.prog 53 con53.ctr :=
 con_sound (G := ⟨[], [], [], [], []⟩) tab_ok EnvOk.nil rfl Tryd.func53 rfl con53 23 (by kernel_rfl) (by decide) (by decide) rfl (by decide) rfl (by
  rintro ⟨⟨(n : Int), ⟨a1, (a2 : Int), a3, (a4 : Int)⟩, (c : Int), (l : Int), (t : Int), (p : Int), (r : Int), (ps : List Pce)⟩, (k : Int), _⟩ hpre hwf X hT hG hk hK
  (simp -implicitDefEqProofs (maxSteps := 4000000) only [go_sem, Bool.not_eq_true', Bool.not_eq_false', Bool.or_eq_true, Bool.or_eq_false_iff, Bool.and_eq_true, Bool.and_eq_false_iff, decide_eq_true_eq, decide_eq_false_iff_not, Classical.not_not, not_or, maxLen, con53, hT, hG, hk, hK, Tryd.results53] at hwf ⊢); (try simp (disch := decide +kernel) only [drawn, true_and, and_true])
  obtain ⟨h1, h2, h3⟩ : 0 ≤ c ∧ 0 ≤ k ∧ k < 32 := hpre
  (repeat' (with_reducible (first | refine And.intro ?_ ?_ | intro _))) <;> (try (first | with_reducible (first | done | assumption | omega | contradiction) | decide))
  all_goals (unfold takesV; first | rfl | simp))
def pcErr (l : List Pce) (i : Nat) : Int :=
 if okPc (l.getD i pc0) = false then 1 else if i = 0 then 0 else if pltC (l.getD (i - 1) pc0).1 (l.getD i pc0).1 = 0 then 5 else if pltC (l.getD (i - 1) pc0).1 (l.getD i pc0).1 = 1 then 9 else 0
def ctErr (c : Cnt) : Int := if propC c = false then 1 else if 60 < c.pcs.length then 2 else fErr (pcErr c.pcs) c.pcs.length
theorem pcErr_1 {l : List Pce} {i : Nat} (h : okPc (l.getD i pc0) = false) : pcErr l i = 1 := by unfold pcErr; rw [if_pos h]
theorem pcErr_f {l : List Pce} {i : Nat} (h : okPc (l.getD i pc0) = true) (h0 : i = 0) : pcErr l i = 0 := by
 unfold pcErr; rw [if_neg (by rw [h]; simp), if_pos h0]
theorem pcErr_5 {l : List Pce} {i : Nat} (h : okPc (l.getD i pc0) = true) (h0 : ¬ i = 0) (hc : pltC (l.getD (i - 1) pc0).1 (l.getD i pc0).1 = 0) : pcErr l i = 5 := by
 unfold pcErr; rw [if_neg (by rw [h]; simp), if_neg h0, if_pos hc]
theorem pcErr_9 {l : List Pce} {i : Nat} (h : okPc (l.getD i pc0) = true) (h0 : ¬ i = 0) (hc : pltC (l.getD (i - 1) pc0).1 (l.getD i pc0).1 = 1) : pcErr l i = 9 := by
 unfold pcErr; rw [if_neg (by rw [h]; simp), if_neg h0, if_neg (by rw [hc]; decide), if_pos hc]
theorem pcErr_0 {l : List Pce} {i : Nat} (h : okPc (l.getD i pc0) = true) (h0 : ¬ i = 0) (hc : ¬ pltC (l.getD (i - 1) pc0).1 (l.getD i pc0).1 = 0) (hd : ¬ pltC (l.getD (i - 1) pc0).1 (l.getD i pc0).1 = 1) : pcErr l i = 0 := by
 unfold pcErr; rw [if_neg (by rw [h]; simp), if_neg h0, if_neg hc, if_neg hd]
theorem ctErr_zero {c : Cnt} (h : ctErr c = 0) : propC c = true ∧ c.pcs.length ≤ 60 ∧ ∀ i, i < c.pcs.length → okPc (c.pcs.getD i pc0) = true ∧ (0 < i → pltC (c.pcs.getD (i - 1) pc0).1 (c.pcs.getD i pc0).1 < 0) := by
 unfold ctErr at h
 split at h
 · omega
 · rename_i h1
   split at h
   · omega
   · rename_i h2
     refine ⟨by simpa using h1, by omega, fun i hi => ?_⟩
     have := fErr_zero h i hi
     unfold pcErr at this
     split at this
     · omega
     · rename_i h3
       refine ⟨by simpa using h3, fun h0 => ?_⟩
       rw [if_neg (by omega)] at this
       split at this
       · omega
       · split at this
         · omega
         · have := pltC_cmp.unit (c.pcs.getD (i - 1) pc0).1 (c.pcs.getD i pc0).1
           omega
def con52 : Con := { ps := [.d true yCT], rs := [.d false (.int .i64)], pre := fun _ => True, out := fun (x : Cnt × Unit) => (ctErr x.1, ()), nw := id }
theorem c52 : CtrOk Tryd.prog 52 con52.ctr :=
 con_sound (G := ⟨[(70, con70.ctr), (71, con71.ctr), (30, con30.ctr)], [], [], [], []⟩) tab_ok (EnvOk.cons c70 has70 (EnvOk.cons c71 has71 (EnvOk.cons c30 has30 EnvOk.nil))) rfl Tryd.func52 rfl con52 188999657631 (by kernel_rfl) (by decide) (by decide) rfl (by decide) rfl (by
  rintro ⟨⟨(n : Int), ⟨a1, (a2 : Int), a3, (a4 : Int)⟩, (c : Int), (lm : Int), (t : Int), (p : Int), (r : Int), (l : List Pce)⟩, _⟩ hpre hwf X hT hG hk hK
  (simp -implicitDefEqProofs (maxSteps := 4000000) only [go_sem, Bool.not_eq_true', Bool.not_eq_false', Bool.or_eq_true, Bool.or_eq_false_iff, Bool.and_eq_true, Bool.and_eq_false_iff, decide_eq_true_eq, decide_eq_false_iff_not, Classical.not_not, not_or, maxLen, con52, con70, con71, con30, hT, hG, hk, hK, Tryd.results52] at hwf ⊢); (try simp (disch := decide +kernel) only [drawn, true_and, and_true])
  clear hwf
  refine ⟨fun h => ?_, fun h _ => ⟨fun h2 => ?_, fun h2 _ => ?_⟩⟩
  · unfold ctErr; rw [if_pos h]
  · unfold ctErr; rw [if_neg (by rw [h]; simp), if_pos (by show 60 < l.length; omega)]
  · have e0 : ctErr (n, (a1, a2, a3, a4), c, lm, t, p, r, l) = fErr (pcErr l) l.length := by
     unfold ctErr; rw [if_neg (by rw [h]; simp), if_neg (by show ¬ 60 < l.length; omega)]
    refine evk_loop ⟨{ i : Nat // i ≤ l.length ∧ ∀ k, k < i → pcErr l k = 0 }, 1000, fun q => [(1, .one (.loc 70 0)), (2, .one (.int .i64 0)), (13, .one (.sl yPC l false)), (14, .one (.int .i64 l.length)), (15, .one (.int .i64 q.1))], fun q => [(70, .cells 74 [.int .i64 n, .str a1, .int .i64 a2, .str a3, .int .i64 a4, .int .i64 c, .int .i64 lm, .int .i64 t, .int .i64 p, .int .i64 r, .sl yPC l false])], fun q => l.length - q.1⟩ ⟨0, by omega, fun k hk => by omega⟩ ?_ ?_
    · simp only [go_sem]
      try (first | rfl | exact ⟨rfl, rfl⟩ | (and_intros <;> first | rfl | omega))
    · rintro ⟨i, (hi : i ≤ l.length), (hz : ∀ k, k < i → pcErr l k = 0)⟩
      have he := fErr_err (f := pcErr l) (n := l.length) (i := i) hz
      (simp -implicitDefEqProofs (maxSteps := 4000000) only [go_sem, Bool.not_eq_true', Bool.not_eq_false', Bool.or_eq_true, Bool.or_eq_false_iff, Bool.and_eq_true, Bool.and_eq_false_iff, decide_eq_true_eq, decide_eq_false_iff_not, Classical.not_not, not_or, maxLen, con52, con70, con71, con30, hT, hG, hk, hK, Tryd.results52]); (try simp (disch := decide +kernel) only [drawn, true_and, and_true])
      obtain ⟨o, ho⟩ : ∃ o, l.getD i pc0 = o := ⟨_, rfl⟩
      obtain ⟨u, hu⟩ : ∃ u, l.getD (i - 1) pc0 = u := ⟨_, rfl⟩
      have eo : l.getD (i : Int).toNat ((0, 0, 0), 0, 0) = o := ho
      have eu : l.getD ((i : Int) - 1).toNat ((0, 0, 0), 0, 0) = u := by rw [show ((i : Int) - 1).toNat = i - 1 by omega]; exact hu
      rw [eo, eu]
      have nx : pcErr l i = 0 → ∀ k, k < i + 1 → pcErr l k = 0 := fun h k hk => by
       by_cases e : k = i
       · subst e; exact h
       · exact hz k (by omega)
      (repeat' (with_reducible (first | refine And.intro ?_ ?_ | intro _))) <;> (try (first | with_reducible (first | done | assumption | omega | contradiction) | decide))
      all_goals first
       | (have h1 : okPc o = false := by assumption
          rw [e0, he (by omega) (by rw [pcErr_1 (ho ▸ h1)]; decide), pcErr_1 (ho ▸ h1)]; done)
       | (have h1 : okPc o = true := by assumption
          have h3 : pltC u.1 o.1 = 0 := by assumption
          have e5 := pcErr_5 (ho ▸ h1) (by omega) (by rw [hu, ho]; exact h3)
          rw [e0, he (by omega) (by rw [e5]; decide), e5]; done)
       | (have h1 : okPc o = true := by assumption
          have h3 : pltC u.1 o.1 = 1 := by assumption
          have e5 := pcErr_9 (ho ▸ h1) (by omega) (by rw [hu, ho]; exact h3)
          rw [e0, he (by omega) (by rw [e5]; decide), e5]; done)
       | (have h1 : okPc o = true := by assumption
          have h0 : (i : Int) = 0 := by assumption
          refine fin_lp ⟨i + 1, by omega, nx (pcErr_f (ho ▸ h1) (by omega))⟩ ?_ (by dsimp only; omega)
          simp only [go_sem]
          try (first | rfl | exact ⟨rfl, rfl⟩ | (and_intros <;> first | rfl | omega)))
       | (have h1 : okPc o = true := by assumption
          have h3 : ¬ pltC u.1 o.1 = 0 := by assumption
          have h4 : ¬ pltC u.1 o.1 = 1 := by assumption
          refine fin_lp ⟨i + 1, by omega, nx (pcErr_0 (ho ▸ h1) (by omega) (by rw [hu, ho]; exact h3) (by rw [hu, ho]; exact h4))⟩ ?_ (by dsimp only; omega)
          simp only [go_sem]
          try (first | rfl | exact ⟨rfl, rfl⟩ | (and_intros <;> first | rfl | omega)))
       | (rw [e0, fErr_ok (fun k hk => hz k (by omega))]; done)
       | skip)
end Go.Proofs.YtjhoidgpecgfoaaDoor

/- Containers: what they hold; sums of weights. -/
set_option linter.unusedSimpArgs false
set_option linter.unusedVariables false
set_option maxRecDepth 100000
set_option maxHeartbeats 4000000
namespace Go.Proofs.YtjhoidgpecgfoaaDoor
open Go.Ev

/-- The place of the first element with a property, or -1. -/
def idxV {α : Type} (p : α → Bool) (l : List α) : Int := match l.findIdx? p with | some i => i | none => -1
theorem getD_lt {α : Type} {l : List α} {i : Nat} {d : α} (h : i < l.length) : l.getD i d = l[i] := by simp [h]
theorem idxV_at {α : Type} {p : α → Bool} {l : List α} {d : α} {i : Nat} (hz : ∀ k, k < i → p (l.getD k d) = false) (hi : i < l.length) (h : p (l.getD i d) = true) : idxV p l = i := by
 unfold idxV
 have : l.findIdx? p = some i := by
  rw [List.findIdx?_eq_some_iff_getElem]
  refine ⟨hi, by rw [← getD_lt hi (d := d)]; exact h, fun j hj => ?_⟩
  have := hz j hj
  rw [getD_lt (by omega)] at this
  simp [this]
 rw [this]
theorem idxV_none {α : Type} {p : α → Bool} {l : List α} {d : α} (hz : ∀ k, k < l.length → p (l.getD k d) = false) : idxV p l = -1 := by
 unfold idxV
 have : l.findIdx? p = none := by
  rw [List.findIdx?_eq_none_iff]
  intro x hx
  obtain ⟨k, hk, rfl⟩ := List.getElem_of_mem hx
  rw [← getD_lt hk (d := d)]; exact hz k hk
 rw [this]
theorem idxV_spec {α : Type} {p : α → Bool} {l : List α} {d : α} (h : 0 ≤ idxV p l) : (idxV p l).toNat < l.length ∧ p (l.getD (idxV p l).toNat d) = true ∧ ∀ k, k < (idxV p l).toNat → p (l.getD k d) = false := by
 unfold idxV at h ⊢
 split at h
 · rename_i i hi
   try simp only [hi]
   obtain ⟨h1, h2, h3⟩ := List.findIdx?_eq_some_iff_getElem.1 hi
   refine ⟨by omega, by rw [show ((i : Int)).toNat = i by omega, getD_lt h1]; exact h2, fun k hk => ?_⟩
   have := h3 k (by omega)
   rw [getD_lt (by omega)]
   simpa using this
 · omega
theorem idxV_neg {α : Type} {p : α → Bool} {l : List α} (h : idxV p l < 0) : ∀ x ∈ l, p x = false := by
 unfold idxV at h
 split at h
 · omega
 · rename_i hi
   rw [List.findIdx?_eq_none_iff] at hi
   intro x hx
   simpa using hi x hx
theorem any_at {α : Type} {p : α → Bool} {l : List α} {d : α} {i : Nat} (hi : i < l.length) (h : p (l.getD i d) = true) : l.any p = true := by
 rw [List.any_eq_true]; exact ⟨l[i], List.getElem_mem hi, by rw [← getD_lt hi (d := d)]; exact h⟩
theorem any_none {α : Type} {p : α → Bool} {l : List α} {d : α} (hz : ∀ k, k < l.length → p (l.getD k d) = false) : l.any p = false := by
 rw [List.any_eq_false]
 intro x hx
 obtain ⟨k, hk, rfl⟩ := List.getElem_of_mem hx
 rw [← getD_lt hk (d := d), hz k hk]; simp
theorem lt_succ {P : Nat → Prop} {i : Nat} (hz : ∀ k, k < i → P k) (h : P i) : ∀ k, k < i + 1 → P k := fun k hk => by
 by_cases e : k = i
 · subst e; exact h
 · exact hz k (by omega)
theorem getD_mem {α : Type} {l : List α} {i : Nat} {d : α} (h : i < l.length) : l.getD i d ∈ l := by rw [getD_lt h]; exact List.getElem_mem h
theorem mem_getD {α : Type} {l : List α} {x : α} {d : α} (h : x ∈ l) : ∃ k, k < l.length ∧ l.getD k d = x := by
 obtain ⟨k, hk, e⟩ := List.getElem_of_mem h
 exact ⟨k, hk, by rw [getD_lt hk]; exact e⟩

def weightV (l : List Pce) : Int := (l.map (fun x => x.2.1)).sum
theorem weightV_succ {l : List Pce} {i : Nat} (h : i < l.length) : weightV (l.take (i + 1)) = weightV (l.take i) + (l.getD i pc0).2.1 := by
 unfold weightV
 rw [List.take_succ_eq_append_getElem h, List.map_append, List.sum_append, getD_lt h]
 simp
theorem weightV_bd {l : List Pce} (h : ∀ i, i < l.length → 0 ≤ (l.getD i pc0).2.1 ∧ (l.getD i pc0).2.1 ≤ 999) : ∀ i, i ≤ l.length → 0 ≤ weightV (l.take i) ∧ weightV (l.take i) ≤ 999 * i := by
 intro i
 induction i with
 | zero => intro _; simp [weightV]
 | succ i ih =>
   intro hi
   rw [weightV_succ (by omega)]
   have := ih (by omega)
   have := h i (by omega)
   omega
def con72 : Con := { ps := [.d false (.sl yPC)], rs := [.d false (.int .i64)], pre := fun (x : List Pce × Unit) => x.1.length ≤ 100000 ∧ ∀ i, i < x.1.length → 0 ≤ (x.1.getD i pc0).2.1 ∧ (x.1.getD i pc0).2.1 ≤ 999, out := fun (x : List Pce × Unit) => (weightV x.1, ()), nw := id }
theorem c72 : CtrOk Tryd.prog 72 con72.ctr :=
 con_sound (G := ⟨[], [], [], [], []⟩) tab_ok EnvOk.nil rfl Tryd.func72 rfl con72 1005 (by kernel_rfl) (by decide) (by decide) rfl (by decide) rfl (by
  rintro ⟨(l : List Pce), _⟩ hpre hwf X hT hG hk hK
  (simp -implicitDefEqProofs (maxSteps := 4000000) only [go_sem, Bool.not_eq_true', Bool.not_eq_false', Bool.or_eq_true, Bool.or_eq_false_iff, Bool.and_eq_true, Bool.and_eq_false_iff, decide_eq_true_eq, decide_eq_false_iff_not, Classical.not_not, not_or, maxLen, con72, hT, hG, hk, hK, Tryd.results72] at hwf ⊢); (try simp (disch := decide +kernel) only [drawn, true_and, and_true])
  obtain ⟨h1, h2⟩ : l.length ≤ 100000 ∧ ∀ i, i < l.length → 0 ≤ (l.getD i pc0).2.1 ∧ (l.getD i pc0).2.1 ≤ 999 := hpre
  have hb := weightV_bd h2
  refine fun _ => evk_loop ⟨{ i : Nat // i ≤ l.length }, 1000, fun q => [(3, .one (.int .i64 (weightV (l.take q.1)))), (6, .one (.sl yPC l false)), (7, .one (.int .i64 l.length)), (8, .one (.int .i64 q.1))], fun q => [], fun q => l.length - q.1⟩ ⟨0, by omega⟩ ?_ ?_
  · simp only [go_sem]
    try (first | rfl | exact ⟨rfl, rfl⟩ | (and_intros <;> first | trivial | rfl | omega))
  · rintro ⟨i, (hi : i ≤ l.length)⟩
    have hbi := hb i hi
    (simp -implicitDefEqProofs (maxSteps := 4000000) only [go_sem, Bool.not_eq_true', Bool.not_eq_false', Bool.or_eq_true, Bool.or_eq_false_iff, Bool.and_eq_true, Bool.and_eq_false_iff, decide_eq_true_eq, decide_eq_false_iff_not, Classical.not_not, not_or, maxLen, con72, hT, hG, hk, hK, Tryd.results72]); (try simp (disch := decide +kernel) only [drawn, true_and, and_true])
    obtain ⟨o, ho⟩ : ∃ o, l.getD i pc0 = o := ⟨_, rfl⟩
    have eo : l.getD (i : Int).toNat ((0, 0, 0), 0, 0) = o := ho
    rw [eo]
    have hw : i < l.length → weightV (l.take (i + 1)) = weightV (l.take i) + o.2.1 := fun h => by rw [weightV_succ h, ho]
    have h2i := h2 i
    rw [ho] at h2i
    (repeat' (with_reducible (first | refine And.intro ?_ ?_ | intro _))) <;> (try (first | with_reducible (first | done | assumption | omega | contradiction) | decide))
    · have hil : i < l.length := by omega
      refine fin_lp ⟨i + 1, by omega⟩ ?_ (by dsimp only; omega)
      simp only [go_sem]
      rw [hw hil]
      try (first | rfl | exact ⟨rfl, rfl⟩ | (and_intros <;> first | trivial | rfl | omega))
    · rw [List.take_of_length_le (by omega)])
theorem okPc_bd {o : Pce} (h : okPc o = true) : (1 ≤ o.2.1 ∧ o.2.1 ≤ 999) ∧ 0 ≤ o.2.2 ∧ o.2.2 ≤ 4 := by
 unfold okPc inV at h
 simp only [Bool.and_eq_true, decide_eq_true_eq] at h
 omega
theorem ct_weights {c : Cnt} (h : ctErr c = 0) : c.pcs.length ≤ 100000 ∧ ∀ i, i < c.pcs.length → 0 ≤ (c.pcs.getD i pc0).2.1 ∧ (c.pcs.getD i pc0).2.1 ≤ 999 := by
 obtain ⟨_, h2, h3⟩ := ctErr_zero h
 exact ⟨by omega, fun i hi => by have := okPc_bd (h3 i hi).1; omega⟩
theorem propC_cats {c : Cnt} (h : propC c = true) : 0 ≤ c.cats ∧ c.cats ≤ 31 := by
 unfold propC inV at h
 simp only [Bool.and_eq_true, decide_eq_true_eq] at h
 omega
def con54 : Con := { ps := [.d true yCT], rs := [.d false (.int .i64)], pre := fun _ => True, out := fun (x : Cnt × Unit) => (if ctErr x.1 ≠ 0 then 0 else weightV x.1.pcs, ()), nw := id }
theorem c54 : CtrOk Tryd.prog 54 con54.ctr :=
 con_sound (G := ⟨[(52, con52.ctr), (72, con72.ctr)], [], [], [], []⟩) tab_ok (EnvOk.cons c52 has52 (EnvOk.cons c72 has72 EnvOk.nil)) rfl Tryd.func54 rfl con54 39 (by kernel_rfl) (by decide) (by decide) rfl (by decide) rfl (by
  rintro ⟨⟨(n : Int), ⟨a1, (a2 : Int), a3, (a4 : Int)⟩, (c : Int), (lm : Int), (t : Int), (p : Int), (r : Int), (l : List Pce)⟩, _⟩ hpre hwf X hT hG hk hK
  (simp -implicitDefEqProofs (maxSteps := 4000000) only [go_sem, Bool.not_eq_true', Bool.not_eq_false', Bool.or_eq_true, Bool.or_eq_false_iff, Bool.and_eq_true, Bool.and_eq_false_iff, decide_eq_true_eq, decide_eq_false_iff_not, Classical.not_not, not_or, maxLen, con54, con52, con72, hT, hG, hk, hK, Tryd.results54] at hwf ⊢); (try simp (disch := decide +kernel) only [drawn, true_and, and_true])
  clear hwf
  have hw := ct_weights (c := (n, (a1, a2, a3, a4), c, lm, t, p, r, l))
  generalize he : ctErr (n, (a1, a2, a3, a4), c, lm, t, p, r, l) = e at hw ⊢
  (repeat' (with_reducible (first | refine And.intro ?_ ?_ | intro _))) <;> (try (first | with_reducible (first | done | assumption | omega | contradiction) | decide))
  all_goals first
   | (have h0 : e = 0 := by assumption
      exact (hw h0).1)
   | (have h0 : e = 0 := by assumption
      exact (hw h0).2)
   | (have h0 : e = 0 := by assumption
      exact ((hw h0).2 _ (by assumption)).1)
   | (have h0 : e = 0 := by assumption
      exact ((hw h0).2 _ (by assumption)).2)
   | (have h0 : ¬ e = 0 := by assumption
      rw [if_pos h0])
   | (have h0 : e = 0 := by assumption
      rw [if_neg (by simp [h0])]))
def overV (c : Cnt) : Bool := if ctErr c ≠ 0 then false else c.pcs.any (fun x => !takesV c x.2.2) || decide (weightV c.pcs > c.lim) || decide ((c.pcs.length : Int) > c.most)
def con37 : Con := { ps := [.d true yCT], rs := [.d false .bool], pre := fun _ => True, out := fun (x : Cnt × Unit) => (overV x.1, ()), nw := id }
theorem c37 : CtrOk Tryd.prog 37 con37.ctr :=
 con_sound (G := ⟨[(52, con52.ctr), (53, con53.ctr), (54, con54.ctr)], [], [], [], []⟩) tab_ok (EnvOk.cons c52 has52 (EnvOk.cons c53 has53 (EnvOk.cons c54 has54 EnvOk.nil))) rfl Tryd.func37 rfl con37 532119 (by kernel_rfl) (by decide) (by decide) rfl (by decide) rfl (by
  rintro ⟨⟨(n : Int), ⟨a1, (a2 : Int), a3, (a4 : Int)⟩, (c : Int), (lm : Int), (t : Int), (p : Int), (r : Int), (l : List Pce)⟩, _⟩ hpre hwf X hT hG hk hK
  (simp -implicitDefEqProofs (maxSteps := 4000000) only [go_sem, Bool.not_eq_true', Bool.not_eq_false', Bool.or_eq_true, Bool.or_eq_false_iff, Bool.and_eq_true, Bool.and_eq_false_iff, decide_eq_true_eq, decide_eq_false_iff_not, Classical.not_not, not_or, maxLen, con37, con52, con53, con54, hT, hG, hk, hK, Tryd.results37] at hwf ⊢); (try simp (disch := decide +kernel) only [drawn, true_and, and_true])
  clear hwf
  obtain ⟨C, hC⟩ : ∃ C : Cnt, (n, (a1, a2, a3, a4), c, lm, t, p, r, l) = C := ⟨_, rfl⟩
  simp only [hC]
  have hl : C.pcs = l := by rw [← hC]
  have hcc : C.cats = c := by rw [← hC]
  have hm : C.lim = lm := by rw [← hC]
  have hmo : C.most = t := by rw [← hC]
  refine fun _ => ⟨fun h => ?_, fun h hlen => ?_⟩
  · unfold overV; rw [if_pos h]
  · obtain ⟨g1, g2, g3⟩ := ctErr_zero h
    have g4 := propC_cats g1
    rw [hl] at g2 g3
    rw [hcc] at g4
    have e0 : overV C = (l.any (fun x => !takesV C x.2.2) || decide (weightV l > lm) || decide ((l.length : Int) > t)) := by
     unfold overV; rw [if_neg (by simp [h]), hl, hm, hmo]
    refine evk_loop ⟨{ i : Nat // i ≤ l.length ∧ ∀ k, k < i → (fun x : Pce => !takesV C x.2.2) (l.getD k pc0) = false }, 1000, fun q => [(1, .one (.loc 70 0)), (2, .one (.bool false)), (9, .one (.sl yPC l false)), (10, .one (.int .i64 l.length)), (11, .one (.int .i64 q.1))], fun q => [(70, .cells 74 [.int .i64 n, .str a1, .int .i64 a2, .str a3, .int .i64 a4, .int .i64 c, .int .i64 lm, .int .i64 t, .int .i64 p, .int .i64 r, .sl yPC l false])], fun q => l.length - q.1⟩ ⟨0, by omega, fun k hk => by omega⟩ ?_ ?_
    · simp only [go_sem]
      try (first | rfl | exact ⟨rfl, rfl⟩ | (and_intros <;> first | trivial | rfl | omega))
    · rintro ⟨i, (hi : i ≤ l.length), hz⟩
      (simp -implicitDefEqProofs (maxSteps := 4000000) only [go_sem, Bool.not_eq_true', Bool.not_eq_false', Bool.or_eq_true, Bool.or_eq_false_iff, Bool.and_eq_true, Bool.and_eq_false_iff, decide_eq_true_eq, decide_eq_false_iff_not, Classical.not_not, not_or, maxLen, con37, con52, con53, con54, hT, hG, hk, hK, Tryd.results37]); (try simp (disch := decide +kernel) only [drawn, true_and, and_true])
      simp only [hC]
      obtain ⟨o, ho⟩ : ∃ o, l.getD i pc0 = o := ⟨_, rfl⟩
      have eo : l.getD (i : Int).toNat ((0, 0, 0), 0, 0) = o := ho
      rw [eo]
      have ho2 : i < l.length → (1 ≤ o.2.1 ∧ o.2.1 ≤ 999) ∧ 0 ≤ o.2.2 ∧ o.2.2 ≤ 4 := fun hi => okPc_bd (ho ▸ (g3 i hi).1)
      simp only [hcc]
      refine ⟨fun hlt => ?_, fun hge => ?_⟩
      · have ho2 := ho2 (by omega)
        (repeat' (with_reducible (first | refine And.intro ?_ ?_ | intro _))) <;> (try (first | with_reducible (first | done | assumption | omega | contradiction) | decide))
        all_goals first
         | (have h1 : takesV C o.2.2 = false := by assumption
            rw [e0, any_at (d := pc0) (i := i) (by omega) (by rw [ho, h1]; rfl)]
            simp; done)
         | (have h1 : takesV C o.2.2 = true := by assumption
            refine fin_lp ⟨i + 1, by omega, lt_succ hz (by show (!takesV C (l.getD i pc0).2.2) = false; rw [ho, h1]; first | done | rfl)⟩ (by simp only [go_sem]; first | rfl | ((repeat' apply And.intro) <;> first | rfl | assumption | omega)) (by dsimp only; omega)
            done)
         | skip
      · have hz' : l.any (fun x => !takesV C x.2.2) = false := any_none (d := pc0) fun k hk => hz k (by omega)
        rw [e0, hz', h]
        simp only [if_neg (show ¬ (0 : Int) ≠ 0 by simp), hl]
        (repeat' (with_reducible (first | refine And.intro ?_ ?_ | intro _))) <;> (try (first | with_reducible (first | done | assumption | omega | contradiction) | decide))
        all_goals first | rfl | simp | skip)
def holdsV (c : Cnt) (p : Plt) : Bool := c.pcs.any (fun x => decide (x.1 = p))
end Go.Proofs.YtjhoidgpecgfoaaDoor
