/- The contracts of the generators of the chapter on repairs. -/
import Derived.Test.YtfaoonbnbdlgaaaRlRTToRB2
import Derived.Test.YtfaoonbnbdlgaaaEvTab
import Derived.OpenShut
import Derived.JoinedCond
import Derived.Below
import Derived.ChangeSame
import Derived.ChangeArms
import Derived.WideKeyArgs
set_option linter.unusedSimpArgs false
set_option linter.unusedVariables false
set_option maxRecDepth 100000
set_option maxHeartbeats 8000000
namespace Go.Proofs.Ytfaoonbnbdlgaaa
open Go.Ev

/-- Chutes with gaps. -/
def chX : Nat → Src → Int → List Int × Src
 | 0, s, _ => ([], s)
 | n + 1, s, c => ((c + (1 + goMod s.raw 2)) :: (chX n s.step (c + (1 + goMod s.raw 2))).1, (chX n s.step (c + (1 + goMod s.raw 2))).2)
def chsV (s : Src) (n : Int) : List Int × Src := chX (goMod s.raw (n + 1)).toNat s.step 0
theorem chX_ok : ∀ (n : Nat) (s : Src) (c : Int), (chX n s c).1.length = n ∧ (∀ x ∈ (chX n s c).1, c < x ∧ x ≤ c + 2 * n) ∧ ascI (c :: (chX n s c).1) = true ∧ (0 ≤ s.2 → 0 ≤ (chX n s c).2.2)
 | 0, s, c => ⟨rfl, by simp [chX], rfl, fun h => h⟩
 | n + 1, s, c => by
   have hb := goMod_bd s.raw 2 (by omega)
   obtain ⟨h1, h2, h3, h4⟩ := chX_ok n s.step (c + (1 + goMod s.raw 2))
   unfold chX
   refine ⟨by simp [h1], fun x hx => ?_, ?_, fun h => h4 (Src.step_pos s h)⟩
   · rcases List.mem_cons.1 hx with rfl | hx
     · omega
     · have := h2 x hx; omega
   · rw [ascI, h3, decide_eq_true (by omega)]; rfl
def con8 : Con := { ps := [.p 54 ySR, .d false (.int .i64)], rs := [.d false (.sl (.int .i64))], pre := fun (x : Src × Int × Unit) => 0 ≤ x.1.2 ∧ 0 ≤ x.2.1 ∧ x.2.1 ≤ 1000, out := fun (x : Src × Int × Unit) => ((chsV x.1 x.2.1).1, ()), nw := fun x => ((chsV x.1 x.2.1).2, x.2) }
theorem c8 : CtrOk Try.prog 8 con8.ctr :=
 con_sound (G := ⟨[(10, con10.ctr)], [], [], [], []⟩) tab_ok (EnvOk.cons c10 has10 EnvOk.nil) rfl Try.func8 rfl con8 8435 (by kernel_rfl) (by decide) (by decide) rfl (by decide) rfl (by
  rintro ⟨⟨(sl : List Int), (sa : Int)⟩, (most : Int), _⟩ hpre hwf X hT hG hk hK
  obtain ⟨h1, h2, h3⟩ : 0 ≤ sa ∧ 0 ≤ most ∧ most ≤ 1000 := hpre
  (simp -implicitDefEqProofs (maxSteps := 4000000) only [go_sem, Bool.not_eq_true', Bool.not_eq_false', Bool.or_eq_true, Bool.or_eq_false_iff, Bool.and_eq_true, Bool.and_eq_false_iff, decide_eq_true_eq, decide_eq_false_iff_not, Classical.not_not, not_or, maxLen, con8, con10, hT, hG, hk, hK, Try.results8] at hwf ⊢); (try simp (disch := decide +kernel) only [drawn, true_and, and_true])
  have hn0 := goMod_bd (Src.raw (sl, sa)) (most + 1) (by omega)
  have hs := Src.step_pos (sl, sa) h1
  have hv : chsV (sl, sa) most = chX (goMod (Src.raw (sl, sa)) (most + 1)).toNat (Src.step (sl, sa)) 0 := rfl
  generalize goMod (Src.raw (sl, sa)) (most + 1) = n0 at hn0 hv ⊢
  generalize Src.step (sl, sa) = s1 at hs hv ⊢
  (repeat' (with_reducible (first | refine And.intro ?_ ?_ | intro _))) <;> (try (first | with_reducible (first | done | assumption | omega | contradiction) | decide))
  refine evk_loop ⟨{ q : Src × Int × Nat × List Int // 0 ≤ q.1.2 ∧ 0 ≤ q.2.1 ∧ q.2.1 ≤ 2 * (n0 - q.2.2.1) ∧ q.2.2.2.length + q.2.2.1 ≤ n0.toNat ∧ chX n0.toNat s1 0 = (q.2.2.2 ++ (chX q.2.2.1 q.1 q.2.1).1, (chX q.2.2.1 q.1 q.2.1).2) }, 1000,
   fun q => [(0, .one (.loc 0 0)), (5, .one (.row 64)), (6, .one (.int .i64 q.1.2.1)), (7, .one (.int .i64 q.1.2.2.1))],
   fun q => [(0, .cells 54 [.sl (.int .i64) q.1.1.1 false, .int .i64 q.1.1.2]), (64, .row 3 (.int .i64) q.1.2.2.2)], fun q => q.1.2.2.1⟩
   ⟨(s1, 0, n0.toNat, []), hs, by simp, by simp only; omega, by simp, by simp⟩ ?_ ?_
  · simp only [go_sem]
    first
     | rfl
     | omega
  · rintro ⟨⟨⟨ql, qa⟩, k, i, out⟩, (c1 : 0 ≤ qa), (c2 : 0 ≤ k), (c3 : k ≤ 2 * (n0 - i)), (c5 : out.length + i ≤ n0.toNat), (c6 : chX n0.toNat s1 0 = (out ++ (chX i (ql, qa) k).1, (chX i (ql, qa) k).2))⟩
    (simp -implicitDefEqProofs (maxSteps := 4000000) only [go_sem, Bool.not_eq_true', Bool.not_eq_false', Bool.or_eq_true, Bool.or_eq_false_iff, Bool.and_eq_true, Bool.and_eq_false_iff, decide_eq_true_eq, decide_eq_false_iff_not, Classical.not_not, not_or, maxLen, con8, con10, hT, hG, hk, hK, Try.results8]); (try simp (disch := decide +kernel) only [drawn, true_and, and_true])
    have b3 := goMod_bd (Src.raw (ql, qa)) 2 (by omega)
    have p1 := Src.step_pos (ql, qa) c1
    refine ⟨fun hc => ?_, fun hc => ?_⟩
    · obtain ⟨j, rfl⟩ : ∃ j, i = j + 1 := ⟨i - 1, by omega⟩
      rw [chX] at c6
      (repeat' (with_reducible (first | refine And.intro ?_ ?_ | intro _))) <;> (try (first | with_reducible (first | done | assumption | omega | contradiction) | decide))
      refine fin_lp ⟨(Src.step (ql, qa), k + (1 + goMod (Src.raw (ql, qa)) 2), j, out ++ [k + (1 + goMod (Src.raw (ql, qa)) 2)]), p1, by dsimp only; omega, by dsimp only; omega, by rw [List.length_append]; simp only [List.length_singleton]; omega, by dsimp only; rw [c6]; simp⟩ (by simp only [go_sem]; first | rfl | ((repeat' apply And.intro) <;> first | rfl | assumption | omega)) (by dsimp only; omega)
    · obtain rfl : i = 0 := by omega
      rw [chX] at c6
      rw [hv, c6]
      exact ⟨rfl, rfl, by simp⟩)
def oldL (wild : Bool) : List All → Src → List All × Src
 | [], s => ([], s)
 | a :: l, s => if goMod s.raw 6 = 5 then oldL wild l s.step
   else if wild = true then
    (if goMod s.step.raw 3 = 2 then ((a.1, goMod s.step.step.raw 7) :: (oldL wild l s.step.step.step).1, (oldL wild l s.step.step.step).2)
     else (a :: (oldL wild l s.step.step).1, (oldL wild l s.step.step).2))
   else (a :: (oldL wild l s.step).1, (oldL wild l s.step).2)
theorem oldL_pos (wild : Bool) : ∀ (l : List All) (s : Src), 0 ≤ s.2 → 0 ≤ (oldL wild l s).2.2
 | [], _, h => h
 | a :: l, s, h => by
   have p1 := Src.step_pos s h
   have p2 := Src.step_pos _ p1
   have p3 := Src.step_pos _ p2
   have h1 := oldL_pos wild l s.step p1
   have h2 := oldL_pos wild l s.step.step p2
   have h3 := oldL_pos wild l s.step.step.step p3
   unfold oldL
   (repeat' split) <;> assumption
def oldV (s : Src) (l : List Dep) (wild : Bool) : List All × Src := oldL wild (refP l [1, 2, 3, 4, 5, 6]).1.1 s
theorem stepR_len (cs : List Int) (D : List Dep) (p : List All) (d : Dep) : (stepR cs D p d).length ≤ p.length + 1 := by
 unfold stepR
 split
 · rw [placeV_len]; omega
 · omega
theorem refG_len (cs : List Int) : ∀ (ds D : List Dep) (p : List All), (refG cs D ds p).length ≤ p.length + ds.length
 | [], _, p => Nat.le_refl _
 | d :: ds, D, p => by
   have h1 := refG_len cs ds (D ++ [d]) (stepR cs D p d)
   have h2 := stepR_len cs D p d
   unfold refG
   simp only [List.length_cons]; omega
theorem refP_len (l : List Dep) (cs : List Int) : (refP l cs).1.1.length ≤ l.length := by
 unfold refP
 split
 · exact Nat.zero_le _
 · split
   · exact Nat.zero_le _
   · have h1 := refG_len cs (isort (planV l)) [] []
     have h2 := isort_len (planV l)
     have h3 := planV_len l
     simp only [List.length_nil] at h1
     show (refG cs [] (isort (planV l)) []).length ≤ l.length
     omega
def con9 : Con := { ps := [.p 54 ySR, .d false (.sl yDP), .d false .bool], rs := [.d false (.sl (.pair yFL (.int .i64)))], pre := fun (x : Src × List Dep × Bool × Unit) => 0 ≤ x.1.2 ∧ x.2.1.length ≤ 1000, out := fun (x : Src × List Dep × Bool × Unit) => ((oldV x.1 x.2.1 x.2.2.1).1, ()), nw := fun (x : Src × List Dep × Bool × Unit) => ((oldV x.1 x.2.1 x.2.2.1).2, x.2) }
theorem c9 : CtrOk Try.prog 9 con9.ctr :=
 con_sound (G := ⟨[(10, con10.ctr), (23, con23.ctr)], [], [(35, 4)], [], []⟩) tab_ok (EnvOk.cons c10 has10 (EnvOk.cons c23 has23 EnvOk.nil)) rfl Try.func9 rfl con9 139593780935 (by kernel_rfl) (by decide) (by decide) rfl (by decide) rfl (by
  rintro ⟨⟨(s : List Int), (a : Int)⟩, (l : List Dep), (wild : Bool), _⟩ hpre hwf X hT hG hk hK
  obtain ⟨h1, h2⟩ : 0 ≤ a ∧ l.length ≤ 1000 := hpre
  (simp -implicitDefEqProofs (maxSteps := 4000000) only [go_sem, Bool.not_eq_true', Bool.not_eq_false', Bool.or_eq_true, Bool.or_eq_false_iff, Bool.and_eq_true, Bool.and_eq_false_iff, decide_eq_true_eq, decide_eq_false_iff_not, Classical.not_not, not_or, maxLen, con9, con10, con23, hT, hG, hk, hK, Try.results9] at hwf ⊢); (try simp (disch := decide +kernel) only [drawn, true_and, and_true])
  clear hwf
  have hpl := refP_len l [1, 2, 3, 4, 5, 6]
  have hV : oldV (s, a) l wild = oldL wild (refP l [1, 2, 3, 4, 5, 6]).1.1 (s, a) := rfl
  generalize refP l [1, 2, 3, 4, 5, 6] = R at hpl hV ⊢
  obtain ⟨⟨P, (T : Int), C⟩, (E : Int)⟩ := R
  simp only at hpl hV ⊢
  refine ⟨by omega, fun _ _ => ?_⟩
  refine evk_loop ⟨{ q : Src × Nat × List All // 0 ≤ q.1.2 ∧ q.2.1 ≤ P.length ∧ q.2.2.length ≤ q.2.1 ∧ oldL wild P (s, a) = (q.2.2 ++ (oldL wild (P.drop q.2.1) q.1).1, (oldL wild (P.drop q.2.1) q.1).2) }, 1000,
   fun q => [(0, .one (.loc 0 0)), (2, .one (.bool wild)), (7, .one (.loc 64 0)), (9, .one (.row 65)), (20, .one (.int .i64 P.length)), (21, .one (.int .i64 q.1.2.1))],
   fun q => [(0, .cells 54 [.sl (.int .i64) q.1.1.1 false, .int .i64 q.1.1.2]), (64, .cells 58 [.sl (.pair yFL (.int .i64)) P false, .int .i64 T, .sl yFL C false]), (65, .row 44 (.pair yFL (.int .i64)) q.1.2.2)], fun q => P.length - q.1.2.1⟩
   ⟨((s, a), 0, []), h1, Nat.zero_le _, Nat.le_refl _, rfl⟩ ?_ ?_
  · simp only [go_sem]
    try rfl
  · rintro ⟨⟨⟨ql, (qa : Int)⟩, i, acc⟩, (c1 : 0 ≤ qa), (c2 : i ≤ P.length), (c3 : acc.length ≤ i), (c4 : oldL wild P (s, a) = (acc ++ (oldL wild (P.drop i) (ql, qa)).1, (oldL wild (P.drop i) (ql, qa)).2))⟩
    have p1 := Src.step_pos (ql, qa) c1
    have p2 := Src.step_pos _ p1
    have p3 := Src.step_pos _ p2
    by_cases hi' : i < P.length
    · have ek : ∀ z, P.getD (i : Int).toNat z = P[i] := fun z => by simp [hi']
      rw [List.drop_eq_getElem_cons hi', oldL] at c4
      have hfin : ∀ (s1 : Src) (o : List All), 0 ≤ s1.2 → o.length ≤ 1 → oldL wild P (s, a) = (acc ++ (o ++ (oldL wild (P.drop (i + 1)) s1).1), (oldL wild (P.drop (i + 1)) s1).2) →
       0 ≤ s1.2 ∧ i + 1 ≤ P.length ∧ (acc ++ o).length ≤ i + 1 ∧ oldL wild P (s, a) = ((acc ++ o) ++ (oldL wild (P.drop (i + 1)) s1).1, (oldL wild (P.drop (i + 1)) s1).2) := fun s1 o h1 h2 h3 =>
       ⟨h1, by omega, by rw [List.length_append]; omega, by rw [h3, List.append_assoc]⟩
      cases wild
      · (simp -implicitDefEqProofs (maxSteps := 4000000) only [go_sem, Bool.not_eq_true', Bool.not_eq_false', Bool.or_eq_true, Bool.or_eq_false_iff, Bool.and_eq_true, Bool.and_eq_false_iff, decide_eq_true_eq, decide_eq_false_iff_not, Classical.not_not, not_or, maxLen, con9, con10, con23, hT, hG, hk, hK, Try.results9]); (try simp (disch := decide +kernel) only [drawn, true_and, and_true])
        simp only [ek]
        (repeat' (with_reducible (first | refine And.intro ?_ ?_ | intro _))) <;> (try (first | with_reducible (first | done | assumption | omega | contradiction) | decide))
        all_goals first
         | (rw [if_pos (by assumption)] at c4
            refine fin_lp ⟨(Src.step (ql, qa), i + 1, acc), p1, hi', by dsimp only; omega, c4⟩ ?_ ?_
            · simp only [go_sem]
              first | rfl | exact ⟨rfl, by omega⟩ | omega
            · dsimp only; omega)
         | (rw [if_neg (by assumption), if_neg (by simp)] at c4
            refine fin_lp ⟨(Src.step (ql, qa), i + 1, acc ++ [P[i]]), hfin (Src.step (ql, qa)) [P[i]] p1 (Nat.le_refl _) c4⟩ ?_ ?_
            · simp only [go_sem]
              first | rfl | exact ⟨rfl, by omega⟩ | omega
            · dsimp only; omega)
         | fail
      · (simp -implicitDefEqProofs (maxSteps := 4000000) only [go_sem, Bool.not_eq_true', Bool.not_eq_false', Bool.or_eq_true, Bool.or_eq_false_iff, Bool.and_eq_true, Bool.and_eq_false_iff, decide_eq_true_eq, decide_eq_false_iff_not, Classical.not_not, not_or, maxLen, con9, con10, con23, hT, hG, hk, hK, Try.results9]); (try simp (disch := decide +kernel) only [drawn, true_and, and_true])
        simp only [ek]
        (repeat' (with_reducible (first | refine And.intro ?_ ?_ | intro _))) <;> (try (first | with_reducible (first | done | assumption | omega | contradiction) | decide))
        all_goals first
         | (rw [if_pos (by assumption)] at c4
            refine fin_lp ⟨(Src.step (ql, qa), i + 1, acc), p1, hi', by dsimp only; omega, c4⟩ ?_ ?_
            · simp only [go_sem]
              first | rfl | exact ⟨rfl, by omega⟩ | omega
            · dsimp only; omega)
         | (rw [if_neg (by assumption), if_pos rfl, if_pos (by assumption)] at c4
            refine fin_lp ⟨((Src.step (ql, qa)).step.step, i + 1, acc ++ [(P[i].1, goMod (Src.step (ql, qa)).step.raw 7)]), hfin _ [(P[i].1, goMod (Src.step (ql, qa)).step.raw 7)] p3 (Nat.le_refl _) c4⟩ ?_ ?_
            · simp only [go_sem]
              first | rfl | exact ⟨rfl, by omega⟩ | omega
            · dsimp only; omega)
         | (rw [if_neg (by assumption), if_pos rfl, if_neg (by assumption)] at c4
            refine fin_lp ⟨((Src.step (ql, qa)).step, i + 1, acc ++ [P[i]]), hfin _ [P[i]] p2 (Nat.le_refl _) c4⟩ ?_ ?_
            · simp only [go_sem]
              first | rfl | exact ⟨rfl, by omega⟩ | omega
            · dsimp only; omega)
         | fail
    · rw [List.drop_of_length_le (by omega), oldL] at c4
      cases wild
      · (simp -implicitDefEqProofs (maxSteps := 4000000) only [go_sem, Bool.not_eq_true', Bool.not_eq_false', Bool.or_eq_true, Bool.or_eq_false_iff, Bool.and_eq_true, Bool.and_eq_false_iff, decide_eq_true_eq, decide_eq_false_iff_not, Classical.not_not, not_or, maxLen, con9, con10, con23, hT, hG, hk, hK, Try.results9]); (try simp (disch := decide +kernel) only [drawn, true_and, and_true])
        refine ⟨fun h => absurd h (by omega), fun _ => ?_⟩
        rw [hV, c4]
        exact ⟨rfl, rfl, (List.append_nil _).symm⟩
      · (simp -implicitDefEqProofs (maxSteps := 4000000) only [go_sem, Bool.not_eq_true', Bool.not_eq_false', Bool.or_eq_true, Bool.or_eq_false_iff, Bool.and_eq_true, Bool.and_eq_false_iff, decide_eq_true_eq, decide_eq_false_iff_not, Classical.not_not, not_or, maxLen, con9, con10, con23, hT, hG, hk, hK, Try.results9]); (try simp (disch := decide +kernel) only [drawn, true_and, and_true])
        refine ⟨fun h => absurd h (by omega), fun _ => ?_⟩
        rw [hV, c4]
        exact ⟨rfl, rfl, (List.append_nil _).symm⟩)
end Go.Proofs.Ytfaoonbnbdlgaaa

/- The sanity check of the chapter on repairs. -/
set_option linter.unusedSimpArgs false
set_option linter.unusedVariables false
set_option maxRecDepth 100000
set_option maxHeartbeats 8000000
namespace Go.Proofs.Ytfaoonbnbdlgaaa
open Go.Ev

theorem cmpS_self (a : ByteArray) : cmpS a a = 0 := (cmpS_cmp.eq a a).2 rfl
def f0 : Flt := (⟨#[66, 65]⟩, 1, ByteArray.empty, 1)
def f1 : Flt := (⟨#[66, 65]⟩, 1, ByteArray.empty, 2)
def pairV : List Dep := [day1 0 10, day1 1 15]
def con39 : Con := { ps := [], rs := [.d false (.sl yDP)], pre := fun _ => True, out := fun _ => (pairV, ()), nw := id }
theorem c39 : CtrOk Try.prog 39 con39.ctr :=
 con_sound (G := ⟨[(21, con21.ctr)], [], [], [], []⟩) tab_ok (EnvOk.cons c21 has21 EnvOk.nil) rfl Try.func39 rfl con39 255 (by kernel_rfl) (by decide) (by decide) rfl (by decide) rfl (by
  rintro _ hpre hwf X hT hG hk hK
  (simp -implicitDefEqProofs (maxSteps := 4000000) only [go_sem, Bool.not_eq_true', Bool.not_eq_false', Bool.or_eq_true, Bool.or_eq_false_iff, Bool.and_eq_true, Bool.and_eq_false_iff, decide_eq_true_eq, decide_eq_false_iff_not, Classical.not_not, not_or, maxLen, con39, con21, hT, hG, hk, hK, Try.results39] at hwf ⊢); (try simp (disch := decide +kernel) only [drawn, true_and, and_true])
  refine fun _ => evk_loop ⟨{ i : Nat // i ≤ 2 }, 1000, fun i => [(1, .one (.row 64)), (4, .one (.row 96)), (5, .one (.int .i64 2)), (6, .one (.int .i64 i.1))],
   fun i => [(64, .row 42 yDP (pairV.take i.1)), (96, .row 3 (.int .i64) [10, 15])], fun i => 2 - i.1⟩ ⟨0, by omega⟩ ?_ ?_
  · simp only [go_sem]
    exact ⟨rfl, rfl⟩
  · rintro ⟨i, (hi : i ≤ 2)⟩
    (simp -implicitDefEqProofs (maxSteps := 4000000) only [go_sem, Bool.not_eq_true', Bool.not_eq_false', Bool.or_eq_true, Bool.or_eq_false_iff, Bool.and_eq_true, Bool.and_eq_false_iff, decide_eq_true_eq, decide_eq_false_iff_not, Classical.not_not, not_or, maxLen, con39, con21, hT, hG, hk, hK, Try.results39]); (try simp (disch := decide +kernel) only [drawn, true_and, and_true])
    have hl : (pairV.take i).length ≤ 2 := by rw [List.length_take]; exact Nat.le_trans (Nat.min_le_right _ _) (by decide)
    have hs : i < 2 → pairV.take (i + 1) = pairV.take i ++ [(fltsV i, ⟨#[67, 80, 72]⟩, ([10, 15] : List Int).getD (i : Int).toNat 0, ([10, 15] : List Int).getD (i : Int).toNat 0 + 10, ([10, 15] : List Int).getD (i : Int).toNat 0 + 12, 0, 0)] := fun h => by
     rcases (by omega : i = 0 ∨ i = 1) with rfl | rfl <;> rfl
    have hg : i < 2 → 10 ≤ ([10, 15] : List Int).getD (i : Int).toNat 0 ∧ ([10, 15] : List Int).getD (i : Int).toNat 0 ≤ 20 := fun h => by
     rcases (by omega : i = 0 ∨ i = 1) with rfl | rfl <;> decide
    generalize ([10, 15] : List Int).getD (i : Int).toNat 0 = t at hs hg ⊢
    (repeat' (with_reducible (first | refine And.intro ?_ ?_ | intro _))) <;> (try (first | with_reducible (first | done | assumption | omega | contradiction) | decide))
    · have h3 : i < 2 := by omega
      have := hg h3
      (repeat' (with_reducible (first | refine And.intro ?_ ?_ | intro _))) <;> (try (first | with_reducible (first | done | assumption | omega | contradiction) | decide))
      refine fin_lp ⟨i + 1, by omega⟩ ?_ ?_
      · simp only [go_sem]
        rw [hs h3]
        exact ⟨rfl, rfl⟩
      · dsimp only; omega
    · rw [List.take_of_length_le (by show 2 ≤ i; omega)])
theorem pair_valid : validateV pairV = 0 := by
 have v0 : validV (day1 0 10) = true := by decide +kernel
 have v1 : validV (day1 1 15) = true := by decide +kernel
 have c1 : fltC f0 f1 = -1 := by simp [fltC, f0, f1, cmpS_self, orV, cmpV]
 have d1 : fltC (day1 0 10).1 (day1 1 15).1 = -1 := c1
 unfold validateV pairV
 simp [valF, v0, v1, d1]
def oldP : List All := [(f0, 1), (f1, 1)]
theorem pair_args (t : Int) : argR pairV [1, 2] t = 0 := by
 unfold argR
 have h1 : actN pairV t ≤ 2 := actN_le pairV t
 have h2 : ([1, 2] : List Int).length = 2 := rfl
 rw [if_neg (by rw [pair_valid]; decide), if_neg (by rw [h2]; omega), if_neg (by decide), if_neg (by decide)]
theorem pair_fix5 : fixV pairV [1, 2] oldP 5 = [] := by decide +kernel
theorem pair_fix16 : fixV pairV [1, 2] oldP 16 = oldP := by decide +kernel
theorem pair_need : needV pairV [1, 2] oldP [] 5 = [(f0, 10, 20, 0, false), (f1, 15, 25, 0, false)] := by decide +kernel
theorem pair_ls : lsV [(f0, 10, 20, 0, false), (f1, 15, 25, 0, false)] 2 st0 = 1 := by decide +kernel
theorem pair_all : allR [(f0, 10, 20, 0, false), (f1, 15, 25, 0, false)] [1, 2] (pathR [(f0, 10, 20, 0, false), (f1, 15, 25, 0, false)] 2) = [(f0, 1), (f1, 2)] := by decide +kernel
theorem pair_sort : sortAl [(f0, 1), (f1, 2)] = [(f0, 1), (f1, 2)] := by
 have c1 : fltC f1 f0 = 1 := by simp [fltC, f0, f1, cmpS_self, orV, cmpV]
 refine (sortAl_eq ?_ (List.Perm.refl _) ?_).symm
 · decide +kernel
 · rw [List.pairwise_pair]
   rw [c1]; decide
theorem pair_rep5 : repV pairV [1, 2] oldP 5 = ([(f0, 1), (f1, 2)], 0) := by
 unfold repV
 have h2 : ([1, 2] : List Int).length = 2 := rfl
 rw [pair_args, pair_fix5, pair_need, h2, pair_ls, pair_all, pair_sort]
 decide +kernel
theorem pair_rep16 : repV pairV [1, 2] oldP 16 = ([], 7) := by
 unfold repV
 rw [pair_args, pair_fix16]
 decide +kernel
theorem pair_mov : movV [1, 2] oldP [(f0, 1), (f1, 2)] = [f1] := by decide +kernel
def con13 : Con := { ps := [], rs := [.d false .bool], pre := fun _ => True, out := fun _ => (true, ()), nw := id }
theorem c13 : CtrOk Try.prog 13 con13.ctr :=
 con_sound (G := ⟨[(39, con39.ctr), (11, con11.ctr), (18, con18.ctr)], [], [], [], []⟩) tab_ok (EnvOk.cons c39 has39 (EnvOk.cons c11 has11 (EnvOk.cons c18 has18 EnvOk.nil))) rfl Try.func13 rfl con13 223 (by kernel_rfl) (by decide) (by decide) rfl (by decide) rfl (by
  rintro _ hpre hwf X hT hG hk hK
  have hlen : pairV.length = 2 := rfl
  have e1 : ∀ z, pairV.getD (Int.toNat 0) z = day1 0 10 := fun z => rfl
  have e2 : ∀ z, pairV.getD (Int.toNat 1) z = day1 1 15 := fun z => rfl
  have e1' : ∀ z, pairV.getD 0 z = day1 0 10 := fun z => rfl
  have e3 : (day1 0 10).1 = f0 := rfl
  have e4 : (day1 1 15).1 = f1 := rfl
  have e5 : [(f0, (1 : Int)), (f1, (1 : Int))] = oldP := rfl
  have q0 : ∀ z, [(f0, (1 : Int)), (f1, (2 : Int))].getD 0 z = (f0, 1) := fun z => rfl
  have q1 : ∀ z, [(f0, (1 : Int)), (f1, (2 : Int))].getD (Int.toNat 1) z = (f1, 2) := fun z => rfl
  have q2 : ∀ z, [f1].getD 0 z = f1 := fun z => rfl
  (simp -implicitDefEqProofs (maxSteps := 4000000) only [go_sem, Bool.not_eq_true', Bool.not_eq_false', Bool.or_eq_true, Bool.or_eq_false_iff, Bool.and_eq_true, Bool.and_eq_false_iff, decide_eq_true_eq, decide_eq_false_iff_not, Classical.not_not, not_or, maxLen, con13, con39, con11, con18, hT, hG, hk, hK, Try.results13, hlen, e1, e2, e1', e3, e4, e5, pair_rep5, pair_rep16, pair_mov, q0, q1, q2, Int.cast_ofNat_Int, Int.reduceEq, and_self, true_implies, and_true, true_and, Int.reduceLT, Int.le_refl, Int.reduceLE] at hwf ⊢); (try simp (disch := decide +kernel) only [drawn, true_and, and_true])
  clear hwf
  (repeat' (with_reducible (first | refine And.intro ?_ ?_ | intro _))) <;> (try (first | with_reducible (first | done | assumption | omega | contradiction) | decide))
  all_goals fail)
end Go.Proofs.Ytfaoonbnbdlgaaa

/- The plain law: the needs are the active departures; what a repair is. -/
set_option linter.unusedSimpArgs false
set_option linter.unusedVariables false
set_option maxRecDepth 100000
set_option maxHeartbeats 4000000
namespace Go.Proofs.Ytfaoonbnbdlgaaa
open Go.Ev

theorem insN_map (f : Dep → Ned) (hf : ∀ d, (f d).frm = d.opens) (x : Dep) : ∀ l : List Dep, insN (f x) (l.map f) = (insV x l).map f
 | [] => rfl
 | y :: l => by
   simp only [List.map_cons, insN, insV, hf]
   by_cases h : x.opens < y.opens
   · rw [if_pos h, if_pos h]; rfl
   · rw [if_neg h, if_neg h, insN_map f hf x l]; rfl
theorem isortN_map (f : Dep → Ned) (hf : ∀ d, (f d).frm = d.opens) (l : List Dep) : isortN (l.map f) = (isort l).map f := by
 have key : ∀ (l acc : List Dep), (l.map f).foldl (fun acc x => insN x acc) (acc.map f) = (l.foldl (fun acc x => insV x acc) acc).map f := by
  intro l
  induction l with
  | nil => intro acc; rfl
  | cons x l ih =>
    intro acc
    simp only [List.map_cons, List.foldl_cons]
    rw [insN_map f hf, ih]
 exact key l []
/-- A need, as an active departure gives it. -/
def ndA (cs : List Int) (old fx : List All) (d : Dep) : Ned := (d.1, d.opens, d.closes, homeV cs old d.1, (chV fx d.1).2)
theorem need_act (l : List Dep) (cs : List Int) (old fx : List All) (t : Int) : needV l cs old fx t = (actV l t).map (ndA cs old fx) := by
 unfold needV actV
 rw [← isortN_map (ndA cs old fx) (fun d => rfl)]
 unfold rawN rawA
 rw [List.map_map]
 rfl
theorem act_mem {l : List Dep} {t : Int} {d : Dep} (h : d ∈ actV l t) : ∃ d0 ∈ l, closedV d0 t = false ∧ d = opn t d0 := by
 unfold actV at h
 have h := (isort_perm _).mem_iff.1 h
 unfold rawA at h
 obtain ⟨d0, h1, rfl⟩ := List.mem_map.1 h
 obtain ⟨h2, h3⟩ := List.mem_filter.1 h1
 exact ⟨d0, h2, by simpa using h3, rfl⟩
theorem opn_opens (t : Int) (d : Dep) : (opn t d).opens = max d.opens t := by
 show (if t > d.2.2.1 then t else d.2.2.1) = max d.2.2.1 t
 split <;> omega
theorem act_time {l : List Dep} {t : Int} (hv : ∀ d ∈ l, validV d = true) {d : Dep} (h : d ∈ actV l t) : 0 ≤ d.opens ∧ d.opens < d.closes ∧ t ≤ d.opens ∧ t < d.closes ∧ d.state = 0 ∧ d.closes ≤ 1048576 := by
 obtain ⟨d0, h1, h2, rfl⟩ := act_mem h
 have h3 := validV_times (hv d0 h1)
 have h4 := closed_not h2
 have h5 := opn_opens t d0
 have h6 : (opn t d0).closes = d0.closes := rfl
 have h7 : (opn t d0).state = d0.state := rfl
 omega
theorem act_flts {l : List Dep} {t : Int} (hn : (l.map (fun d => d.1)).Nodup) : ((actV l t).map (fun d => d.1)).Nodup := by
 unfold actV
 refine ((isort_perm _).map (fun d => d.1)).nodup_iff.2 ?_
 unfold rawA
 rw [List.map_map]
 exact ((List.filter_sublist (l := l)).map (fun d : Dep => d.1)).nodup hn
theorem act_sorted (l : List Dep) (t : Int) : (actV l t).Pairwise (fun a b => a.opens ≤ b.opens) := isort_sorted _
theorem nodup_uniq {α β : Type} {f : α → β} : ∀ {l : List α}, (l.map f).Nodup → ∀ {a b : α}, a ∈ l → b ∈ l → f a = f b → a = b
 | [], _, a, _, ha, _, _ => by cases ha
 | x :: l, h, a, b, ha, hb, e => by
   rw [List.map_cons, List.nodup_cons] at h
   rcases List.mem_cons.1 ha with e1 | ha <;> rcases List.mem_cons.1 hb with e2 | hb
   · rw [e1, e2]
   · exact absurd (show f x ∈ l.map f by rw [← e1, e]; exact List.mem_map_of_mem hb) h.1
   · exact absurd (show f x ∈ l.map f by rw [← e2, ← e]; exact List.mem_map_of_mem ha) h.1
   · exact nodup_uniq h.2 ha hb e
theorem chV_in : ∀ {l : List All} {f : Flt}, (chV l f).2 = true → (f, (chV l f).1) ∈ l
 | [], f, h => by cases h
 | a :: l, f, h => by
   unfold chV at h ⊢
   by_cases e : a.1 = f
   · rw [if_pos e]; subst e; exact List.mem_cons_self
   · rw [if_neg e] at h ⊢; exact List.mem_cons_of_mem _ (chV_in h)
theorem fix_mem {l : List Dep} {cs : List Int} {old : List All} {t : Int} {a : All} (h : a ∈ fixV l cs old t) : ∃ d ∈ l, fixB cs old t d = true ∧ a = (d.1, (chV old d.1).1) := by
 unfold fixV at h
 obtain ⟨d, h1, rfl⟩ := List.mem_map.1 h
 obtain ⟨h2, h3⟩ := List.mem_filter.1 h1
 exact ⟨d, h2, h3, rfl⟩
theorem mem_fix {l : List Dep} {cs : List Int} {old : List All} {t : Int} {d : Dep} (h : d ∈ l) (hb : fixB cs old t d = true) : (d.1, (chV old d.1).1) ∈ fixV l cs old t := by
 unfold fixV
 exact List.mem_map_of_mem (f := fun d : Dep => (d.1, (chV old d.1).1)) (List.mem_filter.2 ⟨h, hb⟩)
/-- What a departure that is fixed says. -/
theorem fix_home {l : List Dep} {cs : List Int} {old : List All} {t : Int} {f : Flt} (h : (chV (fixV l cs old t) f).2 = true) :
 ∃ d ∈ l, d.1 = f ∧ isOpenV d t = true ∧ (f, (chV old f).1) ∈ fixV l cs old t ∧ ∃ k : Nat, k < cs.length ∧ homeV cs old f = k ∧ ∀ z, cs.getD k z = (chV old f).1 := by
 have h1 := chV_in h
 obtain ⟨d, hd, hb, e⟩ := fix_mem h1
 have e1 : d.1 = f := (congrArg Prod.fst e).symm
 subst e1
 have hm := mem_fix hd hb
 unfold fixB at hb
 simp only [Bool.and_eq_true] at hb
 obtain ⟨⟨b1, b2⟩, b3⟩ := hb
 refine ⟨d, hd, rfl, b2, hm, ?_⟩
 rcases home_spec cs old d.1 with ⟨_, g2⟩ | ⟨k, g1, g2, _, _, g5⟩
 · rw [b1, b3] at g2; cases g2
 · exact ⟨k, g1, g2, g5⟩
/-- The needs, for the plain search. -/
def ndsV (l : List Dep) (cs : List Int) (old : List All) (t : Int) : List RlM.Nd := (actV l t).map (fun d => toNd (ndA cs old (fixV l cs old t) d))
theorem nds_eq (l : List Dep) (cs : List Int) (old : List All) (t : Int) : (needV l cs old (fixV l cs old t) t).map toNd = ndsV l cs old t := by
 rw [need_act, List.map_map]; rfl
theorem nds_asc {l : List Dep} {cs : List Int} {old : List All} {t : Int} (hv : ∀ d ∈ l, validV d = true) : RlM.Asc (ndsV l cs old t) := by
 unfold ndsV
 refine ⟨fun d hd => ?_, ?_⟩
 · obtain ⟨d0, h1, rfl⟩ := List.mem_map.1 hd
   exact (act_time hv h1).1
 · rw [List.pairwise_map]
   exact act_sorted l t
theorem nds_pos {l : List Dep} {cs : List Int} {old : List All} {t : Int} (hv : ∀ d ∈ l, validV d = true) : ∀ d ∈ ndsV l cs old t, d.frm < d.to := by
 intro d hd
 obtain ⟨d0, h1, rfl⟩ := List.mem_map.1 hd
 exact (act_time hv h1).2.1
theorem nds_fix {l : List Dep} {cs : List Int} {old : List All} {t : Int} (hv : ∀ d ∈ l, validV d = true) (hn : (l.map (fun d => d.1)).Nodup) :
 ∀ d ∈ ndsV l cs old t, d.fixed = true → 0 ≤ d.home ∧ d.home < (cs.length : Nat) ∧ ∀ e ∈ ndsV l cs old t, d.frm ≤ e.frm := by
 intro d hd hf
 obtain ⟨d1, h1, rfl⟩ := List.mem_map.1 hd
 obtain ⟨d2, h2, e2, h3, _, k, h4, h5, _⟩ := fix_home (show (chV (fixV l cs old t) d1.1).2 = true from hf)
 have hh : (toNd (ndA cs old (fixV l cs old t) d1)).home = (k : Int) := h5
 refine ⟨by omega, by omega, fun e he => ?_⟩
 obtain ⟨e1, h6, rfl⟩ := List.mem_map.1 he
 obtain ⟨d0, h7, h8, rfl⟩ := act_mem h1
 have : d2 = d0 := nodup_uniq (f := fun d : Dep => d.1) hn h2 h7 e2
 subst this
 have h9 := (act_time hv h6).2.2.1
 have h10 := opn_opens t d2
 have h11 := (isOpenV_iff d2 t).1 h3
 show (opn t d2).opens ≤ e1.opens
 omega
theorem nds_apart {l : List Dep} {cs : List Int} {old : List All} {t : Int} (hn : (l.map (fun d => d.1)).Nodup) (hx : ((fixV l cs old t).map (fun a => a.2)).Nodup) :
 (ndsV l cs old t).Pairwise (fun a b => a.fixed = true → b.fixed = true → a.home ≠ b.home) := by
 unfold ndsV
 rw [List.pairwise_map]
 have h := act_flts (l := l) (t := t) hn
 rw [List.Nodup, List.pairwise_map] at h
 refine h.imp ?_
 intro a b hab ha hb e
 obtain ⟨_, _, _, _, m1, k1, c1, c2, c3⟩ := fix_home (show (chV (fixV l cs old t) a.1).2 = true from ha)
 obtain ⟨_, _, _, _, m2, k2, c4, c5, c6⟩ := fix_home (show (chV (fixV l cs old t) b.1).2 = true from hb)
 have e1 : homeV cs old a.1 = homeV cs old b.1 := e
 have e2 : k1 = k2 := by omega
 subst e2
 have e3 : (chV old a.1).1 = (chV old b.1).1 := (c3 0).symm.trans (c6 0)
 have := nodup_uniq (f := fun a : All => a.2) hx m1 m2 e3
 exact hab (Prod.mk.inj this).1
theorem ls_eq (l : List Dep) (cs : List Int) (old : List All) (t : Int) (n : Nat) : lsV (needV l cs old (fixV l cs old t) t) n st0 = RlM.least n (ndsV l cs old t) (List.replicate 6 0) := by
 unfold lsV
 rw [← nds_eq]; rfl
theorem nds_len (l : List Dep) (cs : List Int) (old : List All) (t : Int) : (ndsV l cs old t).length = actN l t := by
 unfold ndsV; rw [List.length_map, actV_len]
theorem opn_cnt {l : List Dep} {cs : List Int} {old : List All} {t : Int} (hv : ∀ d ∈ l, validV d = true) (x : Int) : (ndsV l cs old t).countP (RlM.opn x) = cnt (actV l t) x := by
 unfold ndsV cnt
 rw [List.countP_map]
 refine List.countP_congr fun d hd => ?_
 have h := (act_time hv hd).2.2.2.2.1
 show (decide (d.opens ≤ x) && decide (x < d.closes)) = true ↔ isOpenV d x = true
 unfold isOpenV
 rw [decide_eq_true h, Bool.true_and]
/-- There is a repair exactly if at no time too many are open. -/
theorem ls_iff {l : List Dep} {cs : List Int} {old : List All} {t : Int} (hv : ∀ d ∈ l, validV d = true) (hn : (l.map (fun d => d.1)).Nodup) (hx : ((fixV l cs old t).map (fun a => a.2)).Nodup)
 (ha : actN l t ≤ 16) (hc : cs.length ≤ 6) : lsV (needV l cs old (fixV l cs old t) t) cs.length st0 < 17 ↔ ∀ x, cnt (actV l t) x ≤ cs.length := by
 rw [ls_eq]
 have h1 := RlM.least_iff (n := cs.length) (ds := ndsV l cs old t) (fr := List.replicate 6 0) (by rw [nds_len]; show (_ : Int) < 17; omega)
 rw [show (RlM.nn : Int) = 17 from rfl] at h1
 rw [h1]
 constructor
 · rintro ⟨p, hp⟩ x
   rw [← opn_cnt (cs := cs) (old := old) hv]
   exact RlM.exists_only ((RlM.path0 (nds_asc hv) hc).1 hp) x
 · intro h
   exact RlM.exists_of (nds_asc hv) (nds_pos hv) hc (nds_fix hv hn) (nds_apart hn hx) (fun x => by rw [opn_cnt hv]; exact h x)
theorem argR_all {l : List Dep} {cs : List Int} {t : Int} (h : argR l cs t = 0) : (∀ d ∈ l, validV d = true) ∧ (l.map (fun d => d.1)).Nodup ∧ actN l t ≤ 16 ∧ cs.length ≤ 6 ∧ cs.all (fun c => decide (0 ≤ c)) = true ∧ ascI cs = true := by
 unfold argR at h
 by_cases h1 : validateV l = 0
 · rw [if_neg (by omega)] at h
   by_cases h2 : (actN l t : Int) > 16 ∨ (cs.length : Int) > 6
   · rw [if_pos h2] at h; omega
   · rw [if_neg h2] at h
     by_cases h3 : cs.all (fun c => decide (0 ≤ c)) = false
     · rw [if_pos h3] at h; omega
     · rw [if_neg h3] at h
       by_cases h4 : ascI cs = false
       · rw [if_pos h4] at h; omega
       · have h5 := valid_ok h1
         exact ⟨h5.2.1, nodup_flts h5.2.2, by omega, by omega, by simpa using h3, by simpa using h4⟩
 · rw [if_pos h1] at h; omega
/-- The way that is found. -/
theorem path_ok {l : List Dep} {cs : List Int} {old : List All} {t : Int} (h : lsV (needV l cs old (fixV l cs old t) t) cs.length st0 < 17) :
 RlM.Path cs.length (ndsV l cs old t) (List.replicate 6 0) (pathR (needV l cs old (fixV l cs old t) t) cs.length) ∧
 RlM.cost (ndsV l cs old t) (pathR (needV l cs old (fixV l cs old t) t) cs.length) = lsV (needV l cs old (fixV l cs old t) t) cs.length st0 := by
 have h2 := ls_eq l cs old t cs.length
 have h3 := RlM.first_ok (n := cs.length) (ds := ndsV l cs old t) (fr := List.replicate 6 0) (rest := lsV (needV l cs old (fixV l cs old t) t) cs.length st0) h2.symm h
 have e : pathR (needV l cs old (fixV l cs old t) t) cs.length = RlM.first cs.length (ndsV l cs old t) (List.replicate 6 0) (lsV (needV l cs old (fixV l cs old t) t) cs.length st0) := by
  unfold pathR; rw [nds_eq]; rfl
 rw [e]
 exact ⟨h3.1, h3.2.1⟩
theorem allR_len {ds : List Ned} {cs : List Int} {p : List Nat} (h : p.length = ds.length) : (allR ds cs p).length = ds.length := by
 unfold allR; rw [List.length_map, List.length_zip]; omega
end Go.Proofs.Ytfaoonbnbdlgaaa

/- The law: there is a repair exactly if at no time too many are open. -/
set_option linter.unusedSimpArgs false
set_option linter.unusedVariables false
set_option maxRecDepth 100000
set_option maxHeartbeats 8000000
namespace Go.Proofs.Ytfaoonbnbdlgaaa
open Go.Ev

theorem schedL_pos : ∀ (n : Nat) (s : Src) (k : Int), 0 ≤ s.2 → 0 ≤ (schedL n s k).2.2
 | 0, _, _, h => h
 | n + 1, s, k, h => by
   have h1 := Src.step_pos s h
   unfold schedL
   split
   · split
     · exact h1
     · exact schedL_pos n _ _ (Src.step_pos _ (Src.step_pos _ (Src.step_pos _ (Src.step_pos _ (Src.step_pos _ (Src.step_pos _ h1))))))
   · exact h
theorem schedV_pos (s : Src) (n : Int) (h : 0 ≤ s.2) : 0 ≤ (schedV s n).2.2 := schedL_pos _ _ _ (Src.step_pos s h)
/-- What is valid: the repair, in two cases. -/
theorem rvd_ok {l : List Dep} {cs : List Int} {old : List All} {t : Int} (h : rvdV l cs old t = 0) : argR l cs t = 0 ∧ ((fixV l cs old t).map (fun a => a.2)).Nodup := by
 unfold rvdV at h
 by_cases h1 : argR l cs t = 0
 · rw [if_neg (by omega)] at h
   refine ⟨h1, ?_⟩
   apply Classical.byContradiction
   intro h2
   rw [if_pos h2] at h; omega
 · rw [if_pos h1] at h; exact absurd h h1
theorem rep_of {l : List Dep} {cs : List Int} {old : List All} {t : Int} (h : argR l cs t = 0) (hx : ((fixV l cs old t).map (fun a => a.2)).Nodup) :
 repV l cs old t = if 17 ≤ lsV (needV l cs old (fixV l cs old t) t) cs.length st0 then ([], 11)
  else (sortAl (allR (needV l cs old (fixV l cs old t) t) cs (pathR (needV l cs old (fixV l cs old t) t) cs.length)), 0) := by
 unfold repV
 rw [if_neg (by omega), if_neg (by simp only [Classical.not_not]; exact hx)]
theorem exists_law {l : List Dep} {cs : List Int} {old : List All} {t : Int} (h : rvdV l cs old t = 0) :
 ((peakV (actV l t)).2 > (cs.length : Int) → repV l cs old t = ([], 11)) ∧ (¬ (peakV (actV l t)).2 > (cs.length : Int) → (repV l cs old t).2 = 0 ∧ (repV l cs old t).1.length = (actV l t).length) := by
 obtain ⟨h1, h2⟩ := rvd_ok h
 obtain ⟨a1, a2, a3, a4, _, _⟩ := argR_all h1
 have hi := ls_iff a1 a2 h2 a3 a4
 have hp := pk_facts (actV l t)
 simp only [openV_cnt] at hp
 rw [rep_of h1 h2]
 refine ⟨fun hk => ?_, fun hk => ?_⟩
 · rw [if_pos]
   apply Classical.byContradiction
   intro hl
   have := hi.1 (by omega) (peakV (actV l t)).1
   omega
 · have hl := hi.2 (fun x => by have := hp.2.2.2.1 x; omega)
   rw [if_neg (by omega)]
   refine ⟨rfl, ?_⟩
   rw [(sortAl_perm _).length_eq]
   have hpl := RlM.path_len (path_ok hl).1
   rw [nds_len] at hpl
   rw [allR_len (by rw [hpl, need_act, List.length_map, actV_len]), need_act, List.length_map]
def con4 : Con := { ps := [.d false (.sl (.int .i64))], rs := [.d false .bool], pre := fun _ => True, out := fun _ => (true, ()), nw := id }
theorem c4 : CtrOk Try.prog 4 con4.ctr :=
 con_sound (G := ⟨[(6, con6.ctr), (7, con7.ctr), (8, con8.ctr), (9, con9.ctr), (10, con10.ctr), (12, con12.ctr), (15, con15.ctr), (20, con20.ctr), (11, con11.ctr), (13, con13.ctr)], [], [], [], []⟩) tab_ok (EnvOk.cons c6 has6 (EnvOk.cons c7 has7 (EnvOk.cons c8 has8 (EnvOk.cons c9 has9 (EnvOk.cons c10 has10 (EnvOk.cons c12 has12 (EnvOk.cons c15 has15 (EnvOk.cons c20 has20 (EnvOk.cons c11 has11 (EnvOk.cons c13 has13 EnvOk.nil)))))))))) rfl Try.func4 rfl con4 140737756794621 (by kernel_rfl) (by decide) (by decide) rfl (by decide) rfl (by
  rintro ⟨(l : List Int), _⟩ hpre hwf X hT hG hk hK
  (simp -implicitDefEqProofs (maxSteps := 4000000) only [go_sem, Bool.not_eq_true', Bool.not_eq_false', Bool.or_eq_true, Bool.or_eq_false_iff, Bool.and_eq_true, Bool.and_eq_false_iff, decide_eq_true_eq, decide_eq_false_iff_not, Classical.not_not, not_or, maxLen, con4, con6, con7, con8, con9, con10, con12, con15, con20, con11, con13, hT, hG, hk, hK, Try.results4] at hwf ⊢); (try simp (disch := decide +kernel) only [drawn, true_and, and_true])
  clear hwf
  have s1 := schedV_pos (l.take 2000, 0) 9 (Int.le_refl 0)
  have s2 := schedV_len (l.take 2000, 0) 9 (by decide)
  generalize schedV (l.take 2000, 0) 9 = S at s1 s2 ⊢
  obtain ⟨x, s⟩ := S
  dsimp only at s1 s2 ⊢
  have c1 : 0 ≤ (chsV s 4).2.2 := (chX_ok _ _ _).2.2.2 (Src.step_pos s s1)
  generalize chsV s 4 = C at c1 ⊢
  obtain ⟨c, s⟩ := C
  dsimp only at c1 ⊢
  have o1 := oldL_pos false (refP x [1, 2, 3, 4, 5, 6]).1.1 s c1
  rw [show oldL false (refP x [1, 2, 3, 4, 5, 6]).1.1 s = oldV s x false from rfl] at o1
  generalize oldV s x false = O at o1 ⊢
  obtain ⟨was, s⟩ := O
  dsimp only at o1 ⊢
  generalize goMod s.raw 50 = t
  have h0 := fun h => exists_law (l := x) (cs := c) (old := was) (t := t) h
  have hal := (actV_len x t).symm ▸ actN_le x t
  generalize actV x t = A at h0 hal ⊢
  generalize repV x c was t = R at h0 ⊢
  generalize rvdV x c was t = V at h0 ⊢
  (repeat' (with_reducible (first | refine And.intro ?_ ?_ | intro _))) <;> (try (first | with_reducible (first | done | assumption | omega | contradiction) | decide))
  all_goals
   have hV : V = 0 := by assumption
   have h1 := h0 hV
   by_cases hp : (peakV A).2 > (c.length : Int)
   · have e := h1.1 hp
     first | (rw [e]; done) | (rw [e]; rfl) | omega
   · have e := h1.2 hp
     omega)
end Go.Proofs.Ytfaoonbnbdlgaaa

/- The rows: what the arguments read as; a law's contract gives its row. -/
set_option linter.unusedSimpArgs false
set_option linter.unusedVariables false
namespace Go.Ev
open Go.RowKit Go.WideShapes Go.ChangeShapes

/-- A type of the program is a type of plain data. -/
def tyB (P : Program) : Nat → TypeId → Ty → Bool
 | 0, _, _ => false
 | d + 1, t, u => decide (P.cellsOf t = u.n) && decide (0 < u.n) && (match P.underlying t with
   | some (.struct fs) => tyFs (tyB P d) fs.toList 0 u
   | some (.int k) => (match u with | .int k' => decide (k = k') | _ => false)
   | some .bool => (match u with | .bool => true | _ => false)
   | some .string => (match u with | .str => true | _ => false)
   | some (.slice e) => (match u with | .sl v => tyB P d e v | _ => false)
   | _ => false)
where tyFs (f : TypeId → Ty → Bool) : List Field → Nat → Ty → Bool
 | [], _, _ => false
 | [x], off, u => decide (x.offset = off) && f x.type u
 | x :: y :: xs, off, .pair a b => decide (x.offset = off) && f x.type a && tyFs f (y :: xs) (off + a.n) b
 | _, _, _ => false

/-- The size of data. -/
def sz : (t : Ty) → t.den → Nat
 | .int _, _ => 1
 | .bool, _ => 1
 | .str, s => s.size + 1
 | .unit, _ => 0
 | .sl t, xs => (xs.map (sz t)).sum + 1
 | .pair a b, p => sz a p.1 + sz b p.2

structure Bulk {H : Type} (B : DataW H → Nat) (BA : List (DataW H) → Nat) : Prop where
 lit : ∀ l, 1 ≤ B (.lit l)
 str : ∀ b, b.length + 1 ≤ B (.lit (.string b))
 nil : 1 ≤ B .nil
 sl : ∀ a b, BA a + 1 ≤ B (.slice a b)
 agg : ∀ a, BA a ≤ B (.agg a)
 cons : ∀ d r, BA (d :: r) = B d + BA r

section
variable {H : Type} {enc : TypeId × Value → H} {P : Program} {w : World} {B : DataW H → Nat} {BA : List (DataW H) → Nat}

theorem mapM_at {α β : Type} {f : α → Option β} : ∀ {l : List α} {r : List β}, l.mapM f = some r → r.length = l.length ∧ ∀ (i : Nat) (x : α) (y : β), l[i]? = some x → r[i]? = some y → f x = some y
 | [], r, h => by simp at h; subst h; exact ⟨rfl, fun i x y h => by simp at h⟩
 | a :: l, r, h => by
   rw [List.mapM_cons] at h
   cases hf : f a with
   | none => rw [hf] at h; cases h
   | some b =>
     rw [hf] at h
     cases hl : l.mapM f with
     | none => simp only [hl] at h; cases h
     | some bs =>
       simp only [hl] at h
       cases h
       obtain ⟨h1, h2⟩ := mapM_at hl
       refine ⟨by simp [h1], fun i x y hx hy => ?_⟩
       cases i with
       | zero => simp at hx hy; subst hx; subst hy; exact hf
       | succ i => simp at hx hy; exact h2 i x y hx hy

theorem cells?_spec {a : Addr} {n : Nat} {cs : List Value} (h : w.cells? 0 a n = some cs) : cs.length = n ∧ ∀ j u, cs[j]? = some u → w.cell? (a.add j) = some u := by
 unfold World.cells? at h
 rw [if_pos (Nat.zero_le _)] at h
 obtain ⟨h1, h2⟩ := mapM_at h
 refine ⟨by simpa using h1, fun j u hu => ?_⟩
 have hj : j < cs.length := (List.getElem?_eq_some_iff.1 hu).1
 have hjn : j < n := by simp at h1; omega
 exact h2 j j u (by simp [hjn]) hu

theorem sum_le {B : DataW H → Nat} {BA : List (DataW H) → Nat} (hB : Bulk B BA) {t : Ty} : ∀ (ys : List t.den) (ds : List (DataW H)), ys.length = ds.length → (∀ (i : Nat) (y : t.den) (d : DataW H), ys[i]? = some y → ds[i]? = some d → sz t y ≤ B d) → (ys.map (sz t)).sum ≤ BA ds
 | [], ds, _, _ => by simp
 | y :: ys, [], h, _ => by simp at h
 | y :: ys, d :: ds, h, hs => by
   have h0 := hs 0 y d rfl rfl
   have := sum_le hB ys ds (by simpa using h) (fun i y d hy hd => hs (i + 1) y d (by simpa using hy) (by simpa using hd))
   simp only [List.map_cons, List.sum_cons, hB.cons]
   omega

theorem roAll_mk {α : Type} {r : α → List Value → Prop} : ∀ (ys : List α) (cs : List (List Value)), ys.length = cs.length → (∀ (i : Nat) (y : α) (c : List Value), ys[i]? = some y → cs[i]? = some c → r y c) → roAll r ys cs.flatten
 | [], [], _, _ => rfl
 | [], _ :: _, h, _ => by simp at h
 | _ :: _, [], h, _ => by simp at h
 | y :: ys, c :: cs, h, hr => ⟨c, cs.flatten, by simp, hr 0 y c rfl rfl, roAll_mk ys cs (by simpa using h) (fun i z d hz hd => hr (i + 1) z d (by simpa using hz) (by simpa using hd))⟩

theorem pickQ {α : Type} {Q : Nat → α → Prop} : ∀ (n : Nat), (∀ i, i < n → ∃ y, Q i y) → ∃ ys : List α, ys.length = n ∧ ∀ (i : Nat) (y : α), ys[i]? = some y → Q i y
 | 0, _ => ⟨[], rfl, fun i y h => by simp at h⟩
 | n + 1, h => by
   obtain ⟨ys, h1, h2⟩ := pickQ n (fun i hi => h i (by omega))
   obtain ⟨y, hy⟩ := h n (by omega)
   refine ⟨ys ++ [y], by simp [h1], fun i z hz => ?_⟩
   by_cases e : i < n
   · rw [List.getElem?_append_left (by omega)] at hz; exact h2 i z hz
   · have hlt := (List.getElem?_eq_some_iff.1 hz).1
     have : i = n := by simp at hlt; omega
     subst this
     rw [List.getElem?_append_right (by omega), h1] at hz
     simp at hz; subst hz; exact hy

theorem pick_rows {α : Type} (f : Nat → Option α) : ∀ (n : Nat), (∀ i, i < n → ∃ y, f i = some y) → ∃ ys : List α, ys.length = n ∧ ∀ i, i < n → f i = ys[i]?
 | 0, _ => ⟨[], rfl, fun i hi => by omega⟩
 | n + 1, h => by
   obtain ⟨ys, h1, h2⟩ := pick_rows f n (fun i hi => h i (by omega))
   obtain ⟨y, hy⟩ := h n (by omega)
   refine ⟨ys ++ [y], by simp [h1], fun i hi => ?_⟩
   by_cases e : i = n
   · subst e; rw [hy, List.getElem?_append_right (by omega), h1]; simp
   · rw [h2 i (by omega), List.getElem?_append_left (by omega)]

theorem flatten_at {n : Nat} : ∀ (cs : List (List Value)), (∀ c ∈ cs, c.length = n) → ∀ (j : Nat) (u : Value), cs.flatten[j]? = some u → ∃ i q c, cs[i]? = some c ∧ c[q]? = some u ∧ j = i * n + q
 | [], _, j, u, h => by simp at h
 | c :: cs, hl, j, u, h => by
   rw [List.flatten_cons] at h
   by_cases hj : j < c.length
   · rw [List.getElem?_append_left hj] at h
     exact ⟨0, j, c, rfl, h, by omega⟩
   · rw [List.getElem?_append_right (by omega)] at h
     obtain ⟨i, q, d, h1, h2, h3⟩ := flatten_at cs (fun d hd => hl d (by simp [hd])) _ u h
     have := hl c (by simp)
     exact ⟨i + 1, q, d, by simpa using h1, h2, by rw [Nat.add_mul]; omega⟩

theorem add_add (a : Addr) (i j : Nat) (h : a.spot = none) : (a.add i).add j = a.add (i + j) := by
 obtain ⟨b, o, s⟩ := a
 simp only at h
 subst h
 simp [add_none, Nat.add_assoc]

/-- DATA THAT CAN BE READ. -/
theorem trod_ro (hB : Bulk B BA) : ∀ (fuel d : Nat) (t : TypeId) (u : Ty) (cs : List Value) (x : DataW H × List MemPlace), tyB P d t u = true → DataW.trod enc P w 0 (fun _ => true) true fuel t cs = some x → ∃ y : u.den, ro w (fun _ => False) u y cs ∧ sz u y ≤ B x.1
 | 0, d, t, u, cs, x, _, h => by simp [DataW.trod] at h
 | fuel + 1, 0, t, u, cs, x, ht, h => by cases ht
 | fuel + 1, d + 1, t, u, cs, x, ht, h => by
   simp only [tyB, Bool.and_eq_true, decide_eq_true_eq] at ht
   obtain ⟨⟨hn, hpos⟩, ht⟩ := ht
   cases hu : P.underlying t with
   | none => rw [hu] at ht; cases ht
   | some de =>
     rw [hu] at ht
     cases de <;> simp only at ht <;> try (cases ht; done)
     case bool =>
      cases u <;> simp only at ht <;> try (cases ht; done)
      obtain ⟨b, rfl, rfl⟩ := DataW.trod_bool hu h
      exact ⟨b, rfl, hB.lit _⟩
     case string =>
      cases u <;> simp only at ht <;> try (cases ht; done)
      obtain ⟨s, rfl, rfl, hs⟩ := DataW.trod_string hu h
      exact ⟨s, ⟨rfl, hs⟩, by have := hB.str s.data.toList; simpa [sz] using this⟩
     case int k =>
      cases u <;> simp only at ht <;> try (cases ht; done)
      simp only [decide_eq_true_eq] at ht
      subst ht
      obtain ⟨n, rfl, rfl, hs⟩ := DataW.trod_int hu h
      refine ⟨n, ⟨rfl, ?_⟩, hB.lit _⟩
      simpa [Lit.wf, InR] using hs
     case slice e =>
      cases u <;> simp only at ht <;> try (cases ht; done)
      rename_i v
      have hcell : P.cellsOf e = v.n ∧ 0 < v.n := by
       cases d with
       | zero => cases ht
       | succ d => simp only [tyB, Bool.and_eq_true, decide_eq_true_eq] at ht; exact ht.1
      rcases DataW.trod_slice hu h with ⟨rfl, rfl⟩ | ⟨a, len, cap, elems, rest, n, e1, rfl, rfl, _, hlc, hcm, hel, helem, hsp, _⟩
      · exact ⟨[], ⟨none, 0, 0, rfl, rfl, Nat.le_refl _, by simp [maxLen], .inl rfl⟩, by simpa [sz] using hB.nil⟩
      · cases e1
        obtain ⟨hrl, hrest⟩ := hsp rfl
        have hspot : 0 < cap → a.spot = none := by
         intro hc
         have key : ∀ i y, (w.cells? 0 (a.add (i * P.cellsOf e)) (P.cellsOf e)).bind (DataW.trod enc P w 0 (fun _ => true) true fuel e) = some y → i = 0 → a.spot = none := by
          rintro i y hy rfl
          rw [Nat.zero_mul] at hy
          cases hcs : w.cells? 0 (a.add 0) (P.cellsOf e) with
          | none => rw [hcs] at hy; cases hy
          | some c0 =>
            obtain ⟨g1, g2⟩ := cells?_spec hcs
            have hp : 0 < c0.length := by omega
            have g3 := g2 0 c0[0] (by simp [hp])
            simp only [Addr.add, if_true] at g3
            unfold World.cell? at g3
            split at g3
            · split at g3
              · cases g3
              · rename_i hs; simpa using hs
            · cases g3
         by_cases hl : 0 < len
         · have := helem 0 hl
           rw [List.getElem?_eq_getElem (by omega)] at this
           exact key 0 _ this rfl
         · have := hrest 0 (by omega)
           rw [List.getElem?_eq_getElem (by omega)] at this
           exact key _ _ this (by omega)
        -- the elements
        have hex : ∀ i, i < len → ∃ c, w.cells? 0 (a.add (i * P.cellsOf e)) (P.cellsOf e) = some c := fun i hi => by
         have := helem i hi
         rw [List.getElem?_eq_getElem (by omega)] at this
         cases hc : w.cells? 0 (a.add (i * P.cellsOf e)) (P.cellsOf e) with
         | none => rw [hc] at this; cases this
         | some c => exact ⟨c, rfl⟩
        obtain ⟨css, hcl, hcs⟩ := pick_rows _ len hex
        have hrow : ∀ (i : Nat) (c : List Value), css[i]? = some c → ∃ y : v.den, ro w (fun _ => False) v y c ∧ ∃ q, elems[i]? = some q ∧ sz v y ≤ B q.1 := by
         intro i c hc
         have hi : i < len := by have := (List.getElem?_eq_some_iff.1 hc).1; omega
         have h1 := helem i hi
         rw [hcs i hi, hc] at h1
         simp only [Option.bind_some] at h1
         rw [List.getElem?_eq_getElem (by omega)] at h1
         obtain ⟨y, g1, g2⟩ := trod_ro hB fuel d e v c _ ht h1
         exact ⟨y, g1, _, List.getElem?_eq_getElem (by omega), g2⟩
        obtain ⟨ys, hyl, hyat⟩ := pickQ (Q := fun i (y : v.den) => ∀ c, css[i]? = some c → ro w (fun _ => False) v y c ∧ ∃ q, elems[i]? = some q ∧ sz v y ≤ B q.1) len (fun i hi => by
         obtain ⟨y, g⟩ := hrow i css[i] (List.getElem?_eq_getElem (by omega))
         exact ⟨y, fun c hc => by
          have : css[i] = c := by rw [List.getElem?_eq_getElem (by omega)] at hc; exact Option.some.inj hc
          rw [← this]; exact g⟩)
        have hro : roAll (ro w (fun _ => False) v) ys css.flatten := roAll_mk ys css (by omega) (fun i y c hy hc => (hyat i y hy c hc).1)
        refine ⟨ys, ⟨some a, len, cap, rfl, hyl.symm, hlc, hcm, ?_⟩, ?_⟩
        · by_cases hc0 : cap = 0
          · exact .inl hc0
          · have hs := hspot (by omega)
            refine .inr ⟨a.block, a.off, css.flatten, by obtain ⟨b, o, s⟩ := a; simp only at hs; subst hs; rfl, hro, fun j q hq => ⟨fun h => h, ?_⟩⟩
            obtain ⟨i, r, c, g1, g2, g3⟩ := flatten_at (n := v.n) css (fun c hc => by
             obtain ⟨i, hi, rfl⟩ := List.mem_iff_getElem.1 hc
             have := hcs i (by omega)
             rw [List.getElem?_eq_getElem hi] at this
             rw [(cells?_spec this).1]; exact hcell.1) j q hq
            have hi : i < len := by have := (List.getElem?_eq_some_iff.1 g1).1; omega
            have := hcs i hi
            rw [g1] at this
            have := (cells?_spec this).2 r q g2
            rw [add_add _ _ _ hs] at this
            obtain ⟨b, o, s⟩ := a
            simp only at hs; subst hs
            rw [add_none] at this
            rw [g3, ← hcell.1]
            exact this
        · have := sum_le hB ys (elems.map (·.1)) (by simp; omega) (fun i y q hy hq => by
           have hi : i < len := by have := (List.getElem?_eq_some_iff.1 hy).1; omega
           obtain ⟨_, z, g1, g2⟩ := hyat i y hy css[i] (List.getElem?_eq_getElem (by omega))
           rw [List.getElem?_map, g1] at hq
           simp at hq; subst hq; exact g2)
          have h2 := hB.sl (elems.map (·.1)) (rest.map (·.1))
          simp only [sz]
          omega
     case struct fs =>
      obtain ⟨xs, n, e1, rfl, hcl, hxl, hf⟩ := DataW.trod_struct hu h
      cases e1
      -- field by field
      have key : ∀ (fl : List Field) (off : Nat) (u : Ty) (i : Nat), tyB.tyFs (tyB P d) fl off u = true → (∀ (j : Nat) (f : Field), fl[j]? = some f → fs[i + j]? = some f) → i + fl.length = fs.size → off + u.n ≤ cs.length →
       ∃ y : u.den, ro w (fun _ => False) u y ((cs.drop off).take u.n) ∧ sz u y ≤ BA ((xs.drop i).map (·.1)) := by
       intro fl
       induction fl with
       | nil => intro off u i h _ _ _; cases h
       | cons f fl ih =>
         intro off u i hfl hat hlen hoff
         have h0 := hat 0 f rfl
         have hf0 := hf i f (by simpa using h0)
         have hi : i < xs.length := by simp at hlen; omega
         have hdrop : xs.drop i = xs[i] :: xs.drop (i + 1) := List.drop_eq_getElem_cons hi
         have hlast : ∀ u, f.offset = off → tyB P d f.type u = true → ∃ y : u.den, ro w (fun _ => False) u y ((cs.drop off).take u.n) ∧ sz u y ≤ B xs[i].1 := by
          intro u e1 e2
          rw [List.getElem?_eq_getElem hi, e1] at hf0
          have hc : P.cellsOf f.type = u.n := by
           cases d with
           | zero => cases e2
           | succ d => simp only [tyB, Bool.and_eq_true, decide_eq_true_eq] at e2; exact e2.1.1
          rw [hc] at hf0
          exact trod_ro hB fuel d f.type u _ _ e2 hf0
         match fl, hfl with
         | [], hfl =>
           simp only [tyB.tyFs, Bool.and_eq_true, decide_eq_true_eq] at hfl
           obtain ⟨y, g1, g2⟩ := hlast u hfl.1 hfl.2
           refine ⟨y, g1, ?_⟩
           rw [hdrop, List.map_cons, hB.cons]; omega
         | f2 :: fl, hfl =>
           cases u <;> simp only [tyB.tyFs] at hfl <;> try (cases hfl; done)
           rename_i a b _
           simp only [Bool.and_eq_true, decide_eq_true_eq] at hfl
           obtain ⟨y, g1, g2⟩ := hlast a hfl.1.1 hfl.1.2
           simp only [Ty.n] at hoff
           obtain ⟨z, k1, k2⟩ := ih (off + a.n) b (i + 1) hfl.2 (fun j g hg => by have := hat (j + 1) g (by simpa using hg); rwa [show i + (j + 1) = i + 1 + j by omega] at this) (by simp at hlen ⊢; omega) (by omega)
           refine ⟨(y, z), ⟨_, _, ?_, g1, k1⟩, ?_⟩
           · simp only [Ty.n]
             rw [← List.drop_drop, ← List.take_add]
           · rw [hdrop, List.map_cons, hB.cons]
             simp only [sz]; omega
      obtain ⟨y, g1, g2⟩ := key fs.toList 0 u 0 ht (fun j f hj => by simpa using hj) (by simp) (by omega)
      refine ⟨y, ?_, ?_⟩
      · rw [List.drop_zero, List.take_of_length_le (by omega)] at g1; exact g1
      · rw [List.drop_zero] at g2
        exact Nat.le_trans g2 (hB.agg _)

end
end Go.Ev
