/- The contracts of the functions that the statements about the crane reach: jobs out of numbers. -/
import Derived.Test.YtjghgckdndggoaaCrD
set_option linter.unusedSimpArgs false
set_option linter.unusedVariables false
set_option maxRecDepth 100000
set_option maxHeartbeats 4000000
namespace Go.Proofs.Ytjghgckdndggoaa
open Go.Ev

/-- Jobs out of numbers. -/
def someL : Nat → Src → Int → Jobs
  | 0, _, _ => []
  | n + 1, s, t =>
      (goMod s.raw 5, if t + (2 * goMod s.raw 5 + 2) + (-6 + goMod s.step.raw 15) > 0 then t + (2 * goMod s.raw 5 + 2) + (-6 + goMod s.step.raw 15) else 0) :: someL n s.step.step (t + (2 * goMod s.raw 5 + 2))
def someV (l : List Int) (most : Int) : Int × Jobs :=
  let s : Src := (l.take 2000, 0)
  (goMod s.raw 5, someL (goMod s.step.raw (most + 1)).toNat s.step.step (goMod s.raw 5))
def con8 : Con := { ps := [.d false (.sl (.int .i64)), .d false (.int .i64)], rs := [.d false (.int .i64), .d false (.sl (.pair (.int .i64) (.int .i64)))], pre := fun x => 0 ≤ x.2.1 ∧ x.2.1 ≤ 1000, out := fun x => ((someV x.1 x.2.1).1, (someV x.1 x.2.1).2, ()), nw := id }
theorem c8 : CtrOk Try.prog 8 con8.ctr :=
  con_sound (G := ⟨[(25, con25.ctr), (24, con24.ctr), (26, con26.ctr)], [], []⟩) tab_ok (EnvOk.cons c25 has25 (EnvOk.cons c24 has24 (EnvOk.cons c26 has26 EnvOk.nil))) rfl Try.func8 rfl con8 4198387 (by kernel_rfl) (by decide) (by decide) rfl (by decide) rfl (by
    rintro ⟨(l : List Int), (most : Int), _⟩ hpre hwf X hT hG hk hK
    obtain ⟨hm1, hm2⟩ : 0 ≤ most ∧ most ≤ 1000 := hpre
    (simp only [go_sem, Nat.reduceAdd, Nat.reduceMul, Nat.reduceSub, Nat.reduceEqDiff, Nat.reduceLT, Nat.reduceLeDiff, Nat.reduceShiftRight, Nat.reduceMod, Nat.reduceBEq, reduceCtorEq, reduceIte, reduceDIte, Int.reduceNeg, con8, con25, con24, con26, hT, hG, hk, hK, Try.results8] at hwf ⊢); (try simp (disch := decide +kernel) only [drawn, true_and, and_true])
    intro _
    have h5 : ∀ x, 0 ≤ goMod x 5 ∧ goMod x 5 < 5 := fun x => goMod_bd x 5 (by omega)
    have h0 : 0 ≤ (Src.step (List.take 2000 l, 0)).2 := Src.step_pos _ (Int.le_refl 0)
    refine ⟨Int.le_refl 0, fun _ => ⟨⟨by omega, by omega⟩, h0, fun _ => ?_⟩⟩
    have hq := h5 (Src.raw (List.take 2000 l, 0))
    have hv : someV l most = (goMod (Src.raw (List.take 2000 l, 0)) 5, someL (goMod (Src.raw (Src.step (List.take 2000 l, 0))) (most + 1)).toNat (Src.step (Src.step (List.take 2000 l, 0))) (goMod (Src.raw (List.take 2000 l, 0)) 5)) := rfl
    have hn0 := goMod_bd (Src.raw (Src.step (List.take 2000 l, 0))) (most + 1) (by omega)
    have h1 := Src.step_pos _ h0
    generalize hs1 : Src.step (List.take 2000 l, 0) = s1 at h0 h1 hn0 hv ⊢
    generalize ht0 : goMod (Src.raw (List.take 2000 l, 0)) 5 = t0 at hq hv ⊢
    have es : (s1.1, s1.2) = s1 := rfl
    rw [es]
    generalize hs2 : Src.step s1 = s2 at h1 hv ⊢
    generalize hn : goMod (Src.raw s1) (most + 1) = n0 at hn0 hv ⊢
    refine evk_loop ⟨{ q : Src × Int × Nat × Jobs // 0 ≤ q.1.2 ∧ 0 ≤ q.2.1 ∧ q.2.1 + 10 * q.2.2.1 ≤ 20000 ∧ q.2.2.2.length + q.2.2.1 ≤ 1000 ∧ someL n0.toNat s2 t0 = q.2.2.2 ++ someL q.2.2.1 q.1 q.2.1 }, 1000,
      fun q => [(6, .one (.loc 128 0)), (7, .one (.int .i64 t0)), (8, .one (.row 160)), (9, .one (.int .i64 q.1.2.1)), (10, .one (.int .i64 q.1.2.2.1))],
      fun q => [(128, .cells 51 [.sl (.int .i64) q.1.1.1 false, .int .i64 q.1.1.2]), (160, .row 31 (.pair (.int .i64) (.int .i64)) q.1.2.2.2)], fun q => q.1.2.2.1⟩
      ⟨(s2, t0, n0.toNat, []), h1, hq.1, by simp only; omega, by simp only [List.length_nil]; omega, by simp⟩ ?_ ?_
    · simp only [go_sem, Nat.reduceAdd, Nat.reduceMul, Nat.reduceSub, Nat.reduceEqDiff, Nat.reduceLT, Nat.reduceLeDiff, Nat.reduceShiftRight, Nat.reduceMod, Nat.reduceBEq, reduceCtorEq, reduceIte, reduceDIte, Int.reduceNeg]
      omega
    · rintro ⟨⟨⟨sl, sa⟩, t, n, out⟩, hp, ht, htn, hl, he⟩
      (simp only [go_sem, Nat.reduceAdd, Nat.reduceMul, Nat.reduceSub, Nat.reduceEqDiff, Nat.reduceLT, Nat.reduceLeDiff, Nat.reduceShiftRight, Nat.reduceMod, Nat.reduceBEq, reduceCtorEq, reduceIte, reduceDIte, Int.reduceNeg, con8, con25, con24, con26, hT, hG, hk, hK, Try.results8]); (try simp (disch := decide +kernel) only [drawn, true_and, and_true])
      have hp' : 0 ≤ sa := hp
      have ht' : 0 ≤ t := ht
      have htn' : t + 10 * (n : Int) ≤ 20000 := htn
      have hl' : out.length + n ≤ 1000 := hl
      have he' : someL n0.toNat s2 t0 = out ++ someL n (sl, sa) t := he
      have e15 : (8 - -6 + 1 : Int) = 15 := by decide
      rw [e15]
      refine ⟨fun hpos => ?_, fun hneg => ?_⟩
      · obtain ⟨k, rfl⟩ : ∃ k, n = k + 1 := ⟨n - 1, by omega⟩
        rw [someL] at he'
        have hq5 := h5 (Src.raw (sl, sa))
        have hst := Src.step_pos (sl, sa) hp'
        have hst2 := Src.step_pos _ hst
        have hr := goMod_bd (Src.raw (Src.step (sl, sa))) 15 (by omega)
        have es : ((Src.step (sl, sa)).1, (Src.step (sl, sa)).2) = Src.step (sl, sa) := rfl
        rw [es]
        generalize hd : (if t + (2 * goMod (Src.raw (sl, sa)) 5 + 2) + (-6 + goMod (Src.raw (Src.step (sl, sa))) 15) > 0 then t + (2 * goMod (Src.raw (sl, sa)) 5 + 2) + (-6 + goMod (Src.raw (Src.step (sl, sa))) 15) else 0) = d at he' ⊢
        generalize hg5 : goMod (Src.raw (sl, sa)) 5 = g at hq5 he' hd ⊢
        generalize hg6 : goMod (Src.raw (Src.step (sl, sa))) 15 = g6 at hr hd ⊢
        refine ⟨hp', fun _ => ⟨by omega, by omega, by omega, ⟨hst, by decide, by decide, by decide⟩, fun _ => ⟨by omega, by omega, by omega, fin_lp ⟨(Src.step (Src.step (sl, sa)), t + (2 * g + 2), k, out ++ [(g, d)]), hst2, by simp only; omega, by simp only; omega, by simp only [List.length_append, List.length_cons, List.length_nil]; omega, by rw [he']; simp⟩ ?_ ?_⟩⟩⟩
        · simp only [go_sem, Nat.reduceAdd, Nat.reduceMul, Nat.reduceSub, Nat.reduceEqDiff, Nat.reduceLT, Nat.reduceLeDiff, Nat.reduceShiftRight, Nat.reduceMod, Nat.reduceBEq, reduceCtorEq, reduceIte, reduceDIte, Int.reduceNeg]
          omega
        · show k < k + 1
          omega
      · obtain rfl : n = 0 := by omega
        rw [someL, List.append_nil] at he'
        rw [hv, ← he']
        exact ⟨rfl, rfl⟩)
end Go.Proofs.Ytjghgckdndggoaa
