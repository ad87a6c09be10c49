/- The contracts of the functions that the statements about the crane reach: orders. -/
import Derived.Test.YtjghgckdndggoaaCrG
import Derived.Test.YtjghgckdndggoaaCrLay
import Derived.Test.YtjghgckdndggoaaEvSort
set_option linter.unusedSimpArgs false
set_option linter.unusedVariables false
set_option maxRecDepth 100000
set_option maxHeartbeats 4000000
namespace Go.Proofs.Ytjghgckdndggoaa
open Go.Ev

theorem has39 : FnHas Try.prog 39 := ⟨⟨_, Try.func39, by kernel_rfl, by kernel_rfl⟩⟩
theorem has40 : FnHas Try.prog 40 := ⟨⟨_, Try.func40, by kernel_rfl, by kernel_rfl⟩⟩
theorem has30 : FnHas Try.prog 30 := ⟨⟨_, Try.func30, by kernel_rfl, by kernel_rfl⟩⟩
theorem has12 : FnHas Try.prog 12 := ⟨⟨_, Try.func12, by kernel_rfl, by kernel_rfl⟩⟩
theorem has13 : FnHas Try.prog 13 := ⟨⟨_, Try.func13, by kernel_rfl, by kernel_rfl⟩⟩
theorem has16 : FnHas Try.prog 16 := ⟨⟨_, Try.func16, by kernel_rfl, by kernel_rfl⟩⟩


def con39 : Con := { ps := [.d false (.sl (.int .i64))], rs := [.o 3 (.int .i64)], pre := fun x => x.1.length ≤ 1048576, out := fun x => (x.1, ()), nw := id }
theorem c39 : CtrOk Try.prog 39 con39.ctr :=
  con_sound (G := ⟨[], [], []⟩) tab_ok EnvOk.nil rfl Try.func39 rfl con39 21 (by kernel_rfl) (by decide) (by decide) rfl (by decide) rfl (by
    rintro ⟨(l : List Int), _⟩ hpre hwf X hT hG hk hK
    have hl : l.length ≤ 1048576 := hpre
    (simp only [go_sem, Int.toNat_zero, Nat.reduceAdd, Nat.reduceMul, Nat.reduceSub, Nat.reduceEqDiff, Nat.reduceLT, Nat.reduceLeDiff, Nat.reduceShiftRight, Nat.reduceMod, Nat.reduceBEq, reduceCtorEq, reduceIte, reduceDIte, Int.reduceNeg, con39, hT, hG, hk, hK, Try.results39] at hwf ⊢); (try simp (disch := decide +kernel) only [drawn, true_and, and_true])
    intro b hb
    exact ⟨fun h => (List.eq_nil_of_length_eq_zero (hb h)).symm, fun _ => by omega⟩)
def con40 : Con := { ps := [.o 3 (.int .i64)], rs := [], pre := fun x => x.1.length < 4611686018427387904, out := fun _ => (), nw := fun x => (sortI x.1, ()) }
theorem c40 : CtrOk Try.prog 40 con40.ctr := sort_int Try.sortA 3

theorem sortI_len (l : List Int) : (sortI l).length = l.length := List.length_mergeSort l
theorem sortI_perm (l : List Int) : (sortI l).Perm l := List.mergeSort_perm l _
theorem sortI_sorted (l : List Int) : (sortI l).Pairwise (· ≤ ·) := by
  have h := List.pairwise_mergeSort (le := fun x y : Int => decide (x ≤ y)) (fun a b c => by simp; omega) (fun a b => by simp; omega) l
  exact h.imp (fun h => by simpa using h)
/-- Two ascending lists of the same numbers are the same. -/
theorem sorted_eq {a b : List Int} (h : a.Perm b) (ha : a.Pairwise (· ≤ ·)) (hb : b.Pairwise (· ≤ ·)) : a = b :=
  List.Perm.eq_of_pairwise (le := (· ≤ ·)) (fun x y _ _ h1 h2 => by omega) ha hb h
theorem idxs_sorted (n : Nat) : (idxs n).Pairwise (· ≤ ·) := by
  unfold idxs
  rw [List.pairwise_map]
  exact List.pairwise_lt_range.imp (fun h => by simp only [Int.ofNat_eq_natCast]; omega)
theorem sortI_idxs {l : List Int} {n : Nat} (h : l.Perm (idxs n)) : sortI l = idxs n := sorted_eq ((sortI_perm l).trans h) (sortI_sorted l) (idxs_sorted n)

def orderedV (n : Int) (l : List Int) : Bool := decide (sortI l = idxs n.toNat)
def con30 : Con := { ps := [.d false (.int .i64), .d false (.sl (.int .i64))], rs := [.d false .bool], pre := fun (x : Int × List Int × Unit) => 0 ≤ x.1 ∧ x.2.1.length ≤ 1048576, out := fun x => (orderedV x.1 x.2.1, ()), nw := id }
theorem c30 : CtrOk Try.prog 30 con30.ctr :=
  con_sound (G := ⟨[(39, con39.ctr), (40, con40.ctr)], [], []⟩) tab_ok (EnvOk.cons c39 has39 (EnvOk.cons c40 has40 EnvOk.nil)) rfl Try.func30 rfl con30 2158835 (by kernel_rfl) (by decide) (by decide) rfl (by decide) rfl (by
    rintro ⟨(n : Int), (l : List Int), _⟩ hpre hwf X hT hG hk hK
    obtain ⟨hn, hl⟩ : 0 ≤ n ∧ l.length ≤ 1048576 := hpre
    (simp only [go_sem, Int.toNat_zero, Nat.reduceAdd, Nat.reduceMul, Nat.reduceSub, Nat.reduceEqDiff, Nat.reduceLT, Nat.reduceLeDiff, Nat.reduceShiftRight, Nat.reduceMod, Nat.reduceBEq, reduceCtorEq, reduceIte, reduceDIte, Int.reduceNeg, con30, con39, con40, hT, hG, hk, hK, Try.results30] at hwf ⊢); (try simp (disch := decide +kernel) only [drawn, true_and, and_true])
    have hs := sortI_len l
    refine ⟨hl, fun _ => ⟨by omega, fun _ => ?_⟩⟩
    generalize hq : sortI l = q at hs ⊢
    refine evk_loop ⟨{ i : Nat // i ≤ q.length ∧ q.take i = idxs i }, 1000, fun i => [(0, .one (.int .i64 n)), (5, .one (.row 64)), (12, .one (.row 64)), (13, .one (.int .i64 q.length)), (14, .one (.int .i64 i.1))], fun _ => [(64, .row 3 (.int .i64) q)], fun i => q.length - i.1⟩ ⟨0, by simp, by simp [idxs]⟩ ?_ ?_
    · simp only [go_sem, Int.toNat_zero, Nat.reduceAdd, Nat.reduceMul, Nat.reduceSub, Nat.reduceEqDiff, Nat.reduceLT, Nat.reduceLeDiff, Nat.reduceShiftRight, Nat.reduceMod, Nat.reduceBEq, reduceCtorEq, reduceIte, reduceDIte, Int.reduceNeg]
      rfl
    · rintro ⟨i, hi, hx⟩
      (simp only [go_sem, Int.toNat_zero, Nat.reduceAdd, Nat.reduceMul, Nat.reduceSub, Nat.reduceEqDiff, Nat.reduceLT, Nat.reduceLeDiff, Nat.reduceShiftRight, Nat.reduceMod, Nat.reduceBEq, reduceCtorEq, reduceIte, reduceDIte, Int.reduceNeg, con30, con39, con40, hT, hG, hk, hK, Try.results30]); (try simp (disch := decide +kernel) only [drawn, true_and, and_true])
      have hi0 : i ≤ q.length := hi
      have hx0 : q.take i = idxs i := hx
      have ho : orderedV n l = decide (q = idxs n.toNat) := by unfold orderedV; rw [hq]
      refine ⟨fun hlt => ?_, fun hge => ?_⟩
      · have hi1 : i < q.length := by omega
        have eq : q.getD (i : Int).toNat 0 = q[i] := by simp [hi1]
        rw [eq]
        refine ⟨⟨by omega, hlt⟩, fun _ => ⟨⟨by omega, hlt⟩, fun _ => ⟨fun hne => ?_, fun he => ⟨by omega, fin_lp ⟨i + 1, by omega, ?_⟩ ?_ ?_⟩⟩⟩⟩
        · rw [ho]
          refine (decide_eq_false fun e => hne ?_).symm
          have : q[i] = (idxs n.toNat)[i]'(by rw [← e]; exact hi1) := by simp only [← e]
          rw [this]
          simp [idxs]
        · rw [List.take_succ_eq_append_getElem hi1, hx0, idxs_succ, ← Classical.not_not.1 he]
        · simp only [go_sem, Int.toNat_zero, Nat.reduceAdd, Nat.reduceMul, Nat.reduceSub, Nat.reduceEqDiff, Nat.reduceLT, Nat.reduceLeDiff, Nat.reduceShiftRight, Nat.reduceMod, Nat.reduceBEq, reduceCtorEq, reduceIte, reduceDIte, Int.reduceNeg]
          rfl
        · show q.length - (i + 1) < q.length - i
          omega
      · rw [List.take_of_length_le (by omega)] at hx0
        intro _
        rw [ho]
        congr 1
        have hqi : i = q.length := by omega
        refine propext ⟨fun e => ?_, fun e => ?_⟩
        · rw [hx0, hqi, ← e]; rfl
        · rw [e, idxs_len]; omega)

/-- An order that numbers choose. -/
def permL : Nat → Nat → Src → List Int → List Int
  | 0, _, _, out => out
  | k + 1, i, s, out => permL k (i + 1) s.step (out.take (goMod s.raw (i + 1)).toNat ++ ((i : Int) :: out.drop (goMod s.raw (i + 1)).toNat))
def permV (m : List Int) (n : Int) : List Int := permL n.toNat 0 (m.take 2000, 0) []
theorem permL_perm : ∀ (k i : Nat) (s : Src) (out : List Int), out.Perm (idxs i) → (permL k i s out).Perm (idxs (i + k))
  | 0, i, _, out, h => h
  | k + 1, i, s, out, h => by
    rw [permL]
    have := permL_perm k (i + 1) s.step (out.take (goMod s.raw (i + 1)).toNat ++ ((i : Int) :: out.drop (goMod s.raw (i + 1)).toNat)) (by
      rw [idxs_succ]
      refine List.perm_middle.trans ?_
      rw [List.take_append_drop]
      exact (List.Perm.cons _ h).trans (List.perm_append_singleton _ _).symm)
    rwa [show i + 1 + k = i + (k + 1) by omega] at this
theorem permV_perm (m : List Int) (n : Nat) : (permV m n).Perm (idxs n) := by
  have := permL_perm n 0 (m.take 2000, 0) [] (by simp [idxs])
  rwa [Nat.zero_add] at this
def con12 : Con := { ps := [.d false (.sl (.int .i64)), .d false (.int .i64)], rs := [.o 3 (.int .i64)], pre := fun (x : List Int × Int × Unit) => 0 ≤ x.2.1 ∧ x.2.1 ≤ 1000, out := fun x => (permV x.1 x.2.1, ()), nw := id }
theorem c12 : CtrOk Try.prog 12 con12.ctr :=
  con_sound (G := ⟨[(24, con24.ctr), (25, con25.ctr)], [], []⟩) tab_ok (EnvOk.cons c24 has24 (EnvOk.cons c25 has25 EnvOk.nil)) rfl Try.func12 rfl con12 17395 (by kernel_rfl) (by decide) (by decide) rfl (by decide) rfl (by
    rintro ⟨(m : List Int), (n : Int), _⟩ hpre hwf X hT hG hk hK
    obtain ⟨hn1, hn2⟩ : 0 ≤ n ∧ n ≤ 1000 := hpre
    (simp only [go_sem, Int.toNat_zero, Nat.reduceAdd, Nat.reduceMul, Nat.reduceSub, Nat.reduceEqDiff, Nat.reduceLT, Nat.reduceLeDiff, Nat.reduceShiftRight, Nat.reduceMod, Nat.reduceBEq, reduceCtorEq, reduceIte, reduceDIte, Int.reduceNeg, con12, con24, con25, hT, hG, hk, hK, Try.results12] at hwf ⊢); (try simp (disch := decide +kernel) only [drawn, true_and, and_true])
    intro _
    refine evk_loop ⟨{ q : Nat × Src × List Int // (q.1 : Int) ≤ n ∧ 0 ≤ q.2.1.2 ∧ q.2.2.length = q.1 ∧ permV m n = permL (n.toNat - q.1) q.1 q.2.1 q.2.2 }, 1000,
      fun q => [(1, .one (.int .i64 n)), (5, .one (.loc 128 0)), (6, .one (.row 160)), (7, .one (.int .i64 q.1.1))],
      fun q => [(128, .cells 51 [.sl (.int .i64) q.1.2.1.1 false, .int .i64 q.1.2.1.2]), (160, .row 3 (.int .i64) q.1.2.2)], fun q => n.toNat - q.1.1⟩
      ⟨(0, (m.take 2000, 0), []), hn1, Int.le_refl 0, rfl, rfl⟩ ?_ ?_
    · simp only [go_sem, Int.toNat_zero, Nat.reduceAdd, Nat.reduceMul, Nat.reduceSub, Nat.reduceEqDiff, Nat.reduceLT, Nat.reduceLeDiff, Nat.reduceShiftRight, Nat.reduceMod, Nat.reduceBEq, reduceCtorEq, reduceIte, reduceDIte, Int.reduceNeg]
      rfl
    · rintro ⟨⟨i, ⟨sl, sa⟩, out⟩, hi, hp, hl, he⟩
      (simp only [go_sem, Int.toNat_zero, Nat.reduceAdd, Nat.reduceMul, Nat.reduceSub, Nat.reduceEqDiff, Nat.reduceLT, Nat.reduceLeDiff, Nat.reduceShiftRight, Nat.reduceMod, Nat.reduceBEq, reduceCtorEq, reduceIte, reduceDIte, Int.reduceNeg, con12, con24, con25, hT, hG, hk, hK, Try.results12]); (try simp (disch := decide +kernel) only [drawn, true_and, and_true])
      have hi' : (i : Int) ≤ n := hi
      have hp' : 0 ≤ sa := hp
      have hl' : out.length = i := hl
      have he' : permV m n = permL (n.toNat - i) i (sl, sa) out := he
      refine ⟨fun hlt => ?_, fun hge => ?_⟩
      · obtain ⟨k, hk'⟩ : ∃ k, n.toNat - i = k + 1 := ⟨n.toNat - i - 1, by omega⟩
        rw [hk', permL] at he'
        have hq := goMod_bd (Src.raw (sl, sa)) (i + 1) (by omega)
        have es : ((Src.step (sl, sa)).1, (Src.step (sl, sa)).2) = Src.step (sl, sa) := rfl
        have hst := Src.step_pos (sl, sa) hp'
        generalize hg : goMod (Src.raw (sl, sa)) (i + 1) = g at hq he' ⊢
        have ed : ((out.take out.length).drop g.toNat) = out.drop g.toNat := by rw [List.take_length]
        refine ⟨by omega, hp', fun _ => ⟨⟨hq.1, by omega⟩, by rw [List.length_drop, List.length_take]; omega, ⟨Int.le_refl 0, hq.1, by omega⟩, by rw [List.length_take]; omega, by simp only [List.length_append, List.length_take, List.length_drop, List.length_cons, List.length_nil]; omega, by omega, fin_lp ⟨(i + 1, Src.step (sl, sa), out.take g.toNat ++ ((i : Int) :: out.drop g.toNat)), by simp only; omega, hst, ?_, ?_⟩ ?_ ?_⟩⟩
        · simp only [List.length_append, List.length_take, List.length_drop, List.length_cons]; omega
        · show permV m n = permL (n.toNat - (i + 1)) (i + 1) (Src.step (sl, sa)) _
          rw [he', show n.toNat - (i + 1) = k by omega]
        · simp only [go_sem, Int.toNat_zero, Nat.reduceAdd, Nat.reduceMul, Nat.reduceSub, Nat.reduceEqDiff, Nat.reduceLT, Nat.reduceLeDiff, Nat.reduceShiftRight, Nat.reduceMod, Nat.reduceBEq, reduceCtorEq, reduceIte, reduceDIte, Int.reduceNeg]
          simp
        · show n.toNat - (i + 1) < n.toNat - i
          omega
      · rw [show n.toNat - i = 0 by omega, permL] at he'
        rw [he'])
end Go.Proofs.Ytjghgckdndggoaa
