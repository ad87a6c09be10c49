/- Containers: what they hold; sums of weights. -/
import Derived.Test.YtjhoidgpecgfoaaGreatEvOrdToKd
set_option linter.unusedSimpArgs false
set_option linter.unusedVariables false
set_option maxRecDepth 100000
set_option maxHeartbeats 4000000
namespace Go.Proofs.YtjhoidgpecgfoaaGreat
open Go.Ev

/-- The place of the first element with a property, or -1. -/
def idxV {α : Type} (p : α → Bool) (l : List α) : Int := match l.findIdx? p with | some i => i | none => -1
theorem getD_lt {α : Type} {l : List α} {i : Nat} {d : α} (h : i < l.length) : l.getD i d = l[i] := by simp [h]
theorem idxV_at {α : Type} {p : α → Bool} {l : List α} {d : α} {i : Nat} (hz : ∀ k, k < i → p (l.getD k d) = false) (hi : i < l.length) (h : p (l.getD i d) = true) : idxV p l = i := by
 unfold idxV
 have : l.findIdx? p = some i := by
  rw [List.findIdx?_eq_some_iff_getElem]
  refine ⟨hi, by rw [← getD_lt hi (d := d)]; exact h, fun j hj => ?_⟩
  have := hz j hj
  rw [getD_lt (by omega)] at this
  simp [this]
 rw [this]
theorem idxV_none {α : Type} {p : α → Bool} {l : List α} {d : α} (hz : ∀ k, k < l.length → p (l.getD k d) = false) : idxV p l = -1 := by
 unfold idxV
 have : l.findIdx? p = none := by
  rw [List.findIdx?_eq_none_iff]
  intro x hx
  obtain ⟨k, hk, rfl⟩ := List.getElem_of_mem hx
  rw [← getD_lt hk (d := d)]; exact hz k hk
 rw [this]
theorem idxV_spec {α : Type} {p : α → Bool} {l : List α} {d : α} (h : 0 ≤ idxV p l) : (idxV p l).toNat < l.length ∧ p (l.getD (idxV p l).toNat d) = true ∧ ∀ k, k < (idxV p l).toNat → p (l.getD k d) = false := by
 unfold idxV at h ⊢
 split at h
 · rename_i i hi
   try simp only [hi]
   obtain ⟨h1, h2, h3⟩ := List.findIdx?_eq_some_iff_getElem.1 hi
   refine ⟨by omega, by rw [show ((i : Int)).toNat = i by omega, getD_lt h1]; exact h2, fun k hk => ?_⟩
   have := h3 k (by omega)
   rw [getD_lt (by omega)]
   simpa using this
 · omega
theorem idxV_neg {α : Type} {p : α → Bool} {l : List α} (h : idxV p l < 0) : ∀ x ∈ l, p x = false := by
 unfold idxV at h
 split at h
 · omega
 · rename_i hi
   rw [List.findIdx?_eq_none_iff] at hi
   intro x hx
   simpa using hi x hx
theorem any_at {α : Type} {p : α → Bool} {l : List α} {d : α} {i : Nat} (hi : i < l.length) (h : p (l.getD i d) = true) : l.any p = true := by
 rw [List.any_eq_true]; exact ⟨l[i], List.getElem_mem hi, by rw [← getD_lt hi (d := d)]; exact h⟩
theorem any_none {α : Type} {p : α → Bool} {l : List α} {d : α} (hz : ∀ k, k < l.length → p (l.getD k d) = false) : l.any p = false := by
 rw [List.any_eq_false]
 intro x hx
 obtain ⟨k, hk, rfl⟩ := List.getElem_of_mem hx
 rw [← getD_lt hk (d := d), hz k hk]; simp
theorem lt_succ {P : Nat → Prop} {i : Nat} (hz : ∀ k, k < i → P k) (h : P i) : ∀ k, k < i + 1 → P k := fun k hk => by
 by_cases e : k = i
 · subst e; exact h
 · exact hz k (by omega)
theorem getD_mem {α : Type} {l : List α} {i : Nat} {d : α} (h : i < l.length) : l.getD i d ∈ l := by rw [getD_lt h]; exact List.getElem_mem h
theorem mem_getD {α : Type} {l : List α} {x : α} {d : α} (h : x ∈ l) : ∃ k, k < l.length ∧ l.getD k d = x := by
 obtain ⟨k, hk, e⟩ := List.getElem_of_mem h
 exact ⟨k, hk, by rw [getD_lt hk]; exact e⟩

def con117 : Con := { ps := [.d true yCT], rs := [.d false (.int .i64)], pre := fun _ => True, out := fun (x : Cnt × Unit) => (ctErr x.1, ()), nw := id }
theorem c117 : CtrOk Tryz.prog 117 con117.ctr :=
 con_sound (G := ⟨[(161, con161.ctr), (145, con145.ctr), (101, con101.ctr)], [], [], []⟩) tab_ok (EnvOk.cons c161 has161 (EnvOk.cons c145 has145 (EnvOk.cons c101 has101 EnvOk.nil))) rfl Tryz.func117 rfl con117 43980632950943 (by kernel_rfl) (by decide) (by decide) rfl (by decide) rfl (by
  rintro ⟨⟨(n : Int), ⟨a1, (a2 : Int), a3, (a4 : Int)⟩, (c : Int), (lm : Int), (t : Int), (p : Int), (r : Int), (l : List Pce)⟩, _⟩ hpre hwf X hT hG hk hK
  (simp -implicitDefEqProofs only [go_sem, Prod.eta, Option.isSome_none, Option.isSome_some, Int.toNat_zero, Nat.reduceAdd, Nat.reduceMul, Nat.reduceSub, Nat.reduceEqDiff, Nat.reduceLT, Nat.reduceLeDiff, Nat.reduceShiftRight, Nat.reduceMod, Nat.reduceBEq, reduceCtorEq, reduceIte, reduceDIte, Int.reduceNeg, Bool.not_eq_true', Bool.not_eq_false', Bool.or_eq_true, Bool.or_eq_false_iff, Bool.and_eq_true, Bool.and_eq_false_iff, decide_eq_true_eq, decide_eq_false_iff_not, Classical.not_not, not_or, maxLen, con117, con161, con145, con101, hT, hG, hk, hK, Tryz.results117] at hwf ⊢); (try simp (disch := decide +kernel) only [drawn, true_and, and_true])
  clear hwf
  refine ⟨fun h => ?_, fun h _ => ⟨fun h2 => ?_, fun h2 => ?_⟩⟩
  · unfold ctErr; rw [if_pos h]
  · unfold ctErr; rw [if_neg (by rw [h]; simp), if_pos (by show 60 < l.length; omega)]
  · have e0 : ctErr (n, (a1, a2, a3, a4), c, lm, t, p, r, l) = fErr (pcErr l) l.length := by
     unfold ctErr; rw [if_neg (by rw [h]; simp), if_neg (by show ¬ 60 < l.length; omega)]
    refine evk_loop ⟨{ i : Nat // i ≤ l.length ∧ ∀ k, k < i → pcErr l k = 0 }, 1000, fun q => [(1, .one (.loc 70 0)), (2, .one (.int .i64 0)), (3, .one (.int .i64 q.1))], fun q => [(70, .cells 107 [.int .i64 n, .str a1, .int .i64 a2, .str a3, .int .i64 a4, .int .i64 c, .int .i64 lm, .int .i64 t, .int .i64 p, .int .i64 r, .sl yPC l false])], fun q => l.length - q.1⟩ ⟨0, by omega, fun k hk => by omega⟩ ?_ ?_
    · simp only [go_sem, Prod.eta, Option.isSome_none, Option.isSome_some, Int.toNat_zero, Nat.reduceAdd, Nat.reduceMul, Nat.reduceSub, Nat.reduceEqDiff, Nat.reduceLT, Nat.reduceLeDiff, Nat.reduceShiftRight, Nat.reduceMod, Nat.reduceBEq, reduceCtorEq, reduceIte, reduceDIte, Int.reduceNeg]
      try (first | rfl | exact ⟨rfl, rfl⟩ | (and_intros <;> first | trivial | rfl | omega))
    · rintro ⟨i, (hi : i ≤ l.length), (hz : ∀ k, k < i → pcErr l k = 0)⟩
      have he := fErr_err (f := pcErr l) (n := l.length) (i := i) hz
      (simp -implicitDefEqProofs only [go_sem, Prod.eta, Option.isSome_none, Option.isSome_some, Int.toNat_zero, Nat.reduceAdd, Nat.reduceMul, Nat.reduceSub, Nat.reduceEqDiff, Nat.reduceLT, Nat.reduceLeDiff, Nat.reduceShiftRight, Nat.reduceMod, Nat.reduceBEq, reduceCtorEq, reduceIte, reduceDIte, Int.reduceNeg, Bool.not_eq_true', Bool.not_eq_false', Bool.or_eq_true, Bool.or_eq_false_iff, Bool.and_eq_true, Bool.and_eq_false_iff, decide_eq_true_eq, decide_eq_false_iff_not, Classical.not_not, not_or, maxLen, con117, con161, con145, con101, hT, hG, hk, hK, Tryz.results117]); (try simp (disch := decide +kernel) only [drawn, true_and, and_true])
      obtain ⟨o, ho⟩ : ∃ o, l.getD i pc0 = o := ⟨_, rfl⟩
      obtain ⟨u, hu⟩ : ∃ u, l.getD (i - 1) pc0 = u := ⟨_, rfl⟩
      have eo : l.getD (i : Int).toNat ((0, 0, 0), 0, 0) = o := ho
      have eu : l.getD ((i : Int) - 1).toNat ((0, 0, 0), 0, 0) = u := by rw [show ((i : Int) - 1).toNat = i - 1 by omega]; exact hu
      rw [eo, eu]
      have hun := pltC_cmp.unit u.1 o.1
      (repeat' (with_reducible (first | refine And.intro ?_ ?_ | intro _))) <;> (try (first | with_reducible (first | done | assumption | omega | contradiction) | decide))
      all_goals first
       | (have h1 : okPc o = false := by assumption
          rw [e0, he (by omega) (by rw [pcErr_1 (ho ▸ h1)]; decide), pcErr_1 (ho ▸ h1)]; done)
       | (have h1 : okPc o = true := by assumption
          have h3 : pltC u.1 o.1 = 0 := by assumption
          have e5 := pcErr_5 (ho ▸ h1) (by omega) (by rw [hu, ho]; exact h3)
          rw [e0, he (by omega) (by rw [e5]; decide), e5]; done)
       | (have h1 : okPc o = true := by assumption
          have h3 : pltC u.1 o.1 > 0 := by assumption
          have e5 := pcErr_9 (ho ▸ h1) (by omega) (by rw [hu, ho]; omega)
          rw [e0, he (by omega) (by rw [e5]; decide), e5]; done)
       | (have h1 : okPc o = true := by assumption
          have h0 : (i : Int) = 0 := by assumption
          refine fin_lp ⟨i + 1, by omega, lt_succ hz (pcErr_f (ho ▸ h1) (by omega))⟩ (by simp only [go_sem, Prod.eta, Option.isSome_none, Option.isSome_some, Int.toNat_zero, Nat.reduceAdd, Nat.reduceMul, Nat.reduceSub, Nat.reduceEqDiff, Nat.reduceLT, Nat.reduceLeDiff, Nat.reduceShiftRight, Nat.reduceMod, Nat.reduceBEq, reduceCtorEq, reduceIte, reduceDIte, Int.reduceNeg]; first | rfl | ((repeat' apply And.intro) <;> first | rfl | assumption | omega)) (by dsimp only; omega)
          done)
       | (have h1 : okPc o = true := by assumption
          have h3 : ¬ pltC u.1 o.1 = 0 := by assumption
          have h4 : ¬ pltC u.1 o.1 > 0 := by assumption
          refine fin_lp ⟨i + 1, by omega, lt_succ hz (pcErr_0 (ho ▸ h1) (by omega) (by rw [hu, ho]; exact h3) (by rw [hu, ho]; omega))⟩ (by simp only [go_sem, Prod.eta, Option.isSome_none, Option.isSome_some, Int.toNat_zero, Nat.reduceAdd, Nat.reduceMul, Nat.reduceSub, Nat.reduceEqDiff, Nat.reduceLT, Nat.reduceLeDiff, Nat.reduceShiftRight, Nat.reduceMod, Nat.reduceBEq, reduceCtorEq, reduceIte, reduceDIte, Int.reduceNeg]; first | rfl | ((repeat' apply And.intro) <;> first | rfl | assumption | omega)) (by dsimp only; omega)
          done)
       | (rw [e0, fErr_ok (fun k hk => hz k (by omega))]; done)
       | skip)
def weightV (l : List Pce) : Int := (l.map (fun x => x.2.1)).sum
theorem weightV_succ {l : List Pce} {i : Nat} (h : i < l.length) : weightV (l.take (i + 1)) = weightV (l.take i) + (l.getD i pc0).2.1 := by
 unfold weightV
 rw [List.take_succ_eq_append_getElem h, List.map_append, List.sum_append, getD_lt h]
 simp
theorem weightV_bd {l : List Pce} (h : ∀ i, i < l.length → 0 ≤ (l.getD i pc0).2.1 ∧ (l.getD i pc0).2.1 ≤ 999) : ∀ i, i ≤ l.length → 0 ≤ weightV (l.take i) ∧ weightV (l.take i) ≤ 999 * i := by
 intro i
 induction i with
 | zero => intro _; simp [weightV]
 | succ i ih =>
   intro hi
   rw [weightV_succ (by omega)]
   have := ih (by omega)
   have := h i (by omega)
   omega
def con160 : Con := { ps := [.d false (.sl yPC)], rs := [.d false (.int .i64)], pre := fun (x : List Pce × Unit) => x.1.length ≤ 100000 ∧ ∀ i, i < x.1.length → 0 ≤ (x.1.getD i pc0).2.1 ∧ (x.1.getD i pc0).2.1 ≤ 999, out := fun (x : List Pce × Unit) => (weightV x.1, ()), nw := id }
theorem c160 : CtrOk Tryz.prog 160 con160.ctr :=
 con_sound (G := ⟨[], [], [], []⟩) tab_ok EnvOk.nil rfl Tryz.func160 rfl con160 1005 (by kernel_rfl) (by decide) (by decide) rfl (by decide) rfl (by
  rintro ⟨(l : List Pce), _⟩ hpre hwf X hT hG hk hK
  (simp -implicitDefEqProofs only [go_sem, Prod.eta, Option.isSome_none, Option.isSome_some, Int.toNat_zero, Nat.reduceAdd, Nat.reduceMul, Nat.reduceSub, Nat.reduceEqDiff, Nat.reduceLT, Nat.reduceLeDiff, Nat.reduceShiftRight, Nat.reduceMod, Nat.reduceBEq, reduceCtorEq, reduceIte, reduceDIte, Int.reduceNeg, Bool.not_eq_true', Bool.not_eq_false', Bool.or_eq_true, Bool.or_eq_false_iff, Bool.and_eq_true, Bool.and_eq_false_iff, decide_eq_true_eq, decide_eq_false_iff_not, Classical.not_not, not_or, maxLen, con160, hT, hG, hk, hK, Tryz.results160] at hwf ⊢); (try simp (disch := decide +kernel) only [drawn, true_and, and_true])
  obtain ⟨h1, h2⟩ : l.length ≤ 100000 ∧ ∀ i, i < l.length → 0 ≤ (l.getD i pc0).2.1 ∧ (l.getD i pc0).2.1 ≤ 999 := hpre
  have hb := weightV_bd h2
  refine fun _ => evk_loop ⟨{ i : Nat // i ≤ l.length }, 1000, fun q => [(3, .one (.int .i64 (weightV (l.take q.1)))), (6, .one (.sl yPC l false)), (7, .one (.int .i64 l.length)), (8, .one (.int .i64 q.1))], fun q => [], fun q => l.length - q.1⟩ ⟨0, by omega⟩ ?_ ?_
  · simp only [go_sem, Prod.eta, Option.isSome_none, Option.isSome_some, Int.toNat_zero, Nat.reduceAdd, Nat.reduceMul, Nat.reduceSub, Nat.reduceEqDiff, Nat.reduceLT, Nat.reduceLeDiff, Nat.reduceShiftRight, Nat.reduceMod, Nat.reduceBEq, reduceCtorEq, reduceIte, reduceDIte, Int.reduceNeg]
    try (first | rfl | exact ⟨rfl, rfl⟩ | (and_intros <;> first | trivial | rfl | omega))
  · rintro ⟨i, (hi : i ≤ l.length)⟩
    have hbi := hb i hi
    (simp -implicitDefEqProofs only [go_sem, Prod.eta, Option.isSome_none, Option.isSome_some, Int.toNat_zero, Nat.reduceAdd, Nat.reduceMul, Nat.reduceSub, Nat.reduceEqDiff, Nat.reduceLT, Nat.reduceLeDiff, Nat.reduceShiftRight, Nat.reduceMod, Nat.reduceBEq, reduceCtorEq, reduceIte, reduceDIte, Int.reduceNeg, Bool.not_eq_true', Bool.not_eq_false', Bool.or_eq_true, Bool.or_eq_false_iff, Bool.and_eq_true, Bool.and_eq_false_iff, decide_eq_true_eq, decide_eq_false_iff_not, Classical.not_not, not_or, maxLen, con160, hT, hG, hk, hK, Tryz.results160]); (try simp (disch := decide +kernel) only [drawn, true_and, and_true])
    obtain ⟨o, ho⟩ : ∃ o, l.getD i pc0 = o := ⟨_, rfl⟩
    have eo : l.getD (i : Int).toNat ((0, 0, 0), 0, 0) = o := ho
    rw [eo]
    have hw : i < l.length → weightV (l.take (i + 1)) = weightV (l.take i) + o.2.1 := fun h => by rw [weightV_succ h, ho]
    have h2i := h2 i
    rw [ho] at h2i
    (repeat' (with_reducible (first | refine And.intro ?_ ?_ | intro _))) <;> (try (first | with_reducible (first | done | assumption | omega | contradiction) | decide))
    · have hil : i < l.length := by omega
      refine fin_lp ⟨i + 1, by omega⟩ ?_ (by dsimp only; omega)
      simp only [go_sem, Prod.eta, Option.isSome_none, Option.isSome_some, Int.toNat_zero, Nat.reduceAdd, Nat.reduceMul, Nat.reduceSub, Nat.reduceEqDiff, Nat.reduceLT, Nat.reduceLeDiff, Nat.reduceShiftRight, Nat.reduceMod, Nat.reduceBEq, reduceCtorEq, reduceIte, reduceDIte, Int.reduceNeg]
      rw [hw hil]
      try (first | rfl | exact ⟨rfl, rfl⟩ | (and_intros <;> first | trivial | rfl | omega))
    · rw [List.take_of_length_le (by omega)])
def con119 : Con := { ps := [.d false (.sl yPC)], rs := [.d false (.int .i64)], pre := fun (x : List Pce × Unit) => x.1.length ≤ 100000 ∧ ∀ i, i < x.1.length → 0 ≤ (x.1.getD i pc0).2.1 ∧ (x.1.getD i pc0).2.1 ≤ 999, out := fun (x : List Pce × Unit) => (weightV x.1, ()), nw := id }
theorem c119 : CtrOk Tryz.prog 119 con119.ctr :=
 con_sound (G := ⟨[], [], [], []⟩) tab_ok EnvOk.nil rfl Tryz.func119 rfl con119 285 (by kernel_rfl) (by decide) (by decide) rfl (by decide) rfl (by
  rintro ⟨(l : List Pce), _⟩ hpre hwf X hT hG hk hK
  (simp -implicitDefEqProofs only [go_sem, Prod.eta, Option.isSome_none, Option.isSome_some, Int.toNat_zero, Nat.reduceAdd, Nat.reduceMul, Nat.reduceSub, Nat.reduceEqDiff, Nat.reduceLT, Nat.reduceLeDiff, Nat.reduceShiftRight, Nat.reduceMod, Nat.reduceBEq, reduceCtorEq, reduceIte, reduceDIte, Int.reduceNeg, Bool.not_eq_true', Bool.not_eq_false', Bool.or_eq_true, Bool.or_eq_false_iff, Bool.and_eq_true, Bool.and_eq_false_iff, decide_eq_true_eq, decide_eq_false_iff_not, Classical.not_not, not_or, maxLen, con119, hT, hG, hk, hK, Tryz.results119] at hwf ⊢); (try simp (disch := decide +kernel) only [drawn, true_and, and_true])
  obtain ⟨h1, h2⟩ : l.length ≤ 100000 ∧ ∀ i, i < l.length → 0 ≤ (l.getD i pc0).2.1 ∧ (l.getD i pc0).2.1 ≤ 999 := hpre
  have hb := weightV_bd h2
  refine evk_loop ⟨{ i : Nat // i ≤ l.length }, 1000, fun q => [(0, .one (.sl yPC l false)), (3, .one (.int .i64 (weightV (l.take q.1)))), (4, .one (.int .i64 q.1))], fun q => [], fun q => l.length - q.1⟩ ⟨0, by omega⟩ ?_ ?_
  · simp only [go_sem, Prod.eta, Option.isSome_none, Option.isSome_some, Int.toNat_zero, Nat.reduceAdd, Nat.reduceMul, Nat.reduceSub, Nat.reduceEqDiff, Nat.reduceLT, Nat.reduceLeDiff, Nat.reduceShiftRight, Nat.reduceMod, Nat.reduceBEq, reduceCtorEq, reduceIte, reduceDIte, Int.reduceNeg]
    try (first | rfl | exact ⟨rfl, rfl⟩ | (and_intros <;> first | trivial | rfl | omega))
  · rintro ⟨i, (hi : i ≤ l.length)⟩
    have hbi := hb i hi
    (simp -implicitDefEqProofs only [go_sem, Prod.eta, Option.isSome_none, Option.isSome_some, Int.toNat_zero, Nat.reduceAdd, Nat.reduceMul, Nat.reduceSub, Nat.reduceEqDiff, Nat.reduceLT, Nat.reduceLeDiff, Nat.reduceShiftRight, Nat.reduceMod, Nat.reduceBEq, reduceCtorEq, reduceIte, reduceDIte, Int.reduceNeg, Bool.not_eq_true', Bool.not_eq_false', Bool.or_eq_true, Bool.or_eq_false_iff, Bool.and_eq_true, Bool.and_eq_false_iff, decide_eq_true_eq, decide_eq_false_iff_not, Classical.not_not, not_or, maxLen, con119, hT, hG, hk, hK, Tryz.results119]); (try simp (disch := decide +kernel) only [drawn, true_and, and_true])
    obtain ⟨o, ho⟩ : ∃ o, l.getD i pc0 = o := ⟨_, rfl⟩
    have eo : l.getD (i : Int).toNat ((0, 0, 0), 0, 0) = o := ho
    rw [eo]
    have hw : i < l.length → weightV (l.take (i + 1)) = weightV (l.take i) + o.2.1 := fun h => by rw [weightV_succ h, ho]
    have h2i := h2 i
    rw [ho] at h2i
    (repeat' (with_reducible (first | refine And.intro ?_ ?_ | intro _))) <;> (try (first | with_reducible (first | done | assumption | omega | contradiction) | decide))
    · have hil : i < l.length := by omega
      refine fin_lp ⟨i + 1, by omega⟩ ?_ (by dsimp only; omega)
      simp only [go_sem, Prod.eta, Option.isSome_none, Option.isSome_some, Int.toNat_zero, Nat.reduceAdd, Nat.reduceMul, Nat.reduceSub, Nat.reduceEqDiff, Nat.reduceLT, Nat.reduceLeDiff, Nat.reduceShiftRight, Nat.reduceMod, Nat.reduceBEq, reduceCtorEq, reduceIte, reduceDIte, Int.reduceNeg]
      rw [hw hil]
      try (first | rfl | exact ⟨rfl, rfl⟩ | (and_intros <;> first | trivial | rfl | omega))
    · rw [List.take_of_length_le (by omega)])
theorem okPc_bd {o : Pce} (h : okPc o = true) : (1 ≤ o.2.1 ∧ o.2.1 ≤ 999) ∧ 0 ≤ o.2.2 ∧ o.2.2 ≤ 4 := by
 unfold okPc inV at h
 simp only [Bool.and_eq_true, decide_eq_true_eq] at h
 omega
theorem ct_weights {c : Cnt} (h : ctErr c = 0) : c.pcs.length ≤ 100000 ∧ ∀ i, i < c.pcs.length → 0 ≤ (c.pcs.getD i pc0).2.1 ∧ (c.pcs.getD i pc0).2.1 ≤ 999 := by
 obtain ⟨_, h2, h3⟩ := ctErr_zero h
 exact ⟨by omega, fun i hi => by have := okPc_bd (h3 i hi).1; omega⟩
theorem propC_cats {c : Cnt} (h : propC c = true) : 0 ≤ c.cats ∧ c.cats ≤ 31 := by
 unfold propC inV at h
 simp only [Bool.and_eq_true, decide_eq_true_eq] at h
 omega
def con113 : Con := { ps := [.d true yCT], rs := [.d false (.int .i64)], pre := fun _ => True, out := fun (x : Cnt × Unit) => (if ctErr x.1 ≠ 0 then 0 else weightV x.1.pcs, ()), nw := id }
theorem c113 : CtrOk Tryz.prog 113 con113.ctr :=
 con_sound (G := ⟨[(111, con111.ctr), (160, con160.ctr)], [], [], []⟩) tab_ok (EnvOk.cons c111 has111 (EnvOk.cons c160 has160 EnvOk.nil)) rfl Tryz.func113 rfl con113 39 (by kernel_rfl) (by decide) (by decide) rfl (by decide) rfl (by
  rintro ⟨⟨(n : Int), ⟨a1, (a2 : Int), a3, (a4 : Int)⟩, (c : Int), (lm : Int), (t : Int), (p : Int), (r : Int), (l : List Pce)⟩, _⟩ hpre hwf X hT hG hk hK
  (simp -implicitDefEqProofs only [go_sem, Prod.eta, Option.isSome_none, Option.isSome_some, Int.toNat_zero, Nat.reduceAdd, Nat.reduceMul, Nat.reduceSub, Nat.reduceEqDiff, Nat.reduceLT, Nat.reduceLeDiff, Nat.reduceShiftRight, Nat.reduceMod, Nat.reduceBEq, reduceCtorEq, reduceIte, reduceDIte, Int.reduceNeg, Bool.not_eq_true', Bool.not_eq_false', Bool.or_eq_true, Bool.or_eq_false_iff, Bool.and_eq_true, Bool.and_eq_false_iff, decide_eq_true_eq, decide_eq_false_iff_not, Classical.not_not, not_or, maxLen, con113, con111, con160, hT, hG, hk, hK, Tryz.results113] at hwf ⊢); (try simp (disch := decide +kernel) only [drawn, true_and, and_true])
  clear hwf
  have hw := ct_weights (c := (n, (a1, a2, a3, a4), c, lm, t, p, r, l))
  generalize he : ctErr (n, (a1, a2, a3, a4), c, lm, t, p, r, l) = e at hw ⊢
  (repeat' (with_reducible (first | refine And.intro ?_ ?_ | intro _))) <;> (try (first | with_reducible (first | done | assumption | omega | contradiction) | decide))
  all_goals first
   | (have h0 : e = 0 := by assumption
      exact (hw h0).1)
   | (have h0 : e = 0 := by assumption
      exact (hw h0).2)
   | (have h0 : e = 0 := by assumption
      exact ((hw h0).2 _ (by assumption)).1)
   | (have h0 : e = 0 := by assumption
      exact ((hw h0).2 _ (by assumption)).2)
   | (have h0 : ¬ e = 0 := by assumption
      rw [if_pos h0])
   | (have h0 : e = 0 := by assumption
      rw [if_neg (by simp [h0])]))
def overV (c : Cnt) : Bool := if ctErr c ≠ 0 then false else c.pcs.any (fun x => !takesV c x.2.2) || decide (weightV c.pcs > c.lim) || decide ((c.pcs.length : Int) > c.most)
def con58 : Con := { ps := [.d true yCT], rs := [.d false .bool], pre := fun _ => True, out := fun (x : Cnt × Unit) => (overV x.1, ()), nw := id }
theorem c58 : CtrOk Tryz.prog 58 con58.ctr :=
 con_sound (G := ⟨[(111, con111.ctr), (112, con112.ctr), (113, con113.ctr)], [], [], []⟩) tab_ok (EnvOk.cons c111 has111 (EnvOk.cons c112 has112 (EnvOk.cons c113 has113 EnvOk.nil))) rfl Tryz.func58 rfl con58 532119 (by kernel_rfl) (by decide) (by decide) rfl (by decide) rfl (by
  rintro ⟨⟨(n : Int), ⟨a1, (a2 : Int), a3, (a4 : Int)⟩, (c : Int), (lm : Int), (t : Int), (p : Int), (r : Int), (l : List Pce)⟩, _⟩ hpre hwf X hT hG hk hK
  (simp -implicitDefEqProofs only [go_sem, Prod.eta, Option.isSome_none, Option.isSome_some, Int.toNat_zero, Nat.reduceAdd, Nat.reduceMul, Nat.reduceSub, Nat.reduceEqDiff, Nat.reduceLT, Nat.reduceLeDiff, Nat.reduceShiftRight, Nat.reduceMod, Nat.reduceBEq, reduceCtorEq, reduceIte, reduceDIte, Int.reduceNeg, Bool.not_eq_true', Bool.not_eq_false', Bool.or_eq_true, Bool.or_eq_false_iff, Bool.and_eq_true, Bool.and_eq_false_iff, decide_eq_true_eq, decide_eq_false_iff_not, Classical.not_not, not_or, maxLen, con58, con111, con112, con113, hT, hG, hk, hK, Tryz.results58] at hwf ⊢); (try simp (disch := decide +kernel) only [drawn, true_and, and_true])
  clear hwf
  obtain ⟨C, hC⟩ : ∃ C : Cnt, (n, (a1, a2, a3, a4), c, lm, t, p, r, l) = C := ⟨_, rfl⟩
  simp only [hC]
  have hl : C.pcs = l := by rw [← hC]
  have hcc : C.cats = c := by rw [← hC]
  have hm : C.lim = lm := by rw [← hC]
  have hmo : C.most = t := by rw [← hC]
  refine fun _ => ⟨fun h => ?_, fun h hlen => ?_⟩
  · unfold overV; rw [if_pos h]
  · obtain ⟨g1, g2, g3⟩ := ctErr_zero h
    have g4 := propC_cats g1
    rw [hl] at g2 g3
    rw [hcc] at g4
    have e0 : overV C = (l.any (fun x => !takesV C x.2.2) || decide (weightV l > lm) || decide ((l.length : Int) > t)) := by
     unfold overV; rw [if_neg (by simp [h]), hl, hm, hmo]
    refine evk_loop ⟨{ i : Nat // i ≤ l.length ∧ ∀ k, k < i → (fun x : Pce => !takesV C x.2.2) (l.getD k pc0) = false }, 1000, fun q => [(1, .one (.loc 70 0)), (2, .one (.bool false)), (9, .one (.sl yPC l false)), (10, .one (.int .i64 l.length)), (11, .one (.int .i64 q.1))], fun q => [(70, .cells 107 [.int .i64 n, .str a1, .int .i64 a2, .str a3, .int .i64 a4, .int .i64 c, .int .i64 lm, .int .i64 t, .int .i64 p, .int .i64 r, .sl yPC l false])], fun q => l.length - q.1⟩ ⟨0, by omega, fun k hk => by omega⟩ ?_ ?_
    · simp only [go_sem, Prod.eta, Option.isSome_none, Option.isSome_some, Int.toNat_zero, Nat.reduceAdd, Nat.reduceMul, Nat.reduceSub, Nat.reduceEqDiff, Nat.reduceLT, Nat.reduceLeDiff, Nat.reduceShiftRight, Nat.reduceMod, Nat.reduceBEq, reduceCtorEq, reduceIte, reduceDIte, Int.reduceNeg]
      try (first | rfl | exact ⟨rfl, rfl⟩ | (and_intros <;> first | trivial | rfl | omega))
    · rintro ⟨i, (hi : i ≤ l.length), hz⟩
      (simp -implicitDefEqProofs only [go_sem, Prod.eta, Option.isSome_none, Option.isSome_some, Int.toNat_zero, Nat.reduceAdd, Nat.reduceMul, Nat.reduceSub, Nat.reduceEqDiff, Nat.reduceLT, Nat.reduceLeDiff, Nat.reduceShiftRight, Nat.reduceMod, Nat.reduceBEq, reduceCtorEq, reduceIte, reduceDIte, Int.reduceNeg, Bool.not_eq_true', Bool.not_eq_false', Bool.or_eq_true, Bool.or_eq_false_iff, Bool.and_eq_true, Bool.and_eq_false_iff, decide_eq_true_eq, decide_eq_false_iff_not, Classical.not_not, not_or, maxLen, con58, con111, con112, con113, hT, hG, hk, hK, Tryz.results58]); (try simp (disch := decide +kernel) only [drawn, true_and, and_true])
      simp only [hC]
      obtain ⟨o, ho⟩ : ∃ o, l.getD i pc0 = o := ⟨_, rfl⟩
      have eo : l.getD (i : Int).toNat ((0, 0, 0), 0, 0) = o := ho
      rw [eo]
      have ho2 : i < l.length → (1 ≤ o.2.1 ∧ o.2.1 ≤ 999) ∧ 0 ≤ o.2.2 ∧ o.2.2 ≤ 4 := fun hi => okPc_bd (ho ▸ (g3 i hi).1)
      simp only [hcc]
      refine ⟨fun hlt => ?_, fun hge => ?_⟩
      · have ho2 := ho2 (by omega)
        (repeat' (with_reducible (first | refine And.intro ?_ ?_ | intro _))) <;> (try (first | with_reducible (first | done | assumption | omega | contradiction) | decide))
        all_goals first
         | (have h1 : takesV C o.2.2 = false := by assumption
            rw [e0, any_at (d := pc0) (i := i) (by omega) (by rw [ho, h1]; rfl)]
            simp; done)
         | (have h1 : takesV C o.2.2 = true := by assumption
            refine fin_lp ⟨i + 1, by omega, lt_succ hz (by show (!takesV C (l.getD i pc0).2.2) = false; rw [ho, h1]; first | done | rfl)⟩ (by simp only [go_sem, Prod.eta, Option.isSome_none, Option.isSome_some, Int.toNat_zero, Nat.reduceAdd, Nat.reduceMul, Nat.reduceSub, Nat.reduceEqDiff, Nat.reduceLT, Nat.reduceLeDiff, Nat.reduceShiftRight, Nat.reduceMod, Nat.reduceBEq, reduceCtorEq, reduceIte, reduceDIte, Int.reduceNeg]; first | rfl | ((repeat' apply And.intro) <;> first | rfl | assumption | omega)) (by dsimp only; omega)
            done)
         | skip
      · have hz' : l.any (fun x => !takesV C x.2.2) = false := any_none (d := pc0) fun k hk => hz k (by omega)
        rw [e0, hz', h]
        simp only [if_neg (show ¬ (0 : Int) ≠ 0 by simp), hl]
        (repeat' (with_reducible (first | refine And.intro ?_ ?_ | intro _))) <;> (try (first | with_reducible (first | done | assumption | omega | contradiction) | decide))
        all_goals first | rfl | simp | skip)
def con64 : Con := { ps := [.d true yCT], rs := [.d false .bool], pre := fun _ => True, out := fun (x : Cnt × Unit) => (overV x.1, ()), nw := id }
theorem c64 : CtrOk Tryz.prog 64 con64.ctr :=
 con_sound (G := ⟨[(117, con117.ctr), (118, con118.ctr), (119, con119.ctr)], [], [], []⟩) tab_ok (EnvOk.cons c117 has117 (EnvOk.cons c118 has118 (EnvOk.cons c119 has119 EnvOk.nil))) rfl Tryz.func64 rfl con64 4196431 (by kernel_rfl) (by decide) (by decide) rfl (by decide) rfl (by
  rintro ⟨⟨(n : Int), ⟨a1, (a2 : Int), a3, (a4 : Int)⟩, (c : Int), (lm : Int), (t : Int), (p : Int), (r : Int), (l : List Pce)⟩, _⟩ hpre hwf X hT hG hk hK
  (simp -implicitDefEqProofs only [go_sem, Prod.eta, Option.isSome_none, Option.isSome_some, Int.toNat_zero, Nat.reduceAdd, Nat.reduceMul, Nat.reduceSub, Nat.reduceEqDiff, Nat.reduceLT, Nat.reduceLeDiff, Nat.reduceShiftRight, Nat.reduceMod, Nat.reduceBEq, reduceCtorEq, reduceIte, reduceDIte, Int.reduceNeg, Bool.not_eq_true', Bool.not_eq_false', Bool.or_eq_true, Bool.or_eq_false_iff, Bool.and_eq_true, Bool.and_eq_false_iff, decide_eq_true_eq, decide_eq_false_iff_not, Classical.not_not, not_or, maxLen, con64, con117, con118, con119, hT, hG, hk, hK, Tryz.results64] at hwf ⊢); (try simp (disch := decide +kernel) only [drawn, true_and, and_true])
  clear hwf
  obtain ⟨C, hC⟩ : ∃ C : Cnt, (n, (a1, a2, a3, a4), c, lm, t, p, r, l) = C := ⟨_, rfl⟩
  simp only [hC]
  have hl : C.pcs = l := by rw [← hC]
  have hcc : C.cats = c := by rw [← hC]
  have hm : C.lim = lm := by rw [← hC]
  have hmo : C.most = t := by rw [← hC]
  refine fun _ => ⟨fun h => ?_, fun h => ?_⟩
  · unfold overV; rw [if_pos h]
  · obtain ⟨g1, g2, g3⟩ := ctErr_zero h
    have g4 := propC_cats g1
    have g5 := ct_weights h
    rw [hl] at g2 g3 g5
    rw [hcc] at g4
    have e0 : overV C = (l.any (fun x => !takesV C x.2.2) || decide (weightV l > lm) || decide ((l.length : Int) > t)) := by
     unfold overV; rw [if_neg (by simp [h]), hl, hm, hmo]
    refine evk_loop ⟨{ i : Nat // i ≤ l.length ∧ ∀ k, k < i → (fun x : Pce => !takesV C x.2.2) (l.getD k pc0) = false }, 1000, fun q => [(1, .one (.loc 70 0)), (2, .one (.bool false)), (3, .one (.int .i64 q.1))], fun q => [(70, .cells 107 [.int .i64 n, .str a1, .int .i64 a2, .str a3, .int .i64 a4, .int .i64 c, .int .i64 lm, .int .i64 t, .int .i64 p, .int .i64 r, .sl yPC l false])], fun q => l.length - q.1⟩ ⟨0, by omega, fun k hk => by omega⟩ ?_ ?_
    · simp only [go_sem, Prod.eta, Option.isSome_none, Option.isSome_some, Int.toNat_zero, Nat.reduceAdd, Nat.reduceMul, Nat.reduceSub, Nat.reduceEqDiff, Nat.reduceLT, Nat.reduceLeDiff, Nat.reduceShiftRight, Nat.reduceMod, Nat.reduceBEq, reduceCtorEq, reduceIte, reduceDIte, Int.reduceNeg]
      try (first | rfl | exact ⟨rfl, rfl⟩ | (and_intros <;> first | trivial | rfl | omega))
    · rintro ⟨i, (hi : i ≤ l.length), hz⟩
      (simp -implicitDefEqProofs only [go_sem, Prod.eta, Option.isSome_none, Option.isSome_some, Int.toNat_zero, Nat.reduceAdd, Nat.reduceMul, Nat.reduceSub, Nat.reduceEqDiff, Nat.reduceLT, Nat.reduceLeDiff, Nat.reduceShiftRight, Nat.reduceMod, Nat.reduceBEq, reduceCtorEq, reduceIte, reduceDIte, Int.reduceNeg, Bool.not_eq_true', Bool.not_eq_false', Bool.or_eq_true, Bool.or_eq_false_iff, Bool.and_eq_true, Bool.and_eq_false_iff, decide_eq_true_eq, decide_eq_false_iff_not, Classical.not_not, not_or, maxLen, con64, con117, con118, con119, hT, hG, hk, hK, Tryz.results64]); (try simp (disch := decide +kernel) only [drawn, true_and, and_true])
      simp only [hC]
      obtain ⟨o, ho⟩ : ∃ o, l.getD i pc0 = o := ⟨_, rfl⟩
      have eo : l.getD (i : Int).toNat ((0, 0, 0), 0, 0) = o := ho
      rw [eo]
      have ho2 : i < l.length → (1 ≤ o.2.1 ∧ o.2.1 ≤ 999) ∧ 0 ≤ o.2.2 ∧ o.2.2 ≤ 4 := fun hi => okPc_bd (ho ▸ (g3 i hi).1)
      simp only [hcc]
      refine fun hlen => ⟨fun hlt => ?_, fun hge => ?_⟩
      · have ho2 := ho2 (by omega)
        (repeat' (with_reducible (first | refine And.intro ?_ ?_ | intro _))) <;> (try (first | with_reducible (first | done | assumption | omega | contradiction) | decide))
        all_goals first
         | (have h1 : takesV C o.2.2 = false := by assumption
            rw [e0, any_at (d := pc0) (i := i) (by omega) (by rw [ho, h1]; rfl)]
            simp; done)
         | (have h1 : takesV C o.2.2 = true := by assumption
            refine fin_lp ⟨i + 1, by omega, lt_succ hz (by show (!takesV C (l.getD i pc0).2.2) = false; rw [ho, h1]; first | done | rfl)⟩ (by simp only [go_sem, Prod.eta, Option.isSome_none, Option.isSome_some, Int.toNat_zero, Nat.reduceAdd, Nat.reduceMul, Nat.reduceSub, Nat.reduceEqDiff, Nat.reduceLT, Nat.reduceLeDiff, Nat.reduceShiftRight, Nat.reduceMod, Nat.reduceBEq, reduceCtorEq, reduceIte, reduceDIte, Int.reduceNeg]; first | rfl | ((repeat' apply And.intro) <;> first | rfl | assumption | omega)) (by dsimp only; omega)
            done)
         | skip
      · have hz' : l.any (fun x => !takesV C x.2.2) = false := any_none (d := pc0) fun k hk => hz k (by omega)
        rw [e0, hz']
        (repeat' (with_reducible (first | refine And.intro ?_ ?_ | intro _))) <;> (try (first | with_reducible (first | done | assumption | omega | contradiction) | decide))
        all_goals first | exact g5.2 | exact (g5.2 _ (by assumption)).1 | exact (g5.2 _ (by assumption)).2 | rfl | simp | skip)
def holdsV (c : Cnt) (p : Plt) : Bool := c.pcs.any (fun x => decide (x.1 = p))
end Go.Proofs.YtjhoidgpecgfoaaGreat
