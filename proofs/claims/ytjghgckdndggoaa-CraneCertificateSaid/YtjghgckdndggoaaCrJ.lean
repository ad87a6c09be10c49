/- The contracts of the functions that the statements about the crane reach: the reference's checks; the certificate. -/
import Derived.Test.YtjghgckdndggoaaCrI
set_option linter.unusedSimpArgs false
set_option linter.unusedVariables false
set_option maxRecDepth 100000
set_option maxHeartbeats 4000000
namespace Go.Proofs.Ytjghgckdndggoaa
open Go.Ev

theorem has18 : FnHas Try.prog 18 := ⟨⟨_, Try.func18, by kernel_rfl, by kernel_rfl⟩⟩
theorem has19 : FnHas Try.prog 19 := ⟨⟨_, Try.func19, by kernel_rfl, by kernel_rfl⟩⟩
theorem has32 : FnHas Try.prog 32 := ⟨⟨_, Try.func32, by kernel_rfl, by kernel_rfl⟩⟩
theorem has33 : FnHas Try.prog 33 := ⟨⟨_, Try.func33, by kernel_rfl, by kernel_rfl⟩⟩
theorem has22 : FnHas Try.prog 22 := ⟨⟨_, Try.func22, by kernel_rfl, by kernel_rfl⟩⟩
theorem has17 : FnHas Try.prog 17 := ⟨⟨_, Try.func17, by kernel_rfl, by kernel_rfl⟩⟩


def con18 : Con := { ps := [.d false (.sl (.int .i64)), .d false (.int .i64)], rs := [.d false .bool], pre := fun _ => True, out := fun x => (decide (x.2.1 ∈ x.1), ()), nw := id }
theorem c18 : CtrOk Try.prog 18 con18.ctr :=
  con_sound (G := ⟨[], [], []⟩) tab_ok EnvOk.nil rfl Try.func18 rfl con18 131635 (by kernel_rfl) (by decide) (by decide) rfl (by decide) rfl (by
    rintro ⟨(l : List Int), (x : Int), _⟩ hpre hwf X hT hG hk hK
    (simp only [go_sem, Int.toNat_zero, Nat.reduceAdd, Nat.reduceMul, Nat.reduceSub, Nat.reduceEqDiff, Nat.reduceLT, Nat.reduceLeDiff, Nat.reduceShiftRight, Nat.reduceMod, Nat.reduceBEq, reduceCtorEq, reduceIte, reduceDIte, Int.reduceNeg, con18, hT, hG, hk, hK, Try.results18] at hwf ⊢); (try simp (disch := decide +kernel) only [drawn, true_and, and_true])
    refine evk_loop ⟨{ i : Nat // i ≤ l.length ∧ x ∉ l.take i }, 1000, fun i => [(0, .one (.sl (.int .i64) l false)), (1, .one (.int .i64 x)), (5, .one (.int .i64 i.1))], fun _ => [], fun i => l.length - i.1⟩ ⟨0, by simp⟩ ?_ ?_
    · simp only [go_sem, Int.toNat_zero, Nat.reduceAdd, Nat.reduceMul, Nat.reduceSub, Nat.reduceEqDiff, Nat.reduceLT, Nat.reduceLeDiff, Nat.reduceShiftRight, Nat.reduceMod, Nat.reduceBEq, reduceCtorEq, reduceIte, reduceDIte, Int.reduceNeg]
      rfl
    · rintro ⟨i, hi, hx⟩
      (simp only [go_sem, Int.toNat_zero, Nat.reduceAdd, Nat.reduceMul, Nat.reduceSub, Nat.reduceEqDiff, Nat.reduceLT, Nat.reduceLeDiff, Nat.reduceShiftRight, Nat.reduceMod, Nat.reduceBEq, reduceCtorEq, reduceIte, reduceDIte, Int.reduceNeg, con18, hT, hG, hk, hK, Try.results18]); (try simp (disch := decide +kernel) only [drawn, true_and, and_true])
      intro hl
      refine ⟨fun hlt => ⟨⟨by omega, hlt⟩, fun _ _ => ⟨fun he => ?_, fun he => ⟨by have := hwf.1.1; simp only [maxLen] at this; omega, ?_⟩⟩⟩, fun hge => ?_⟩
      · have : x ∈ l := by
          have hi' : i < l.length := by omega
          rw [← he]; simp [hi']
        simp [this]
      · refine fin_lp ⟨i + 1, by omega, ?_⟩ ?_ ?_
        · have hi' : i < l.length := by omega
          rw [List.take_succ_eq_append_getElem hi']
          simp [hi'] at he
          simp only [List.mem_append, List.mem_singleton, not_or]
          exact ⟨hx, fun h => he h.symm⟩
        · simp only [go_sem, Int.toNat_zero, Nat.reduceAdd, Nat.reduceMul, Nat.reduceSub, Nat.reduceEqDiff, Nat.reduceLT, Nat.reduceLeDiff, Nat.reduceShiftRight, Nat.reduceMod, Nat.reduceBEq, reduceCtorEq, reduceIte, reduceDIte, Int.reduceNeg]
          rfl
        · show l.length - (i + 1) < l.length - i
          omega
      · rw [List.take_of_length_le (by omega)] at hx
        simp [hx])

def con19 : Con := { ps := [.d false (.int .i64)], rs := [.d false (.int .i64)], pre := fun _ => True, out := fun x => (costV x.1, ()), nw := id }
theorem c19 : CtrOk Try.prog 19 con19.ctr :=
  con_sound (G := ⟨[], [], []⟩) tab_ok EnvOk.nil rfl Try.func19 rfl con19 261 (by kernel_rfl) (by decide) (by decide) rfl (by decide) rfl (by
    rintro ⟨(p : Int), _⟩ hpre hwf X hT hG hk hK
    (simp only [go_sem, Int.toNat_zero, Nat.reduceAdd, Nat.reduceMul, Nat.reduceSub, Nat.reduceEqDiff, Nat.reduceLT, Nat.reduceLeDiff, Nat.reduceShiftRight, Nat.reduceMod, Nat.reduceBEq, reduceCtorEq, reduceIte, reduceDIte, Int.reduceNeg, con19, hT, hG, hk, hK, Try.results19] at hwf ⊢); (try simp (disch := decide +kernel) only [drawn, true_and, and_true])
    unfold costV
    refine ⟨fun h => by simpa using h, fun h => ?_, fun h => ?_⟩
    · rw [if_pos (by simpa using h)]
    · simp only [Bool.or_eq_false_iff, decide_eq_false_iff_not] at h
      refine ⟨by omega, by omega, ?_⟩
      rw [if_neg (by omega)])

def con32 : Con := { ps := [.d false (.int .i64), .d false (.sl (.pair (.int .i64) (.int .i64)))], rs := [.d false (.int .i64)], pre := fun _ => True, out := fun x => (checkedV x.1 x.2.1, ()), nw := id }
theorem c32 : CtrOk Try.prog 32 con32.ctr :=
  con_sound (G := ⟨[(19, con19.ctr)], [], []⟩) tab_ok (EnvOk.cons c19 has19 EnvOk.nil) rfl Try.func32 rfl con32 8796093301043 (by kernel_rfl) (by decide) (by decide) rfl (by decide) rfl (by
    rintro ⟨(now : Int), (js : Jobs), _⟩ hpre hwf X hT hG hk hK
    (simp only [go_sem, Int.toNat_zero, Nat.reduceAdd, Nat.reduceMul, Nat.reduceSub, Nat.reduceEqDiff, Nat.reduceLT, Nat.reduceLeDiff, Nat.reduceShiftRight, Nat.reduceMod, Nat.reduceBEq, reduceCtorEq, reduceIte, reduceDIte, Int.reduceNeg, con32, con19, hT, hG, hk, hK, Try.results32] at hwf ⊢); (try simp (disch := decide +kernel) only [drawn, true_and, and_true])
    intro hl
    refine ⟨fun h => by unfold checkedV; rw [if_pos (by omega)], fun h => ⟨fun k => by simpa using k, fun k => ?_, fun k => ?_⟩⟩
    · unfold checkedV; rw [if_neg (by omega), if_pos (by simpa using k)]
    · have e : checkedV now js = if js.all okJob then 0 else 1 := by
        simp only [Bool.or_eq_false_iff, decide_eq_false_iff_not] at k
        unfold checkedV; rw [if_neg (by omega), if_neg (by omega)]
      refine evk_loop ⟨{ i : Nat // i ≤ js.length ∧ (js.take i).all okJob = true }, 1000, fun i => [(1, .one (.sl (.pair (.int .i64) (.int .i64)) js false)), (5, .one (.int .i64 i.1))], fun _ => [], fun i => js.length - i.1⟩ ⟨0, by simp⟩ ?_ ?_
      · simp only [go_sem, Int.toNat_zero, Nat.reduceAdd, Nat.reduceMul, Nat.reduceSub, Nat.reduceEqDiff, Nat.reduceLT, Nat.reduceLeDiff, Nat.reduceShiftRight, Nat.reduceMod, Nat.reduceBEq, reduceCtorEq, reduceIte, reduceDIte, Int.reduceNeg]
        rfl
      · rintro ⟨i, hi, hx⟩
        (simp only [go_sem, Int.toNat_zero, Nat.reduceAdd, Nat.reduceMul, Nat.reduceSub, Nat.reduceEqDiff, Nat.reduceLT, Nat.reduceLeDiff, Nat.reduceShiftRight, Nat.reduceMod, Nat.reduceBEq, reduceCtorEq, reduceIte, reduceDIte, Int.reduceNeg, con32, con19, hT, hG, hk, hK, Try.results32]); (try simp (disch := decide +kernel) only [drawn, true_and, and_true])
        rw [e]
        intro _
        refine ⟨fun hlt => ⟨⟨by omega, hlt⟩, fun _ _ _ => ?_⟩, fun hge => ?_⟩
        · have hi' : i < js.length := by omega
          have ej : js.getD (i : Int).toNat (0, 0) = js[i] := by simp [hi']
          rw [ej]
          have hm : js[i] ∈ js := List.getElem_mem hi'
          have ha : (decide (costV js[i].1 < 0) || decide (js[i].2 < 0) || decide (js[i].2 > 1048576)) = !okJob js[i] := by
            have q : ∀ (a b c : Prop) [Decidable a] [Decidable b] [Decidable c] (a' b' c' : Prop) [Decidable a'] [Decidable b'] [Decidable c'], (a' ↔ ¬a) → (b' ↔ ¬b) → (c' ↔ ¬c) → (decide a || decide b || decide c) = !(decide a' && decide b' && decide c') := by
              intro a b c _ _ _ a' b' c' _ _ _ h1 h2 h3
              simp only [h1, h2, h3, decide_not]
              cases decide a <;> cases decide b <;> cases decide c <;> rfl
            exact q _ _ _ _ _ _ (by omega) (by omega) (by omega)
          rw [ha]
          refine ⟨fun h => ⟨by omega, by omega⟩, fun _ _ => ⟨fun h => by simpa using h, fun h => ⟨by omega, by omega⟩, fun _ _ => ⟨fun h => by rw [h]; rfl, fun h => ?_, fun h => ⟨by omega, fin_lp ⟨i + 1, by omega, ?_⟩ ?_ ?_⟩⟩⟩⟩
          · rw [if_neg]
            intro hall
            rw [List.all_eq_true.1 hall _ hm] at h
            cases h
          · rw [List.take_succ_eq_append_getElem hi', List.all_append, hx]
            simpa using h
          · simp only [go_sem, Int.toNat_zero, Nat.reduceAdd, Nat.reduceMul, Nat.reduceSub, Nat.reduceEqDiff, Nat.reduceLT, Nat.reduceLeDiff, Nat.reduceShiftRight, Nat.reduceMod, Nat.reduceBEq, reduceCtorEq, reduceIte, reduceDIte, Int.reduceNeg]
            rfl
          · show js.length - (i + 1) < js.length - i
            omega
        · rw [List.take_of_length_le (by omega)] at hx
          rw [if_pos hx])

/-- Numbers that rise from at least 0 are no less than their places. -/
theorem rise_ge : ∀ (l : List Int) (b : Int), l.Pairwise (· < ·) → (∀ x ∈ l, b ≤ x) → ∀ i (h : i < l.length), b + i ≤ l[i]
  | x :: l, b, hp, hb, 0, _ => by simpa using hb x (by simp)
  | x :: l, b, hp, hb, i + 1, h => by
    rw [List.pairwise_cons] at hp
    have := rise_ge l (b + 1) hp.2 (fun y hy => by have := hp.1 y hy; have := hb x (by simp); omega) i (by simpa using h)
    simp only [List.getElem_cons_succ]
    omega
theorem rise_le (l : List Int) (n : Int) (hp : l.Pairwise (· < ·)) (hb : ∀ x ∈ l, x < n) (i : Nat) (h : i < l.length) : l[i] + (l.length - i) ≤ n := by
  induction l generalizing i with
  | nil => simp at h
  | cons x l ih =>
    rw [List.pairwise_cons] at hp
    cases i with
    | succ i =>
      have := ih hp.2 (fun y hy => hb y (by simp [hy])) i (by simpa using h)
      simp only [List.getElem_cons_succ, List.length_cons]
      omega
    | zero =>
      cases l with
      | nil => have := hb x (by simp); simp; omega
      | cons y l =>
        have h1 := ih hp.2 (fun y hy => hb y (by simp [hy])) 0 (by simp)
        have h2 := hp.1 y (by simp)
        simp only [List.getElem_cons_zero, List.length_cons] at h1 ⊢
        omega
theorem order_of {l : List Int} {n : Nat} (hd : l.Nodup) (hb : ∀ x ∈ l, 0 ≤ x ∧ x < n) (hl : l.length = n) : l.Perm (idxs n) := by
  have hs := sortI_sorted l
  have hn : (sortI l).Nodup := (sortI_perm l).nodup_iff.2 hd
  have hr : (sortI l).Pairwise (· < ·) := by
    have := hs.and hn
    exact this.imp (fun h => by have := h.1; have := h.2; omega)
  have hm : ∀ x ∈ sortI l, 0 ≤ x ∧ x < n := fun x hx => hb x ((sortI_perm l).mem_iff.1 hx)
  have e : sortI l = idxs n := by
    apply List.ext_getElem
    · rw [sortI_len, hl, idxs_len]
    · intro i h1 h2
      have g1 := rise_ge (sortI l) 0 hr (fun x hx => (hm x hx).1) i h1
      have g2 := rise_le (sortI l) n hr (fun x hx => (hm x hx).2) i h1
      rw [sortI_len, hl] at g2
      simp only [idxs, List.getElem_map, List.getElem_range, Int.ofNat_eq_natCast]
      omega
  rw [← e]
  exact (sortI_perm l).symm
theorem idxs_nodup (n : Nat) : (idxs n).Nodup := by
  unfold idxs List.Nodup
  rw [List.pairwise_map]
  exact List.pairwise_lt_range.imp (fun h => by simp only [Int.ofNat_eq_natCast]; omega)

def con33 : Con := { ps := [.d false (.sl (.pair (.int .i64) (.int .i64))), .d false (.sl (.int .i64))], rs := [.d false .bool], pre := fun _ => True, out := fun x => (orderedV (List.length x.1) x.2.1, ()), nw := id }
theorem c33 : CtrOk Try.prog 33 con33.ctr :=
  con_sound (G := ⟨[(18, con18.ctr)], [], []⟩) tab_ok (EnvOk.cons c18 has18 EnvOk.nil) rfl Try.func33 rfl con33 34359738931 (by kernel_rfl) (by decide) (by decide) rfl (by decide) rfl (by
    rintro ⟨(js : Jobs), (o : List Int), _⟩ hpre hwf X hT hG hk hK
    (simp only [go_sem, Int.toNat_zero, Nat.reduceAdd, Nat.reduceMul, Nat.reduceSub, Nat.reduceEqDiff, Nat.reduceLT, Nat.reduceLeDiff, Nat.reduceShiftRight, Nat.reduceMod, Nat.reduceBEq, reduceCtorEq, reduceIte, reduceDIte, Int.reduceNeg, con33, con18, hT, hG, hk, hK, Try.results33] at hwf ⊢); (try simp (disch := decide +kernel) only [drawn, true_and, and_true])
    refine evk_loop ⟨{ i : Nat // i ≤ o.length ∧ (o.take i).Nodup ∧ ∀ x ∈ o.take i, 0 ≤ x ∧ x < js.length }, 1000, fun i => [(0, .one (.sl (.pair (.int .i64) (.int .i64)) js false)), (1, .one (.sl (.int .i64) o false)), (5, .one (.int .i64 i.1))], fun _ => [], fun i => o.length - i.1⟩ ⟨0, by simp⟩ ?_ ?_
    · simp only [go_sem, Int.toNat_zero, Nat.reduceAdd, Nat.reduceMul, Nat.reduceSub, Nat.reduceEqDiff, Nat.reduceLT, Nat.reduceLeDiff, Nat.reduceShiftRight, Nat.reduceMod, Nat.reduceBEq, reduceCtorEq, reduceIte, reduceDIte, Int.reduceNeg]
      rfl
    · rintro ⟨i, hi, hd, hb⟩
      (simp only [go_sem, Int.toNat_zero, Nat.reduceAdd, Nat.reduceMul, Nat.reduceSub, Nat.reduceEqDiff, Nat.reduceLT, Nat.reduceLeDiff, Nat.reduceShiftRight, Nat.reduceMod, Nat.reduceBEq, reduceCtorEq, reduceIte, reduceDIte, Int.reduceNeg, Bool.not_eq_true', Bool.not_eq_false', Bool.or_eq_true, Bool.or_eq_false_iff, Bool.and_eq_true, Bool.and_eq_false_iff, decide_eq_true_eq, decide_eq_false_iff_not, Classical.not_not, not_or, maxLen, con33, con18, hT, hG, hk, hK, Try.results33]); (try simp (disch := decide +kernel) only [drawn, true_and, and_true])
      intro hl
      refine ⟨fun hlt => ?_, fun hge => ?_⟩
      · have hi' : i < o.length := by omega
        have eo : o.getD (i : Int).toNat 0 = o[i] := by simp [hi']
        rw [eo]
        have hm := List.getElem_mem hi'
        (repeat' (with_reducible (first | refine And.intro ?_ ?_ | intro _))) <;> (try (first | with_reducible (first | done | assumption | omega | contradiction) | decide))
        · rename_i h
          cases hov : orderedV (js.length : Int) o with
          | false => rfl
          | true =>
            exfalso
            have hp := ordered_true hov
            have hx := idxs_mem (hp.mem_iff.1 hm)
            have hnd := hp.nodup_iff.2 (idxs_nodup _)
            rcases h with h | h
            · omega
            · rw [Int.toNat_natCast] at h
              rw [← List.take_append_drop i o, List.drop_eq_getElem_cons hi'] at hnd
              exact (List.nodup_append.1 hnd).2.2 _ h _ List.mem_cons_self rfl
        · rename_i h
          refine fin_lp ⟨i + 1, by omega, ?_, ?_⟩ ?_ ?_
          · rw [List.take_succ_eq_append_getElem hi', List.nodup_append]
            rw [Int.toNat_natCast] at h
            refine ⟨hd, by simp, fun a ha b hb' => ?_⟩
            rw [List.mem_singleton.1 hb']
            exact fun e => h.2 (e ▸ ha)
          · intro x hx
            rw [List.take_succ_eq_append_getElem hi', List.mem_append] at hx
            rcases hx with hx | hx
            · exact hb x hx
            · rw [List.mem_singleton.1 hx]; omega
          · simp only [go_sem, Int.toNat_zero, Nat.reduceAdd, Nat.reduceMul, Nat.reduceSub, Nat.reduceEqDiff, Nat.reduceLT, Nat.reduceLeDiff, Nat.reduceShiftRight, Nat.reduceMod, Nat.reduceBEq, reduceCtorEq, reduceIte, reduceDIte, Int.reduceNeg]
            rfl
          · show o.length - (i + 1) < o.length - i
            omega
      · rw [List.take_of_length_le (by omega)] at hd hb
        intro _ _
        cases hov : orderedV (js.length : Int) o with
        | true =>
          have := (ordered_true hov).length_eq
          rw [idxs_len] at this
          exact decide_eq_true (by omega)
        | false =>
          refine decide_eq_false fun e => ?_
          rw [ordered_perm (order_of hd hb (by omega))] at hov
          cases hov)

def con22 : Con := { ps := [.d false (.int .i64), .d false (.sl (.pair (.int .i64) (.int .i64))), .d false (.sl (.int .i64))], rs := [.d false (.sl (.int .i64))], pre := fun (x : Int × Jobs × List Int × Unit) => x.2.2.1.length ≤ 1048576, out := fun x => (finXV x.1 x.2.1 x.2.2.1, ()), nw := id }
theorem c22 : CtrOk Try.prog 22 con22.ctr :=
  con_sound (G := ⟨[(19, con19.ctr), (32, con32.ctr), (33, con33.ctr)], [], []⟩) tab_ok (EnvOk.cons c19 has19 (EnvOk.cons c32 has32 (EnvOk.cons c33 has33 EnvOk.nil))) rfl Try.func22 rfl con22 570425799 (by kernel_rfl) (by decide) (by decide) rfl (by decide) rfl (by
    rintro ⟨(now : Int), (js : Jobs), (ks : List Int), _⟩ hpre hwf X hT hG hk hK
    have ho : ks.length ≤ 1048576 := hpre
    (simp only [go_sem, Int.toNat_zero, Nat.reduceAdd, Nat.reduceMul, Nat.reduceSub, Nat.reduceEqDiff, Nat.reduceLT, Nat.reduceLeDiff, Nat.reduceShiftRight, Nat.reduceMod, Nat.reduceBEq, reduceCtorEq, reduceIte, reduceDIte, Int.reduceNeg, Bool.not_eq_true', Bool.not_eq_false', Bool.or_eq_true, Bool.or_eq_false_iff, Bool.and_eq_true, Bool.and_eq_false_iff, decide_eq_true_eq, decide_eq_false_iff_not, Classical.not_not, not_or, maxLen, con22, con19, con32, con33, hT, hG, hk, hK, Try.results22] at hwf ⊢); (try simp (disch := decide +kernel) only [drawn, true_and, and_true])
    (repeat' (with_reducible (first | refine And.intro ?_ ?_ | intro _))) <;> (try (first | with_reducible (first | done | assumption | omega | contradiction) | decide))
    · rename_i h
      unfold finXV
      rw [if_pos]
      rcases h with (h | h) | h
      · exact .inl h
      · right
        cases hov : orderedV (js.length : Int) ks with
        | false => rfl
        | true =>
          have := (ordered_true hov).length_eq
          rw [idxs_len] at this
          omega
      · exact .inr h
    · rename_i h
      have hz := checked_zero h.1.1
      have hp := ordered_true h.2
      have h4 : ∀ k ∈ ks, 0 ≤ k ∧ k < js.length := fun k hk => idxs_mem (hp.mem_iff.1 hk)
      have hfx : finXV now js ks = finV js now ks := by
        unfold finXV
        rw [if_neg]
        rintro (h3 | h3)
        · exact h3 h.1.1
        · rw [h.2] at h3; cases h3
      refine evk_loop ⟨{ q : Nat × List Int × Int // q.1 ≤ ks.length ∧ finV js now ks = q.2.1 ++ finV js q.2.2 (ks.drop q.1) ∧ q.2.1.length = q.1 ∧ -(q.1 : Int) ≤ q.2.2 ∧ q.2.2 ≤ 1048576 + 200 * q.1 }, 1000,
        fun q => [(0, .one (.int .i64 q.1.2.2)), (1, .one (.sl (.pair (.int .i64) (.int .i64)) js false)), (2, .one (.sl (.int .i64) ks false)), (7, .one (.row 64)), (8, .one (.int .i64 q.1.1))],
        fun q => [(64, .row 3 (.int .i64) q.1.2.1)], fun q => ks.length - q.1.1⟩ ⟨(0, [], now), by simp, by simp, rfl, by simp; omega, by simp; omega⟩ ?_ ?_
      · simp only [go_sem, Int.toNat_zero, Nat.reduceAdd, Nat.reduceMul, Nat.reduceSub, Nat.reduceEqDiff, Nat.reduceLT, Nat.reduceLeDiff, Nat.reduceShiftRight, Nat.reduceMod, Nat.reduceBEq, reduceCtorEq, reduceIte, reduceDIte, Int.reduceNeg]
        rfl
      · rintro ⟨⟨i, out, t⟩, (hi : i ≤ ks.length), (he : finV js now ks = out ++ finV js t (ks.drop i)), (hl : out.length = i), (hb1 : -(i : Int) ≤ t), (hb2 : t ≤ 1048576 + 200 * (i : Int))⟩
        (simp only [go_sem, Int.toNat_zero, Nat.reduceAdd, Nat.reduceMul, Nat.reduceSub, Nat.reduceEqDiff, Nat.reduceLT, Nat.reduceLeDiff, Nat.reduceShiftRight, Nat.reduceMod, Nat.reduceBEq, reduceCtorEq, reduceIte, reduceDIte, Int.reduceNeg, Bool.not_eq_true', Bool.not_eq_false', Bool.or_eq_true, Bool.or_eq_false_iff, Bool.and_eq_true, Bool.and_eq_false_iff, decide_eq_true_eq, decide_eq_false_iff_not, Classical.not_not, not_or, maxLen, con22, con19, con32, con33, hT, hG, hk, hK, Try.results22]); (try simp (disch := decide +kernel) only [drawn, true_and, and_true])
        intro _
        refine ⟨fun hlt => ?_, fun hge => ?_⟩
        · have hi' : i < ks.length := by omega
          have ek : ks.getD (i : Int).toNat 0 = ks[i] := by simp [hi']
          rw [ek]
          have hk4 := h4 _ (List.getElem_mem hi')
          generalize hc : costV (List.getD js (Int.toNat ks[i]) (0, 0)).1 = c
          have hcb : -1 ≤ c ∧ c ≤ 200 := by rw [← hc]; exact costV_bd _
          (repeat' (with_reducible (first | refine And.intro ?_ ?_ | intro _))) <;> (try (first | with_reducible (first | done | assumption | omega | contradiction) | decide))
          refine fin_lp ⟨(i + 1, out ++ [t + c], t + c), by omega, ?_, ?_, ?_, ?_⟩ ?_ ?_
          · show finV js now ks = (out ++ [t + c]) ++ finV js (t + c) (ks.drop (i + 1))
            rw [he, List.drop_eq_getElem_cons hi', finV, hc]
            simp
          · show (out ++ [t + c]).length = i + 1
            rw [List.length_append, hl]; rfl
          · show -((i + 1 : Nat) : Int) ≤ t + c
            omega
          · show t + c ≤ 1048576 + 200 * ((i + 1 : Nat) : Int)
            omega
          · simp only [go_sem, Int.toNat_zero, Nat.reduceAdd, Nat.reduceMul, Nat.reduceSub, Nat.reduceEqDiff, Nat.reduceLT, Nat.reduceLeDiff, Nat.reduceShiftRight, Nat.reduceMod, Nat.reduceBEq, reduceCtorEq, reduceIte, reduceDIte, Int.reduceNeg]
            rfl
          · show ks.length - (i + 1) < ks.length - i
            omega
        · rw [hfx, he, List.drop_of_length_le (by omega), finV, List.append_nil])

theorem lateV_at {now : Int} {js : Jobs} {o : List Int} (i : Nat) (h : firstLate js 0 (finV js now o) o = firstLate js i ((finV js now o).drop i) (o.drop i)) (hi : i < o.length) :
    lateV now js o = if (finV js now o).getD i 0 > dueOf js o[i] then (i : Int) else firstLate js ((i + 1 : Nat) : Int) ((finV js now o).drop (i + 1)) (o.drop (i + 1)) := by
  have hf : i < (finV js now o).length := by rw [finV_len]; exact hi
  unfold lateV
  rw [h, List.drop_eq_getElem_cons hf, List.drop_eq_getElem_cons hi, firstLate]
  simp [hf]

def con17 : Con := { ps := [.d false (.int .i64), .d false (.sl (.pair (.int .i64) (.int .i64))), .d false (.sl (.int .i64))], rs := [.d false (.int .i64)], pre := fun (x : Int × Jobs × List Int × Unit) => x.2.2.1.length ≤ 1048576, out := fun x => (checkXV x.1 x.2.1 x.2.2.1, ()), nw := id }
theorem c17 : CtrOk Try.prog 17 con17.ctr :=
  con_sound (G := ⟨[(22, con22.ctr), (32, con32.ctr), (33, con33.ctr)], [], []⟩) tab_ok (EnvOk.cons c22 has22 (EnvOk.cons c32 has32 (EnvOk.cons c33 has33 EnvOk.nil))) rfl Try.func17 rfl con17 562967200416711 (by kernel_rfl) (by decide) (by decide) rfl (by decide) rfl (by
    rintro ⟨(now : Int), (js : Jobs), (ks : List Int), _⟩ hpre hwf X hT hG hk hK
    have ho : ks.length ≤ 1048576 := hpre
    (simp only [go_sem, Int.toNat_zero, Nat.reduceAdd, Nat.reduceMul, Nat.reduceSub, Nat.reduceEqDiff, Nat.reduceLT, Nat.reduceLeDiff, Nat.reduceShiftRight, Nat.reduceMod, Nat.reduceBEq, reduceCtorEq, reduceIte, reduceDIte, Int.reduceNeg, Bool.not_eq_true', Bool.not_eq_false', Bool.or_eq_true, Bool.or_eq_false_iff, Bool.and_eq_true, Bool.and_eq_false_iff, decide_eq_true_eq, decide_eq_false_iff_not, Classical.not_not, not_or, maxLen, con17, con22, con32, con33, hT, hG, hk, hK, Try.results17] at hwf ⊢); (try simp (disch := decide +kernel) only [drawn, true_and, and_true])
    (repeat' (with_reducible (first | refine And.intro ?_ ?_ | intro _))) <;> (try (first | with_reducible (first | done | assumption | omega | contradiction) | decide))
    · rename_i h
      unfold checkXV; rw [if_pos h]
    · rename_i h0 _ _ h
      have hov : orderedV (js.length : Int) ks = false := by
        rcases h with h | h
        · cases hov : orderedV (js.length : Int) ks with
          | false => rfl
          | true =>
            have := (ordered_true hov).length_eq
            rw [idxs_len] at this
            omega
        · exact h
      unfold checkXV; rw [if_neg (by rw [h0]; simp), if_pos hov]
    · rename_i h0 _ _ h2 _
      have hfx : finXV now js ks = finV js now ks := by
        unfold finXV
        rw [if_neg]
        rintro (h3 | h3)
        · exact h3 h0
        · rw [h2.2] at h3; cases h3
      have h4 : ∀ k ∈ ks, 0 ≤ k ∧ k < js.length := fun k hk => idxs_mem ((ordered_true h2.2).mem_iff.1 hk)
      have hv : checkXV now js ks = if lateV now js ks ≥ 0 then 12 else 0 := by
        unfold checkXV; rw [if_neg (by rw [h0]; simp), if_neg (by rw [h2.2]; simp)]
      rw [hfx]
      have hfl := finV_len js ks now
      refine evk_loop ⟨{ i : Nat // i ≤ ks.length ∧ firstLate js 0 (finV js now ks) ks = firstLate js i ((finV js now ks).drop i) (ks.drop i) }, 1000,
        fun q => [(1, .one (.sl (.pair (.int .i64) (.int .i64)) js false)), (2, .one (.sl (.int .i64) ks false)), (8, .one (.sl (.int .i64) (finV js now ks) false)), (9, .one (.int .i64 q.1))],
        fun q => [], fun q => ks.length - q.1⟩ ⟨0, by simp, by simp⟩ ?_ ?_
      · simp only [go_sem, Int.toNat_zero, Nat.reduceAdd, Nat.reduceMul, Nat.reduceSub, Nat.reduceEqDiff, Nat.reduceLT, Nat.reduceLeDiff, Nat.reduceShiftRight, Nat.reduceMod, Nat.reduceBEq, reduceCtorEq, reduceIte, reduceDIte, Int.reduceNeg]
        rfl
      · rintro ⟨i, (hi : i ≤ ks.length), he⟩
        (simp only [go_sem, Int.toNat_zero, Nat.reduceAdd, Nat.reduceMul, Nat.reduceSub, Nat.reduceEqDiff, Nat.reduceLT, Nat.reduceLeDiff, Nat.reduceShiftRight, Nat.reduceMod, Nat.reduceBEq, reduceCtorEq, reduceIte, reduceDIte, Int.reduceNeg, Bool.not_eq_true', Bool.not_eq_false', Bool.or_eq_true, Bool.or_eq_false_iff, Bool.and_eq_true, Bool.and_eq_false_iff, decide_eq_true_eq, decide_eq_false_iff_not, Classical.not_not, not_or, maxLen, con17, con22, con32, con33, hT, hG, hk, hK, Try.results17]); (try simp (disch := decide +kernel) only [drawn, true_and, and_true])
        intro _
        refine ⟨fun hlt => ?_, fun hge => ?_⟩
        · have hi' : i < ks.length := by omega
          have ek : ks.getD (i : Int).toNat 0 = ks[i] := by simp [hi']
          have hk4 := h4 _ (List.getElem_mem hi')
          have hst := lateV_at i he hi'
          rw [ek, Int.toNat_natCast]
          unfold dueOf at hst
          (repeat' (with_reducible (first | refine And.intro ?_ ?_ | intro _))) <;> (try (first | with_reducible (first | done | assumption | omega | contradiction) | decide))
          rename_i h
          rw [if_neg h] at hst
          refine fin_lp ⟨i + 1, by omega, ?_⟩ ?_ ?_
          · rw [← hst]; rfl
          · simp only [go_sem, Int.toNat_zero, Nat.reduceAdd, Nat.reduceMul, Nat.reduceSub, Nat.reduceEqDiff, Nat.reduceLT, Nat.reduceLeDiff, Nat.reduceShiftRight, Nat.reduceMod, Nat.reduceBEq, reduceCtorEq, reduceIte, reduceDIte, Int.reduceNeg]
            rfl
          · show ks.length - (i + 1) < ks.length - i
            omega
        · have : firstLate js 0 (finV js now ks) ks = -1 := by
            rw [he, List.drop_of_length_le (show ks.length ≤ i by omega)]
            cases (finV js now ks).drop i <;> rfl
          rw [hv]; unfold lateV; rw [this]; rfl)

open Go.Crane in
/-- The certificate. -/
theorem over_cert {now : Int} {js : Jobs} (hok : ∀ x ∈ js, 0 ≤ x.1 ∧ x.1 ≤ 99 ∧ 0 ≤ x.2 ∧ x.2 ≤ 10000) (hn : 0 ≤ now ∧ now ≤ 4) (hl : js.length ≤ 19) :
    (planE now js = 0 → overV now js = [] ∧ checkXV now js (isort (dueLt js) (idxs js.length)) = 0) ∧
    (planE now js ≠ 0 → planE now js = 12 ∧ ∃ k : Nat, k < js.length ∧ overV now js = (isort (dueLt js) (idxs js.length)).take (k + 1) ∧
      sumC js now ((isort (dueLt js) (idxs js.length)).take (k + 1)) > dueOf js ((isort (dueLt js) (idxs js.length)).getD k 0)) := by
  have h0 : checkedV now js = 0 := checked_ok (fun x hx => by have := hok x hx; omega) (by omega) (by omega)
  have hpm := isort_perm (dueLt js) (idxs js.length)
  have hln : (isort (dueLt js) (idxs js.length)).length = js.length := by rw [isort_len, idxs_len]
  have hpl : planE now js = if lateV now js (isort (dueLt js) (idxs js.length)) ≥ 0 then 12 else 0 := by
    unfold planE; rw [if_neg (by rw [h0]; simp)]
  have hov : overV now js = (isort (dueLt js) (idxs js.length)).take (lateV now js (isort (dueLt js) (idxs js.length)) + 1).toNat := by
    unfold overV; rw [if_neg (by rw [h0]; simp)]
  have hck : checkXV now js (isort (dueLt js) (idxs js.length)) = if lateV now js (isort (dueLt js) (idxs js.length)) ≥ 0 then 12 else 0 := by
    unfold checkXV
    rw [if_neg (by rw [h0]; simp), if_neg (by rw [ordered_perm hpm]; simp)]
  have hlb := firstLate_bd js (finV js now (isort (dueLt js) (idxs js.length))) (isort (dueLt js) (idxs js.length)) 0
  generalize isort (dueLt js) (idxs js.length) = o at hpm hln hpl hov hck hlb ⊢
  rw [hpl, hov, hck]
  by_cases hla : lateV now js o ≥ 0
  · rw [if_pos hla]
    refine ⟨fun h => (by cases h), fun _ => ⟨rfl, ?_⟩⟩
    have key : ∀ (n i : Nat), o.length - i = n → firstLate js 0 (finV js now o) o = firstLate js i ((finV js now o).drop i) (o.drop i) → ∃ k : Nat, k < o.length ∧ lateV now js o = k ∧ sumC js now (o.take (k + 1)) > dueOf js (o.getD k 0) := by
      intro n
      induction n with
      | zero =>
        intro i hi he
        have : lateV now js o = -1 := by
          unfold lateV
          rw [he, List.drop_of_length_le (show o.length ≤ i by omega)]
          cases (finV js now o).drop i <;> rfl
        omega
      | succ n ih =>
        intro i hi he
        have hi' : i < o.length := by omega
        have hst := lateV_at i he hi'
        by_cases hc : (finV js now o).getD i 0 > dueOf js o[i]
        · rw [if_pos hc] at hst
          rw [finV_at js o now i hi'] at hc
          exact ⟨i, hi', hst, by rw [List.getD_eq_getElem?_getD, List.getElem?_eq_getElem hi']; exact hc⟩
        · rw [if_neg hc] at hst
          exact ih (i + 1) (by omega) hst
    obtain ⟨k, h1, h2, h3⟩ := key _ 0 rfl (by simp)
    refine ⟨k, by omega, ?_, h3⟩
    rw [h2]
    rfl
  · rw [if_neg hla]
    refine ⟨fun _ => ⟨?_, rfl⟩, fun h => absurd rfl h⟩
    have : lateV now js o = -1 := by unfold lateV at hla ⊢; omega
    rw [this]; rfl

theorem dueOf_bd {js : Jobs} (hok : ∀ x ∈ js, 0 ≤ x.1 ∧ x.1 ≤ 99 ∧ 0 ≤ x.2 ∧ x.2 ≤ 10000) {k : Int} (h : 0 ≤ k ∧ k < js.length) : 0 ≤ (js.getD k.toNat (0, 0)).1 ∧ (js.getD k.toNat (0, 0)).1 ≤ 99 ∧ 0 ≤ (js.getD k.toNat (0, 0)).2 ∧ (js.getD k.toNat (0, 0)).2 ≤ 10000 := by
  refine hok _ ?_
  rw [List.getD_eq_getElem?_getD, List.getElem?_eq_getElem (show k.toNat < js.length by omega)]
  exact List.getElem_mem _

def con5 : Con := { ps := [.d false (.sl (.int .i64))], rs := [.d false .bool], pre := fun _ => True, out := fun _ => (true, ()), nw := id }
theorem c5 : CtrOk Try.prog 5 con5.ctr :=
  con_sound (G := ⟨[(8, con8.ctr), (9, con9.ctr), (10, con10.ctr), (15, con15.ctr), (16, con16.ctr), (17, con17.ctr), (18, con18.ctr), (19, con19.ctr)], [], []⟩) tab_ok (EnvOk.cons c8 has8 (EnvOk.cons c9 has9 (EnvOk.cons c10 has10 (EnvOk.cons c15 has15 (EnvOk.cons c16 has16 (EnvOk.cons c17 has17 (EnvOk.cons c18 has18 (EnvOk.cons c19 has19 EnvOk.nil)))))))) rfl Try.func5 rfl con5 19342813411071642268862461 (by kernel_rfl) (by decide) (by decide) rfl (by decide) rfl (by
    rintro ⟨(l : List Int), _⟩ hpre hwf X hT hG hk hK
    (simp only [go_sem, Int.toNat_zero, Nat.reduceAdd, Nat.reduceMul, Nat.reduceSub, Nat.reduceEqDiff, Nat.reduceLT, Nat.reduceLeDiff, Nat.reduceShiftRight, Nat.reduceMod, Nat.reduceBEq, reduceCtorEq, reduceIte, reduceDIte, Int.reduceNeg, Bool.not_eq_true', Bool.not_eq_false', Bool.or_eq_true, Bool.or_eq_false_iff, Bool.and_eq_true, Bool.and_eq_false_iff, decide_eq_true_eq, decide_eq_false_iff_not, Classical.not_not, not_or, maxLen, con5, con8, con9, con10, con15, con16, con17, con18, con19, hT, hG, hk, hK, Try.results5] at hwf ⊢); (try simp (disch := decide +kernel) only [drawn, true_and, and_true])
    obtain ⟨hn, hlen, hok⟩ := someV_gen l 10 (by omega) (by omega)
    clear hwf hpre
    generalize (someV l 10).1 = now at hn ⊢
    generalize (someV l 10).2 = js at hlen hok ⊢
    obtain ⟨hc1, hc2⟩ := over_cert hok hn (by omega)
    have hpm := isort_perm (dueLt js) (idxs js.length)
    have hln : (isort (dueLt js) (idxs js.length)).length = js.length := by rw [isort_len, idxs_len]
    have hso := isort_sorted js (idxs js.length)
    generalize isort (dueLt js) (idxs js.length) = o at *
    by_cases he : planE now js = 0
    · obtain ⟨h1, h2⟩ := hc1 he
      simp only [he, if_true, h1, h2, List.length_nil, not_true_eq_false, false_implies, true_implies, and_true]
      (repeat' (with_reducible (first | refine And.intro ?_ ?_ | intro _))) <;> (try (first | with_reducible (first | done | assumption | omega | contradiction) | decide))
    · obtain ⟨h12, k, hk1, hov, hsum⟩ := hc2 he
      simp only [h12, hov, Int.reduceEq, false_implies, not_true_eq_false, true_implies, true_and, not_false_eq_true, false_or]
      have hkl : (o.take (k + 1)).length = k + 1 := by rw [List.length_take]; omega
      have hmem : ∀ i (h : i < (o.take (k + 1)).length), (o.take (k + 1))[i] = o[i]'(by omega) := fun i h => List.getElem_take
      have hom : ∀ x ∈ o, 0 ≤ x ∧ x < js.length := fun x hx => idxs_mem (hpm.mem_iff.1 hx)
      have hnd := hpm.nodup_iff.2 (idxs_nodup _)
      (repeat' (with_reducible (first | refine And.intro ?_ ?_ | intro _))) <;> (try (first | with_reducible (first | done | assumption | omega | contradiction) | decide))
      refine evk_loop ⟨{ q : Nat × Int × Int // q.1 ≤ k + 1 ∧ q.2.1 = sumC js now (o.take q.1) ∧ q.2.2 = (if q.1 = 0 then 0 else dueOf js (o.getD (q.1 - 1) 0)) }, 1000,
        fun q => [(4, .one (.sl (.pair (.int .i64) (.int .i64)) js false)), (7, .one (.sl (.int .i64) (o.take (k + 1)) false)), (8, .one (.int .i64 q.1.2.1)), (9, .one (.int .i64 q.1.2.2)), (10, .one (.int .i64 q.1.1))],
        fun q => [], fun q => k + 1 - q.1.1⟩ ⟨(0, now, 0), by simp, by simp [sumC], by simp⟩ ?_ ?_
      · simp only [go_sem, Int.toNat_zero, Nat.reduceAdd, Nat.reduceMul, Nat.reduceSub, Nat.reduceEqDiff, Nat.reduceLT, Nat.reduceLeDiff, Nat.reduceShiftRight, Nat.reduceMod, Nat.reduceBEq, reduceCtorEq, reduceIte, reduceDIte, Int.reduceNeg]
        rfl
      · rintro ⟨⟨i, u, v⟩, (hi : i ≤ k + 1), (hu : u = sumC js now (o.take i)), (hv : v = (if i = 0 then 0 else dueOf js (o.getD (i - 1) 0)))⟩
        (simp only [go_sem, Int.toNat_zero, Nat.reduceAdd, Nat.reduceMul, Nat.reduceSub, Nat.reduceEqDiff, Nat.reduceLT, Nat.reduceLeDiff, Nat.reduceShiftRight, Nat.reduceMod, Nat.reduceBEq, reduceCtorEq, reduceIte, reduceDIte, Int.reduceNeg, Bool.not_eq_true', Bool.not_eq_false', Bool.or_eq_true, Bool.or_eq_false_iff, Bool.and_eq_true, Bool.and_eq_false_iff, decide_eq_true_eq, decide_eq_false_iff_not, Classical.not_not, not_or, maxLen, con5, con8, con9, con10, con15, con16, con17, con18, con19, hT, hG, hk, hK, Try.results5]); (try simp (disch := decide +kernel) only [drawn, true_and, and_true])
        intro _
        refine ⟨fun hlt => ?_, fun hge => ?_⟩
        · have hi1 : i < k + 1 := by omega
          have hi2 : i < o.length := by omega
          have eo : (o.take (k + 1)).getD (i : Int).toNat 0 = o[i] := by simp [hi1, hi2]
          have et : (o.take (k + 1)).take (i : Int).toNat = o.take i := by rw [Int.toNat_natCast, List.take_take]; congr 1; omega
          rw [eo, et]
          have ho := hom _ (List.getElem_mem hi2)
          have hnin : o[i] ∉ o.take i := fun hx => by
            rw [← List.take_append_drop i o, List.drop_eq_getElem_cons hi2] at hnd
            exact (List.nodup_append.1 hnd).2.2 _ hx _ List.mem_cons_self rfl
          have hsn : sumC js now (o.take (i + 1)) = u + costV (js.getD (o[i]).toNat (0, 0)).1 := by rw [List.take_succ_eq_append_getElem hi2, sumC_snoc, hu]
          have hb := sumC_bd js (o.take i) now
          have hbl : (o.take i).length = i := by rw [List.length_take]; omega
          have hcb := costV_bd (js.getD (o[i]).toNat (0, 0)).1
          have hdb := dueOf_bd hok ho
          have hvm : (if (js.getD (o[i]).toNat (0, 0)).2 > v then (js.getD (o[i]).toNat (0, 0)).2 else v) = (js.getD (o[i]).toNat (0, 0)).2 := by
            by_cases hi0 : i = 0
            · rw [hv, if_pos hi0]; split <;> omega
            · rw [if_neg hi0] at hv
              have hpw := List.pairwise_iff_getElem.1 hso (i - 1) i (by omega) hi2 (by omega)
              have : o.getD (i - 1) 0 = o[i - 1]'(by omega) := by simp [show i - 1 < o.length by omega]
              rw [this] at hv
              unfold dueOf at hv hpw
              split <;> omega
          rw [hvm]
          (repeat' (with_reducible (first | refine And.intro ?_ ?_ | intro _))) <;> (try (first | with_reducible (first | done | assumption | omega | contradiction) | decide))
          · rename_i h
            rcases h with h | h
            · omega
            · exact hnin h
          · refine fin_lp ⟨(i + 1, u + costV (js.getD (o[i]).toNat (0, 0)).1, (js.getD (o[i]).toNat (0, 0)).2), by omega, hsn.symm, ?_⟩ ?_ ?_
            · show (js.getD (o[i]).toNat (0, 0)).2 = if i + 1 = 0 then 0 else dueOf js (o.getD (i + 1 - 1) 0)
              have : o.getD i 0 = o[i] := by simp [hi2]
              rw [if_neg (by omega), Nat.add_sub_cancel, this]
              rfl
            · simp only [go_sem, Int.toNat_zero, Nat.reduceAdd, Nat.reduceMul, Nat.reduceSub, Nat.reduceEqDiff, Nat.reduceLT, Nat.reduceLeDiff, Nat.reduceShiftRight, Nat.reduceMod, Nat.reduceBEq, reduceCtorEq, reduceIte, reduceDIte, Int.reduceNeg]
              rfl
            · show k + 1 - (i + 1) < k + 1 - i
              omega
        · have hik : i = k + 1 := by omega
          subst hik
          rw [if_neg (by omega), Nat.add_sub_cancel] at hv
          rw [hu, hv]
          (repeat' (with_reducible (first | refine And.intro ?_ ?_ | intro _))) <;> (try (first | with_reducible (first | done | assumption | omega | contradiction) | decide))
          all_goals first | (simp [hsum]; done) | trace_state)
end Go.Proofs.Ytjghgckdndggoaa
