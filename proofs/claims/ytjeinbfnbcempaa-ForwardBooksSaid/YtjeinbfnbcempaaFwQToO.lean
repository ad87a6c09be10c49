/- Book: the plain law, and the contracts of the program's function and of the reference's. -/
import Derived.Test.YtjeinbfnbcempaaEvIterToP
import Derived.Test.YtjeinbfnbcempaaFwN
set_option linter.unusedSimpArgs false
set_option linter.unusedVariables false
set_option maxRecDepth 100000
set_option maxHeartbeats 4000000
namespace Go.Proofs.Ytjeinbfnbcempaa
open Go.Ev

def lessR (s : Svc) : Svc := (s.1, s.2.1, s.2.2.1, s.2.2.2.1, s.2.2.2.2.1, s.2.2.2.2.2 - 1)
def seatV : List Svc → List Int → Option (List Svc)
  | l, [] => some l
  | l, i :: is => if (l.getD i.toNat sv0).2.2.2.2.2 = 0 then none else seatV (l.set i.toNat (lessR (l.getD i.toNat sv0))) is
def bookV (l : List Svc) (xs : List Int) : List Svc × Int :=
  if valL l ≠ 0 then ([], valL l) else if indV l xs = false then ([], 1) else if ¬ xs.Nodup then ([], 5) else match seatV l xs with
    | some m => (m, 0)
    | none => ([], 8)
theorem ddU_full (xs : List Int) : ∀ i, (ddU xs i).length = i ↔ ∀ k, k < i → k ≠ 0 → xs.getD k 0 ≠ xs.getD (k - 1) 0
  | 0 => by simp [ddU]
  | i + 1 => by
    have ih := ddU_full xs i
    have hl := ddU_len xs i
    rw [ddU, List.length_append]
    by_cases h : i ≠ 0 ∧ xs.getD i 0 = xs.getD (i - 1) 0
    · rw [if_pos h]
      refine ⟨fun k => by simp at k; omega, fun k => absurd h.2 (k i (by omega) h.1)⟩
    · rw [if_neg h]
      simp only [List.length_singleton, Nat.add_right_cancel_iff]
      rw [ih]
      refine ⟨fun k j hj h0 => ?_, fun k j hj h0 => k j (by omega) h0⟩
      by_cases e : j = i
      · subst e; exact fun q => h ⟨h0, q⟩
      · exact k j (by omega) h0
theorem sortI_perm (xs : List Int) : (sortI xs).Perm xs := List.mergeSort_perm xs _
theorem sortI_sorted (xs : List Int) : (sortI xs).Pairwise (fun a b => a ≤ b) := by
  have := List.pairwise_mergeSort (le := fun x y : Int => decide (x ≤ y)) (fun a b c h1 h2 => by simp only [decide_eq_true_eq] at *; omega) (fun a b => by simp only [Bool.or_eq_true, decide_eq_true_eq]; omega) xs
  exact this.imp fun h => by simpa using h
/-- A sorted list without two neighbours alike has no two alike. -/
theorem nodup_iff (xs : List Int) : (compV (sortI xs)).length < xs.length ↔ ¬ xs.Nodup := by
  have hp := sortI_perm xs
  have hs := sortI_sorted xs
  have hn : xs.Nodup ↔ (sortI xs).Nodup := hp.nodup_iff.symm
  have hlen : (sortI xs).length = xs.length := hp.length_eq
  have hle := ddU_len (sortI xs) (sortI xs).length
  have hf := ddU_full (sortI xs) (sortI xs).length
  rw [hn]
  unfold compV
  generalize sortI xs = ys at *
  have key : (∀ k, k < ys.length → k ≠ 0 → ys.getD k 0 ≠ ys.getD (k - 1) 0) ↔ ys.Nodup := by
    constructor
    · intro h
      have hlt : ∀ i j, i < ys.length → j < i → ys.getD j 0 < ys.getD i 0 := fun i => by
        induction i with
        | zero => intro j _ h; omega
        | succ i ih =>
          intro j hi hj
          have h1 := h (i + 1) hi (by omega)
          rw [Nat.add_sub_cancel] at h1
          have h2 : ys.getD i 0 ≤ ys.getD (i + 1) 0 := by
            have := List.pairwise_iff_getElem.1 hs i (i + 1) (by omega) hi (by omega)
            simpa [List.getD_eq_getElem?_getD, List.getElem?_eq_getElem hi, List.getElem?_eq_getElem (show i < ys.length by omega)] using this
          by_cases e : j = i
          · subst e; omega
          · have := ih j (by omega) (by omega); omega
      refine List.pairwise_iff_getElem.2 fun i j hi hj hij => ?_
      have := hlt j i hj hij
      simp only [List.getD_eq_getElem?_getD, List.getElem?_eq_getElem hi, List.getElem?_eq_getElem hj, Option.getD_some] at this
      omega
    · intro h k hk h0 e
      have := List.pairwise_iff_getElem.1 h (k - 1) k (by omega) hk (by omega)
      simp only [List.getD_eq_getElem?_getD, List.getElem?_eq_getElem hk, List.getElem?_eq_getElem (show k - 1 < ys.length by omega), Option.getD_some] at e
      exact this e.symm
  rw [← key, ← hf]
  omega
/-- Rooms that are no numbers below 0. -/
def roomy (l : List Svc) : Prop := ∀ k, k < l.length → 0 ≤ (l.getD k sv0).2.2.2.2.2 ∧ (l.getD k sv0).2.2.2.2.2 ≤ 999
theorem roomy_set {l : List Svc} (h : roomy l) {i : Nat} (h0 : ¬ (l.getD i sv0).2.2.2.2.2 = 0) (hi : i < l.length) : roomy (l.set i (lessR (l.getD i sv0))) := by
  intro k hk
  rw [List.length_set] at hk
  have h1 := h k hk
  have h2 := h i hi
  by_cases e : i = k
  · subst e
    have : (l.set i (lessR (l.getD i sv0))).getD i sv0 = lessR (l.getD i sv0) := by simp [hi]
    rw [this]; unfold lessR; dsimp only; omega
  · have : (l.set i (lessR (l.getD i sv0))).getD k sv0 = l.getD k sv0 := by rw [List.getD_eq_getElem?_getD, List.getElem?_set_ne e, ← List.getD_eq_getElem?_getD]
    rw [this]; exact h1
theorem roomy_of {l : List Svc} (h : ∀ s ∈ l, svOk s = true) : roomy l := fun k hk => by
  have e : l.getD k sv0 = l[k] := by simp [hk]
  rw [e]
  have := svOk_bd (h l[k] (List.getElem_mem hk))
  exact this.2.2.2
theorem valL_zero {l : List Svc} (h : valL l = 0) : l.length ≤ 40 ∧ ∀ s ∈ l, svOk s = true := by
  unfold valL at h
  split at h
  · omega
  · split at h
    · rename_i h1 h2
      exact ⟨by omega, List.all_eq_true.1 h2⟩
    · omega
/-- The rest of a booking. -/
theorem seat_step {out : List Svc} {xs : List Int} {i : Nat} (hi : i < xs.length) (h : ¬ (out.getD (xs.getD i 0).toNat sv0).2.2.2.2.2 = 0) : seatV out (xs.drop i) = seatV (out.set (xs.getD i 0).toNat (lessR (out.getD (xs.getD i 0).toNat sv0))) (xs.drop (i + 1)) := by
  rw [List.drop_eq_getElem_cons hi, seatV]
  have e : xs.getD i 0 = xs[i] := by simp [hi]
  rw [e] at h ⊢
  rw [if_neg h]
theorem seat_full {out : List Svc} {xs : List Int} {i : Nat} (hi : i < xs.length) (h : (out.getD (xs.getD i 0).toNat sv0).2.2.2.2.2 = 0) : seatV out (xs.drop i) = none := by
  rw [List.drop_eq_getElem_cons hi, seatV]
  have e : xs.getD i 0 = xs[i] := by simp [hi]
  rw [e] at h
  rw [if_pos h]
def bookR (o : Option (List Svc)) : List Svc × Int := match o with
  | some m => (m, 0)
  | none => ([], 8)
theorem bookV_4 {l : List Svc} {xs : List Int} (h1 : valL l = 0) (h2 : indV l xs = true) (h3 : xs.Nodup) : bookV l xs = bookR (seatV l xs) := by
  unfold bookV bookR
  rw [if_neg (by rw [h1]; simp), if_neg (by rw [h2]; simp), if_neg (fun k => k h3)]
def con31 : Con := { ps := [.d false (.sl (.pair (.pair .str (.pair (.int .i64) (.pair .str (.int .i64)))) (.pair .str (.pair .str (.pair (.int .i64) (.pair (.int .i64) (.int .i64))))))), .d true (.pair (.sl (.int .i64)) (.sl (.pair .str (.int .i64))))], rs := [.d false (.sl (.pair (.pair .str (.pair (.int .i64) (.pair .str (.int .i64)))) (.pair .str (.pair .str (.pair (.int .i64) (.pair (.int .i64) (.int .i64))))))), .d false (.int .i64)], pre := fun (x : List Svc × Itn × Unit) => x.2.1.1.length ≤ 10000000, out := fun (x : List Svc × Itn × Unit) => ((bookV x.1 x.2.1.1).1, (bookV x.1 x.2.1.1).2, ()), nw := id }
theorem c31 : CtrOk Try.prog 31 con31.ctr :=
  con_sound (G := ⟨[(13, con13.ctr), (51, con51.ctr), (54, con54.ctr), (55, con55.ctr), (56, con56.ctr), (57, con57.ctr)], [], [], []⟩) tab_ok (EnvOk.cons c13 has13 (EnvOk.cons c51 has51 (EnvOk.cons c54 has54 (EnvOk.cons c55 has55 (EnvOk.cons c56 has56 (EnvOk.cons c57 has57 EnvOk.nil)))))) rfl Try.func31 rfl con31 35443144410619 (by kernel_rfl) (by decide) (by decide) rfl (by decide) rfl (by
    rintro ⟨(l : List Svc), ⟨(xs : List Int), (lb : List Lbl)⟩, _⟩ hpre hwf X hT hG hk hK
    have hxl : xs.length ≤ 10000000 := hpre
    (simp -implicitDefEqProofs only [go_sem, Prod.eta, Option.isSome_none, Option.isSome_some, Int.toNat_zero, Nat.reduceAdd, Nat.reduceMul, Nat.reduceSub, Nat.reduceEqDiff, Nat.reduceLT, Nat.reduceLeDiff, Nat.reduceShiftRight, Nat.reduceMod, Nat.reduceBEq, reduceCtorEq, reduceIte, reduceDIte, Int.reduceNeg, Bool.not_eq_true', Bool.not_eq_false', Bool.or_eq_true, Bool.or_eq_false_iff, Bool.and_eq_true, Bool.and_eq_false_iff, decide_eq_true_eq, decide_eq_false_iff_not, Classical.not_not, not_or, maxLen, con31, con13, con51, con54, con55, con56, con57, hT, hG, hk, hK, Try.results31] at hwf ⊢); (try simp (disch := decide +kernel) only [drawn, true_and, and_true])
    refine fun _ => ⟨fun h => by unfold bookV; rw [if_pos h]; exact ⟨rfl, rfl⟩, fun h => ⟨fun h2 => by unfold bookV; rw [if_neg (by simpa using h), if_pos h2]; exact ⟨rfl, rfl⟩, fun h2 _ => ⟨hxl, fun _ _ _ _ => ⟨fun h3 => ?_, fun h3 => ?_⟩⟩⟩⟩
    · have hn : ¬ xs.Nodup := (nodup_iff xs).1 (by omega)
      unfold bookV; rw [if_neg (by simpa using h), if_neg (by rw [h2]; simp), if_pos hn]; exact ⟨rfl, rfl⟩
    obtain ⟨hl40, hsv⟩ := valL_zero h
    have hnd : xs.Nodup := Classical.byContradiction fun k => by have := (nodup_iff xs).2 k; omega
    have hB := bookV_4 h h2 hnd
    have hbd := indV_bd h2
    refine ⟨by omega, fun _ _ => ?_⟩
    refine evk_loop ⟨{ q : Nat × List Svc // q.1 ≤ xs.length ∧ roomy q.2 ∧ q.2.length = l.length ∧ seatV l xs = seatV q.2 (xs.drop q.1) }, 1000, fun q => [(8, .one (.row 64)), (34, .one (.sl (.int .i64) xs false)), (35, .one (.int .i64 xs.length)), (36, .one (.int .i64 q.1.1))], fun q => [(64, .row 54 (.pair (.pair .str (.pair (.int .i64) (.pair .str (.int .i64)))) (.pair .str (.pair .str (.pair (.int .i64) (.pair (.int .i64) (.int .i64)))))) q.1.2)], fun q => xs.length - q.1.1⟩ ⟨(0, l), Nat.zero_le _, roomy_of hsv, rfl, rfl⟩ ?_ ?_
    · simp only [go_sem, Prod.eta, Option.isSome_none, Option.isSome_some, Int.toNat_zero, Nat.reduceAdd, Nat.reduceMul, Nat.reduceSub, Nat.reduceEqDiff, Nat.reduceLT, Nat.reduceLeDiff, Nat.reduceShiftRight, Nat.reduceMod, Nat.reduceBEq, reduceCtorEq, reduceIte, reduceDIte, Int.reduceNeg]
      try (first | rfl | exact ⟨rfl, rfl⟩)
    · rintro ⟨⟨i, out⟩, (hi : i ≤ xs.length), (hr : roomy out), (hol : out.length = l.length), (hs : seatV l xs = seatV out (xs.drop i))⟩
      (simp -implicitDefEqProofs only [go_sem, Prod.eta, Option.isSome_none, Option.isSome_some, Int.toNat_zero, Nat.reduceAdd, Nat.reduceMul, Nat.reduceSub, Nat.reduceEqDiff, Nat.reduceLT, Nat.reduceLeDiff, Nat.reduceShiftRight, Nat.reduceMod, Nat.reduceBEq, reduceCtorEq, reduceIte, reduceDIte, Int.reduceNeg, Bool.not_eq_true', Bool.not_eq_false', Bool.or_eq_true, Bool.or_eq_false_iff, Bool.and_eq_true, Bool.and_eq_false_iff, decide_eq_true_eq, decide_eq_false_iff_not, Classical.not_not, not_or, maxLen, con31, con13, con51, con54, con55, con56, con57, hT, hG, hk, hK, Try.results31]); (try simp (disch := decide +kernel) only [drawn, true_and, and_true])
      have hiN : ((i : Int)).toNat = i := by omega
      simp only [hiN]
      have hx : i < xs.length → 0 ≤ xs.getD i 0 ∧ xs.getD i 0 < l.length := fun h => by
        have e : xs.getD i 0 = xs[i] := by simp [h]
        rw [e]; exact hbd _ (List.getElem_mem h)
      have hroom : i < xs.length → 0 ≤ (out.getD (xs.getD i 0).toNat sv0).2.2.2.2.2 ∧ (out.getD (xs.getD i 0).toNat sv0).2.2.2.2.2 ≤ 999 := fun h => hr _ (by have := hx h; omega)
      have hst := @seat_step out xs i
      have hsf := @seat_full out xs i
      have hrs := fun h0 hh => @roomy_set out hr (xs.getD i 0).toNat h0 hh
      unfold lessR sv0 at *
      generalize hk0 : xs.getD i 0 = k at *
      obtain ⟨s, hs0⟩ : ∃ s, out.getD k.toNat (((ByteArray.empty, 0, ByteArray.empty, 0), ByteArray.empty, ByteArray.empty, 0, 0, 0) : Svc) = s := ⟨_, rfl⟩
      simp only [hs0] at hroom hst hsf hrs ⊢
      (repeat' (with_reducible (first | refine And.intro ?_ ?_ | intro _))) <;> (try (first | with_reducible (first | done | assumption | omega | contradiction) | decide))
      · have h8 := hsf (by omega) (by assumption)
        rw [hB, hs, h8]; rfl
      · have h8 := hsf (by omega) (by assumption)
        rw [hB, hs, h8]; rfl
      · have h0 : ¬ s.2.2.2.2.2 = 0 := by assumption
        have h9 := hst (by omega) h0
        refine fin_lp ⟨(i + 1, out.set k.toNat (s.1, s.2.1, s.2.2.1, s.2.2.2.1, s.2.2.2.2.1, s.2.2.2.2.2 - 1)), by dsimp only; omega, hrs h0 (by have := hx (by omega); omega), by simpa using hol, hs.trans h9⟩ ?_ (by dsimp only; omega)
        simp only [go_sem, Prod.eta, Option.isSome_none, Option.isSome_some, Int.toNat_zero, Nat.reduceAdd, Nat.reduceMul, Nat.reduceSub, Nat.reduceEqDiff, Nat.reduceLT, Nat.reduceLeDiff, Nat.reduceShiftRight, Nat.reduceMod, Nat.reduceBEq, reduceCtorEq, reduceIte, reduceDIte, Int.reduceNeg]
        try (first | rfl | exact ⟨rfl, rfl⟩ | (and_intros <;> first | rfl | omega))
      · rw [hB, hs, List.drop_eq_nil_of_le (by omega)]; rfl
      · rw [hB, hs, List.drop_eq_nil_of_le (by omega)]; rfl)
def con32 : Con := { ps := [.d false (.sl (.pair (.pair .str (.pair (.int .i64) (.pair .str (.int .i64)))) (.pair .str (.pair .str (.pair (.int .i64) (.pair (.int .i64) (.int .i64))))))), .d true (.pair (.sl (.int .i64)) (.sl (.pair .str (.int .i64))))], rs := [.d false (.sl (.pair (.pair .str (.pair (.int .i64) (.pair .str (.int .i64)))) (.pair .str (.pair .str (.pair (.int .i64) (.pair (.int .i64) (.int .i64))))))), .d false (.int .i64)], pre := fun (x : List Svc × Itn × Unit) => x.2.1.1.length ≤ 10000000, out := fun (x : List Svc × Itn × Unit) => ((bookV x.1 x.2.1.1).1, (bookV x.1 x.2.1.1).2, ()), nw := id }
theorem c32 : CtrOk Try.prog 32 con32.ctr :=
  con_sound (G := ⟨[(14, con14.ctr)], [], [], []⟩) tab_ok (EnvOk.cons c14 has14 EnvOk.nil) rfl Try.func32 rfl con32 4836888482346344434929659 (by kernel_rfl) (by decide) (by decide) rfl (by decide) rfl (by
    rintro ⟨(l : List Svc), ⟨(xs : List Int), (lb : List Lbl)⟩, _⟩ hpre hwf X hT hG hk hK
    have hxl : xs.length ≤ 10000000 := hpre
    (simp -implicitDefEqProofs only [go_sem, Prod.eta, Option.isSome_none, Option.isSome_some, Int.toNat_zero, Nat.reduceAdd, Nat.reduceMul, Nat.reduceSub, Nat.reduceEqDiff, Nat.reduceLT, Nat.reduceLeDiff, Nat.reduceShiftRight, Nat.reduceMod, Nat.reduceBEq, reduceCtorEq, reduceIte, reduceDIte, Int.reduceNeg, Bool.not_eq_true', Bool.not_eq_false', Bool.or_eq_true, Bool.or_eq_false_iff, Bool.and_eq_true, Bool.and_eq_false_iff, decide_eq_true_eq, decide_eq_false_iff_not, Classical.not_not, not_or, maxLen, con32, con14, hT, hG, hk, hK, Try.results32] at hwf ⊢); (try simp (disch := decide +kernel) only [drawn, true_and, and_true])
    refine fun _ => ⟨fun h => by unfold bookV; rw [if_pos h]; exact ⟨rfl, rfl⟩, fun h => ?_⟩
    obtain ⟨hl40, hsv⟩ := valL_zero h
    refine evk_loop ⟨{ i : Nat // i ≤ xs.length ∧ ∀ j, j < i → inV (xs.getD j 0) 0 ((l.length : Int) - 1) = true }, 1000, fun q => [(0, .one (.sl (.pair (.pair .str (.pair (.int .i64) (.pair .str (.int .i64)))) (.pair .str (.pair .str (.pair (.int .i64) (.pair (.int .i64) (.int .i64)))))) l false)), (3, .one (.loc 64 0)), (7, .one (.int .i64 q.1))], fun q => [(64, .cells 39 [.sl (.int .i64) xs false, .sl (.pair .str (.int .i64)) lb false])], fun q => xs.length - q.1⟩ ⟨0, by omega, fun j hj => by omega⟩ ?_ ?_
    · simp only [go_sem, Prod.eta, Option.isSome_none, Option.isSome_some, Int.toNat_zero, Nat.reduceAdd, Nat.reduceMul, Nat.reduceSub, Nat.reduceEqDiff, Nat.reduceLT, Nat.reduceLeDiff, Nat.reduceShiftRight, Nat.reduceMod, Nat.reduceBEq, reduceCtorEq, reduceIte, reduceDIte, Int.reduceNeg]
      try (first | rfl | exact ⟨rfl, rfl⟩)
    · rintro ⟨i, (hi : i ≤ xs.length), (hb : ∀ j, j < i → inV (xs.getD j 0) 0 ((l.length : Int) - 1) = true)⟩
      (simp -implicitDefEqProofs only [go_sem, Prod.eta, Option.isSome_none, Option.isSome_some, Int.toNat_zero, Nat.reduceAdd, Nat.reduceMul, Nat.reduceSub, Nat.reduceEqDiff, Nat.reduceLT, Nat.reduceLeDiff, Nat.reduceShiftRight, Nat.reduceMod, Nat.reduceBEq, reduceCtorEq, reduceIte, reduceDIte, Int.reduceNeg, Bool.not_eq_true', Bool.not_eq_false', Bool.or_eq_true, Bool.or_eq_false_iff, Bool.and_eq_true, Bool.and_eq_false_iff, decide_eq_true_eq, decide_eq_false_iff_not, Classical.not_not, not_or, maxLen, con32, con14, hT, hG, hk, hK, Try.results32]); (try simp (disch := decide +kernel) only [drawn, true_and, and_true])
      have hiN : ((i : Int)).toNat = i := by omega
      simp only [hiN]
      refine fun _ => ⟨fun hlt => ⟨by omega, fun _ _ => ⟨fun _ => by omega, fun _ _ _ => ⟨fun hc => ?_, fun hc => ⟨by omega, ?_⟩⟩⟩⟩, fun hge => ?_⟩
      · have hbad : indV l xs = false := indV_take (i := i) (by omega) (by
          unfold inV
          cases hq : (decide (0 ≤ xs.getD i 0) && decide (xs.getD i 0 ≤ (l.length : Int) - 1)) with
          | false => rfl
          | true => simp only [Bool.and_eq_true, decide_eq_true_eq] at hq; omega)
        unfold bookV; rw [if_neg (by simpa using h), if_pos hbad]; exact ⟨rfl, rfl⟩
      · refine fin_lp ⟨i + 1, by omega, fun j hj => ?_⟩ ?_ (by dsimp only; omega)
        · by_cases e : j = i
          · subst e
            unfold inV
            simp only [Bool.and_eq_true, decide_eq_true_eq]
            omega
          · exact hb j (by omega)
        · simp only [go_sem, Prod.eta, Option.isSome_none, Option.isSome_some, Int.toNat_zero, Nat.reduceAdd, Nat.reduceMul, Nat.reduceSub, Nat.reduceEqDiff, Nat.reduceLT, Nat.reduceLeDiff, Nat.reduceShiftRight, Nat.reduceMod, Nat.reduceBEq, reduceCtorEq, reduceIte, reduceDIte, Int.reduceNeg]
          try (first | rfl | exact ⟨rfl, rfl⟩ | (and_intros <;> first | rfl | omega))
      · have hind : indV l xs = true := indV_all fun j hj => hb j (by omega)
        have hbd := indV_bd hind
        refine evk_loop ⟨{ i : Nat // i ≤ xs.length ∧ (xs.take i).Nodup }, 1000, fun q => [(0, .one (.sl (.pair (.pair .str (.pair (.int .i64) (.pair .str (.int .i64)))) (.pair .str (.pair .str (.pair (.int .i64) (.pair (.int .i64) (.int .i64)))))) l false)), (3, .one (.loc 64 0)), (8, .one (.int .i64 q.1))], fun q => [(64, .cells 39 [.sl (.int .i64) xs false, .sl (.pair .str (.int .i64)) lb false])], fun q => xs.length - q.1⟩ ⟨0, by omega, List.nodup_nil⟩ ?_ ?_
        · simp only [go_sem, Prod.eta, Option.isSome_none, Option.isSome_some, Int.toNat_zero, Nat.reduceAdd, Nat.reduceMul, Nat.reduceSub, Nat.reduceEqDiff, Nat.reduceLT, Nat.reduceLeDiff, Nat.reduceShiftRight, Nat.reduceMod, Nat.reduceBEq, reduceCtorEq, reduceIte, reduceDIte, Int.reduceNeg]
          try (first | rfl | exact ⟨rfl, rfl⟩)
        · rintro ⟨i, (hi : i ≤ xs.length), (hnd : (xs.take i).Nodup)⟩
          (simp -implicitDefEqProofs only [go_sem, Prod.eta, Option.isSome_none, Option.isSome_some, Int.toNat_zero, Nat.reduceAdd, Nat.reduceMul, Nat.reduceSub, Nat.reduceEqDiff, Nat.reduceLT, Nat.reduceLeDiff, Nat.reduceShiftRight, Nat.reduceMod, Nat.reduceBEq, reduceCtorEq, reduceIte, reduceDIte, Int.reduceNeg, Bool.not_eq_true', Bool.not_eq_false', Bool.or_eq_true, Bool.or_eq_false_iff, Bool.and_eq_true, Bool.and_eq_false_iff, decide_eq_true_eq, decide_eq_false_iff_not, Classical.not_not, not_or, maxLen, con32, con14, hT, hG, hk, hK, Try.results32]); (try simp (disch := decide +kernel) only [drawn, true_and, and_true])
          refine fun _ => ⟨fun hlt => ?_, fun hge => ?_⟩
          · refine evk_loop ⟨{ k : Nat // k ≤ i ∧ ∀ j, j < k → xs.getD i 0 ≠ xs.getD j 0 }, 1000, fun q => [(0, .one (.sl (.pair (.pair .str (.pair (.int .i64) (.pair .str (.int .i64)))) (.pair .str (.pair .str (.pair (.int .i64) (.pair (.int .i64) (.int .i64)))))) l false)), (3, .one (.loc 64 0)), (8, .one (.int .i64 i)), (9, .one (.int .i64 q.1))], fun q => [(64, .cells 39 [.sl (.int .i64) xs false, .sl (.pair .str (.int .i64)) lb false])], fun q => i - q.1⟩ ⟨0, by omega, fun j hj => by omega⟩ ?_ ?_
            · simp only [go_sem, Prod.eta, Option.isSome_none, Option.isSome_some, Int.toNat_zero, Nat.reduceAdd, Nat.reduceMul, Nat.reduceSub, Nat.reduceEqDiff, Nat.reduceLT, Nat.reduceLeDiff, Nat.reduceShiftRight, Nat.reduceMod, Nat.reduceBEq, reduceCtorEq, reduceIte, reduceDIte, Int.reduceNeg]
              try (first | rfl | exact ⟨rfl, rfl⟩)
            · rintro ⟨k, (hk1 : k ≤ i), (hne : ∀ j, j < k → xs.getD i 0 ≠ xs.getD j 0)⟩
              (simp -implicitDefEqProofs only [go_sem, Prod.eta, Option.isSome_none, Option.isSome_some, Int.toNat_zero, Nat.reduceAdd, Nat.reduceMul, Nat.reduceSub, Nat.reduceEqDiff, Nat.reduceLT, Nat.reduceLeDiff, Nat.reduceShiftRight, Nat.reduceMod, Nat.reduceBEq, reduceCtorEq, reduceIte, reduceDIte, Int.reduceNeg, Bool.not_eq_true', Bool.not_eq_false', Bool.or_eq_true, Bool.or_eq_false_iff, Bool.and_eq_true, Bool.and_eq_false_iff, decide_eq_true_eq, decide_eq_false_iff_not, Classical.not_not, not_or, maxLen, con32, con14, hT, hG, hk, hK, Try.results32]); (try simp (disch := decide +kernel) only [drawn, true_and, and_true])
              have hiN : ((i : Int)).toNat = i := by omega
              have hkN : ((k : Int)).toNat = k := by omega
              simp only [hiN, hkN]
              have hil : i < xs.length := by omega
              have f1 : ∀ j (h : j < xs.length), xs.getD j 0 = xs[j] := fun j h => by simp [h]
              (repeat' (with_reducible (first | refine And.intro ?_ ?_ | intro _))) <;> (try (first | with_reducible (first | done | assumption | omega | contradiction) | decide))
              · have he : xs.getD i 0 = xs.getD k 0 := by assumption
                have hn : ¬ xs.Nodup := fun hh => by
                  rw [f1 i hil, f1 k (by omega)] at he
                  exact List.pairwise_iff_getElem.1 hh k i (by omega) hil (by omega) he.symm
                unfold bookV; rw [if_neg (by simpa using h), if_neg (by rw [hind]; simp), if_pos hn]
              · have he : xs.getD i 0 = xs.getD k 0 := by assumption
                have hn : ¬ xs.Nodup := fun hh => by
                  rw [f1 i hil, f1 k (by omega)] at he
                  exact List.pairwise_iff_getElem.1 hh k i (by omega) hil (by omega) he.symm
                unfold bookV; rw [if_neg (by simpa using h), if_neg (by rw [hind]; simp), if_pos hn]
              · have he : ¬ xs.getD i 0 = xs.getD k 0 := by assumption
                refine fin_lp ⟨k + 1, by omega, fun j hj => ?_⟩ ?_ (by dsimp only; omega)
                · by_cases e : j = k
                  · subst e; exact he
                  · exact hne j (by omega)
                · simp only [go_sem, Prod.eta, Option.isSome_none, Option.isSome_some, Int.toNat_zero, Nat.reduceAdd, Nat.reduceMul, Nat.reduceSub, Nat.reduceEqDiff, Nat.reduceLT, Nat.reduceLeDiff, Nat.reduceShiftRight, Nat.reduceMod, Nat.reduceBEq, reduceCtorEq, reduceIte, reduceDIte, Int.reduceNeg]
                  try (first | rfl | exact ⟨rfl, rfl⟩ | (and_intros <;> first | rfl | omega))
              · have hki : k = i := by omega
                subst hki
                refine fin_lp ⟨k + 1, by omega, ?_⟩ ?_ (by dsimp only; omega)
                · rw [List.take_succ_eq_append_getElem hil, List.nodup_append]
                  refine ⟨hnd, by simp, fun a ha b hb' e => ?_⟩
                  rw [List.mem_singleton.1 hb'] at e
                  obtain ⟨j, hj, rfl⟩ := List.getElem_of_mem ha
                  simp only [List.length_take] at hj
                  refine hne j (by omega) ?_
                  rw [f1 k hil, f1 j (by omega), ← e, List.getElem_take]
                · simp only [go_sem, Prod.eta, Option.isSome_none, Option.isSome_some, Int.toNat_zero, Nat.reduceAdd, Nat.reduceMul, Nat.reduceSub, Nat.reduceEqDiff, Nat.reduceLT, Nat.reduceLeDiff, Nat.reduceShiftRight, Nat.reduceMod, Nat.reduceBEq, reduceCtorEq, reduceIte, reduceDIte, Int.reduceNeg]
                  try (first | rfl | exact ⟨rfl, rfl⟩ | (and_intros <;> first | rfl | omega))
          · rw [List.take_of_length_le (by omega)] at hnd
            have hB := bookV_4 h hind hnd
            refine ⟨by omega, ?_⟩
            refine evk_loop ⟨{ q : Nat × List Svc // q.1 ≤ xs.length ∧ roomy q.2 ∧ q.2.length = l.length ∧ seatV l xs = seatV q.2 (xs.drop q.1) }, 1000, fun q => [(3, .one (.loc 64 0)), (10, .one (.row 65)), (11, .one (.int .i64 q.1.1))], fun q => [(64, .cells 39 [.sl (.int .i64) xs false, .sl (.pair .str (.int .i64)) lb false]), (65, .row 54 (.pair (.pair .str (.pair (.int .i64) (.pair .str (.int .i64)))) (.pair .str (.pair .str (.pair (.int .i64) (.pair (.int .i64) (.int .i64)))))) q.1.2)], fun q => xs.length - q.1.1⟩ ⟨(0, l), Nat.zero_le _, roomy_of hsv, rfl, rfl⟩ ?_ ?_
            · simp only [go_sem, Prod.eta, Option.isSome_none, Option.isSome_some, Int.toNat_zero, Nat.reduceAdd, Nat.reduceMul, Nat.reduceSub, Nat.reduceEqDiff, Nat.reduceLT, Nat.reduceLeDiff, Nat.reduceShiftRight, Nat.reduceMod, Nat.reduceBEq, reduceCtorEq, reduceIte, reduceDIte, Int.reduceNeg]
              try (first | rfl | exact ⟨rfl, rfl⟩)
            · rintro ⟨⟨i, out⟩, (hi : i ≤ xs.length), (hr : roomy out), (hol : out.length = l.length), (hs : seatV l xs = seatV out (xs.drop i))⟩
              (simp -implicitDefEqProofs only [go_sem, Prod.eta, Option.isSome_none, Option.isSome_some, Int.toNat_zero, Nat.reduceAdd, Nat.reduceMul, Nat.reduceSub, Nat.reduceEqDiff, Nat.reduceLT, Nat.reduceLeDiff, Nat.reduceShiftRight, Nat.reduceMod, Nat.reduceBEq, reduceCtorEq, reduceIte, reduceDIte, Int.reduceNeg, Bool.not_eq_true', Bool.not_eq_false', Bool.or_eq_true, Bool.or_eq_false_iff, Bool.and_eq_true, Bool.and_eq_false_iff, decide_eq_true_eq, decide_eq_false_iff_not, Classical.not_not, not_or, maxLen, con32, con14, hT, hG, hk, hK, Try.results32]); (try simp (disch := decide +kernel) only [drawn, true_and, and_true])
              have hiN : ((i : Int)).toNat = i := by omega
              simp only [hiN]
              have hx : i < xs.length → 0 ≤ xs.getD i 0 ∧ xs.getD i 0 < l.length := fun h => by
                have e : xs.getD i 0 = xs[i] := by simp [h]
                rw [e]; exact hbd _ (List.getElem_mem h)
              have hroom : i < xs.length → 0 ≤ (out.getD (xs.getD i 0).toNat sv0).2.2.2.2.2 ∧ (out.getD (xs.getD i 0).toNat sv0).2.2.2.2.2 ≤ 999 := fun h => hr _ (by have := hx h; omega)
              have hst := @seat_step out xs i
              have hsf := @seat_full out xs i
              have hrs := fun h0 hh => @roomy_set out hr (xs.getD i 0).toNat h0 hh
              unfold lessR sv0 at *
              generalize hk0 : xs.getD i 0 = k at *
              obtain ⟨s, hs0⟩ : ∃ s, out.getD k.toNat (((ByteArray.empty, 0, ByteArray.empty, 0), ByteArray.empty, ByteArray.empty, 0, 0, 0) : Svc) = s := ⟨_, rfl⟩
              simp only [hs0] at hroom hst hsf hrs ⊢
              (repeat' (with_reducible (first | refine And.intro ?_ ?_ | intro _))) <;> (try (first | with_reducible (first | done | assumption | omega | contradiction) | decide))
              · have h8 := hsf (by omega) (by assumption)
                rw [hB, hs, h8]; rfl
              · have h8 := hsf (by omega) (by assumption)
                rw [hB, hs, h8]; rfl
              · have h0 : ¬ s.2.2.2.2.2 = 0 := by assumption
                have h9 := hst (by omega) h0
                refine fin_lp ⟨(i + 1, out.set k.toNat (s.1, s.2.1, s.2.2.1, s.2.2.2.1, s.2.2.2.2.1, s.2.2.2.2.2 - 1)), by dsimp only; omega, hrs h0 (by have := hx (by omega); omega), by simpa using hol, hs.trans h9⟩ ?_ (by dsimp only; omega)
                simp only [go_sem, Prod.eta, Option.isSome_none, Option.isSome_some, Int.toNat_zero, Nat.reduceAdd, Nat.reduceMul, Nat.reduceSub, Nat.reduceEqDiff, Nat.reduceLT, Nat.reduceLeDiff, Nat.reduceShiftRight, Nat.reduceMod, Nat.reduceBEq, reduceCtorEq, reduceIte, reduceDIte, Int.reduceNeg]
                try (first | rfl | exact ⟨rfl, rfl⟩ | (and_intros <;> first | rfl | omega))
              · rw [hB, hs, List.drop_eq_nil_of_le (by omega)]; rfl
              · rw [hB, hs, List.drop_eq_nil_of_le (by omega)]; rfl)
def con33 : Con := { ps := [.d false (.sl (.pair (.pair .str (.pair (.int .i64) (.pair .str (.int .i64)))) (.pair .str (.pair .str (.pair (.int .i64) (.pair (.int .i64) (.int .i64))))))), .d false (.sl (.pair (.pair .str (.pair (.int .i64) (.pair .str (.int .i64)))) (.pair .str (.pair .str (.pair (.int .i64) (.pair (.int .i64) (.int .i64)))))))], rs := [.d false .bool], pre := fun (x : List Svc × List Svc × Unit) => True, out := fun (x : List Svc × List Svc × Unit) => (decide (x.1 = x.2.1), ()), nw := id }
theorem c33 : CtrOk Try.prog 33 con33.ctr :=
  con_sound (G := ⟨[], [], [], []⟩) tab_ok EnvOk.nil rfl Try.func33 rfl con33 33571891 (by kernel_rfl) (by decide) (by decide) rfl (by decide) rfl (by
    rintro ⟨(a : List Svc), (b : List Svc), _⟩ hpre hwf X hT hG hk hK
    (simp -implicitDefEqProofs only [go_sem, Prod.eta, Option.isSome_none, Option.isSome_some, Int.toNat_zero, Nat.reduceAdd, Nat.reduceMul, Nat.reduceSub, Nat.reduceEqDiff, Nat.reduceLT, Nat.reduceLeDiff, Nat.reduceShiftRight, Nat.reduceMod, Nat.reduceBEq, reduceCtorEq, reduceIte, reduceDIte, Int.reduceNeg, Bool.not_eq_true', Bool.not_eq_false', Bool.or_eq_true, Bool.or_eq_false_iff, Bool.and_eq_true, Bool.and_eq_false_iff, decide_eq_true_eq, decide_eq_false_iff_not, Classical.not_not, not_or, maxLen, con33, hT, hG, hk, hK, Try.results33] at hwf ⊢); (try simp (disch := decide +kernel) only [drawn, true_and, and_true])
    refine fun _ _ => ⟨fun hne => ?_, fun he => ?_⟩
    · exact (decide_eq_false fun k => hne (by rw [k])).symm
    · refine evk_loop ⟨{ i : Nat // i ≤ a.length ∧ ∀ j, j < i → a.getD j sv0 = b.getD j sv0 }, 1000, fun q => [(0, .one (.sl (.pair (.pair .str (.pair (.int .i64) (.pair .str (.int .i64)))) (.pair .str (.pair .str (.pair (.int .i64) (.pair (.int .i64) (.int .i64)))))) a false)), (1, .one (.sl (.pair (.pair .str (.pair (.int .i64) (.pair .str (.int .i64)))) (.pair .str (.pair .str (.pair (.int .i64) (.pair (.int .i64) (.int .i64)))))) b false)), (5, .one (.int .i64 q.1))], fun q => [], fun q => a.length - q.1⟩ ⟨0, by omega, fun j h => by omega⟩ ?_ ?_
      · simp only [go_sem, Prod.eta, Option.isSome_none, Option.isSome_some, Int.toNat_zero, Nat.reduceAdd, Nat.reduceMul, Nat.reduceSub, Nat.reduceEqDiff, Nat.reduceLT, Nat.reduceLeDiff, Nat.reduceShiftRight, Nat.reduceMod, Nat.reduceBEq, reduceCtorEq, reduceIte, reduceDIte, Int.reduceNeg]
        try (first | rfl | exact ⟨rfl, rfl⟩)
      · rintro ⟨i, (hi : i ≤ a.length), (hs : ∀ j, j < i → a.getD j sv0 = b.getD j sv0)⟩
        (simp -implicitDefEqProofs only [go_sem, Prod.eta, Option.isSome_none, Option.isSome_some, Int.toNat_zero, Nat.reduceAdd, Nat.reduceMul, Nat.reduceSub, Nat.reduceEqDiff, Nat.reduceLT, Nat.reduceLeDiff, Nat.reduceShiftRight, Nat.reduceMod, Nat.reduceBEq, reduceCtorEq, reduceIte, reduceDIte, Int.reduceNeg, Bool.not_eq_true', Bool.not_eq_false', Bool.or_eq_true, Bool.or_eq_false_iff, Bool.and_eq_true, Bool.and_eq_false_iff, decide_eq_true_eq, decide_eq_false_iff_not, Classical.not_not, not_or, maxLen, con33, hT, hG, hk, hK, Try.results33]); (try simp (disch := decide +kernel) only [drawn, true_and, and_true])
        have hiN : ((i : Int)).toNat = i := by omega
        simp only [hiN]
        obtain ⟨u, hu⟩ : ∃ u, a.getD i (((ByteArray.empty, 0, ByteArray.empty, 0), ByteArray.empty, ByteArray.empty, 0, 0, 0) : Svc) = u := ⟨_, rfl⟩
        obtain ⟨v, hv⟩ : ∃ v, b.getD i (((ByteArray.empty, 0, ByteArray.empty, 0), ByteArray.empty, ByteArray.empty, 0, 0, 0) : Svc) = v := ⟨_, rfl⟩
        have hu' : a.getD i sv0 = u := hu
        have hv' : b.getD i sv0 = v := hv
        simp only [hu, hv]
        (repeat' (with_reducible (first | refine And.intro ?_ ?_ | intro _))) <;> (try (first | with_reducible (first | done | assumption | omega | contradiction) | decide))
        · rename_i h
          refine (decide_eq_false fun k => ?_).symm
          subst k
          rw [hu'] at hv'
          subst hv'
          simp at h
        · rename_i h
          refine fin_lp ⟨i + 1, by omega, fun j hj => ?_⟩ ?_ (by dsimp only; omega)
          · by_cases e : j = i
            · subst e
              rw [hu', hv']
              obtain ⟨h1, h2, h3, h4, h5, h6, h7, h8, h9⟩ := h
              exact Prod.ext (Prod.ext h1 (Prod.ext h2 (Prod.ext h3 h4))) (Prod.ext h5 (Prod.ext h6 (Prod.ext h7 (Prod.ext h8 h9))))
            · exact hs j (by omega)
          · simp only [go_sem, Prod.eta, Option.isSome_none, Option.isSome_some, Int.toNat_zero, Nat.reduceAdd, Nat.reduceMul, Nat.reduceSub, Nat.reduceEqDiff, Nat.reduceLT, Nat.reduceLeDiff, Nat.reduceShiftRight, Nat.reduceMod, Nat.reduceBEq, reduceCtorEq, reduceIte, reduceDIte, Int.reduceNeg]
            try (first | rfl | exact ⟨rfl, rfl⟩ | (and_intros <;> first | rfl | omega))
        · exact (decide_eq_true (eq_at (by omega) sv0 fun j hj => hs j (by omega))).symm)
end Go.Proofs.Ytjeinbfnbcempaa

/- ForwardChecks: the contracts of the statement's helpers, and the statement. -/
set_option linter.unusedSimpArgs false
set_option linter.unusedVariables false
set_option maxRecDepth 100000
set_option maxHeartbeats 4000000
namespace Go.Proofs.Ytjeinbfnbcempaa
open Go.Ev

def longS (s : Svc) : Bool := decide ((s.2.1.size : Int) > 100) || decide ((s.2.2.1.size : Int) > 100) || decide ((s.1.1.size : Int) > 100) || decide ((s.1.2.2.1.size : Int) > 100)
theorem longS_yes {s : Svc} (h : (((s.2.1.size : Int) > 100 ∨ (s.2.2.1.size : Int) > 100) ∨ (s.1.1.size : Int) > 100) ∨ (s.1.2.2.1.size : Int) > 100) : longS s = true := by
  unfold longS
  simp only [Bool.or_eq_true, decide_eq_true_eq]
  exact h
theorem longS_no {s : Svc} (h : ((¬ (s.2.1.size : Int) > 100 ∧ ¬ (s.2.2.1.size : Int) > 100) ∧ ¬ (s.1.1.size : Int) > 100) ∧ ¬ (s.1.2.2.1.size : Int) > 100) : longS s = false := by
  unfold longS
  simp only [Bool.or_eq_false_iff, decide_eq_false_iff_not]
  exact h
def shortV (l : List Svc) : Bool := !(l.any longS) && decide (l.length ≤ 50)
def con9 : Con := { ps := [.d false (.sl (.pair (.pair .str (.pair (.int .i64) (.pair .str (.int .i64)))) (.pair .str (.pair .str (.pair (.int .i64) (.pair (.int .i64) (.int .i64)))))))], rs := [.d false .bool], pre := fun _ => True, out := fun (x : List Svc × Unit) => (shortV x.1, ()), nw := id }
theorem c9 : CtrOk Try.prog 9 con9.ctr :=
  con_sound (G := ⟨[], [], [], []⟩) tab_ok EnvOk.nil rfl Try.func9 rfl con9 17592186044653 (by kernel_rfl) (by decide) (by decide) rfl (by decide) rfl (by
    rintro ⟨(l : List Svc), _⟩ hpre hwf X hT hG hk hK
    (simp -implicitDefEqProofs only [go_sem, Prod.eta, Option.isSome_none, Option.isSome_some, Int.toNat_zero, Nat.reduceAdd, Nat.reduceMul, Nat.reduceSub, Nat.reduceEqDiff, Nat.reduceLT, Nat.reduceLeDiff, Nat.reduceShiftRight, Nat.reduceMod, Nat.reduceBEq, reduceCtorEq, reduceIte, reduceDIte, Int.reduceNeg, Bool.not_eq_true', Bool.not_eq_false', Bool.or_eq_true, Bool.or_eq_false_iff, Bool.and_eq_true, Bool.and_eq_false_iff, decide_eq_true_eq, decide_eq_false_iff_not, Classical.not_not, not_or, maxLen, con9, hT, hG, hk, hK, Try.results9] at hwf ⊢); (try simp (disch := decide +kernel) only [drawn, true_and, and_true])
    refine fun _ => ?_
    refine evk_loop ⟨{ i : Nat // i ≤ l.length ∧ ∀ k, k < i → longS (l.getD k sv0) = false }, 1000, fun q => [(0, .one (.sl (.pair (.pair .str (.pair (.int .i64) (.pair .str (.int .i64)))) (.pair .str (.pair .str (.pair (.int .i64) (.pair (.int .i64) (.int .i64)))))) l false)), (5, .one (.int .i64 l.length)), (6, .one (.int .i64 q.1))], fun q => [], fun q => l.length - q.1⟩ ⟨0, by omega, fun k h1 => by omega⟩ ?_ ?_
    · simp only [go_sem, Prod.eta, Option.isSome_none, Option.isSome_some, Int.toNat_zero, Nat.reduceAdd, Nat.reduceMul, Nat.reduceSub, Nat.reduceEqDiff, Nat.reduceLT, Nat.reduceLeDiff, Nat.reduceShiftRight, Nat.reduceMod, Nat.reduceBEq, reduceCtorEq, reduceIte, reduceDIte, Int.reduceNeg]
      try (first | rfl | exact ⟨rfl, rfl⟩)
    · rintro ⟨i, (hi : i ≤ l.length), (hb : ∀ k, k < i → longS (l.getD k sv0) = false)⟩
      (simp -implicitDefEqProofs only [go_sem, Prod.eta, Option.isSome_none, Option.isSome_some, Int.toNat_zero, Nat.reduceAdd, Nat.reduceMul, Nat.reduceSub, Nat.reduceEqDiff, Nat.reduceLT, Nat.reduceLeDiff, Nat.reduceShiftRight, Nat.reduceMod, Nat.reduceBEq, reduceCtorEq, reduceIte, reduceDIte, Int.reduceNeg, Bool.not_eq_true', Bool.not_eq_false', Bool.or_eq_true, Bool.or_eq_false_iff, Bool.and_eq_true, Bool.and_eq_false_iff, decide_eq_true_eq, decide_eq_false_iff_not, Classical.not_not, not_or, maxLen, con9, hT, hG, hk, hK, Try.results9]); (try simp (disch := decide +kernel) only [drawn, true_and, and_true])
      have hiN : ((i : Int)).toNat = i := by omega
      obtain ⟨s, hs⟩ : ∃ s, l.getD i (((ByteArray.empty, 0, ByteArray.empty, 0), ByteArray.empty, ByteArray.empty, 0, 0, 0) : Svc) = s := ⟨_, rfl⟩
      simp only [hiN, hs]
      have hs' : l.getD i sv0 = s := hs
      (repeat' (with_reducible (first | refine And.intro ?_ ?_ | intro _))) <;> (try (first | with_reducible (first | done | assumption | omega | contradiction) | decide))
      · rename_i h
        unfold shortV
        rw [any_at (i := i) (by omega) (by rw [hs']; exact longS_yes h)]; rfl
      · rename_i h
        refine fin_lp ⟨i + 1, by omega, fun k hk => ?_⟩ ?_ (by dsimp only; omega)
        · by_cases e : k = i
          · subst e; rw [hs']; exact longS_no h
          · exact hb k (by omega)
        · simp only [go_sem, Prod.eta, Option.isSome_none, Option.isSome_some, Int.toNat_zero, Nat.reduceAdd, Nat.reduceMul, Nat.reduceSub, Nat.reduceEqDiff, Nat.reduceLT, Nat.reduceLeDiff, Nat.reduceShiftRight, Nat.reduceMod, Nat.reduceBEq, reduceCtorEq, reduceIte, reduceDIte, Int.reduceNeg]
          try (first | rfl | exact ⟨rfl, rfl⟩ | (and_intros <;> first | rfl | omega))
      · unfold shortV
        rw [any_no (fun j hj => hb j (by omega))]
        simp only [Bool.not_false, Bool.true_and, decide_eq_decide]
        omega)
/-- What is spoilt. -/
def spoV (s : Src) (l : List Svc) : List Svc × Src :=
  if l.length = 0 then ([sv0], s) else
  let i := (goMod s.raw l.length).toNat
  let x := l.getD i sv0
  let c := goMod s.step.raw 5
  let s2 := s.step.step
  if c = 0 then (l.set i (x.1, x.2.1, x.2.1, x.2.2.2), s2)
  else if c = 1 then (l.set i (x.1, x.2.1, x.2.2.1, x.2.2.2.1, x.2.2.2.1, x.2.2.2.2.2), s2)
  else if c = 2 then (l.set i (x.1, x.2.1, x.2.2.1, x.2.2.2.1, ([1048576, 1048577] : List Int).getD (goMod s2.raw 2).toNat 0, x.2.2.2.2.2), s2.step)
  else if c = 3 then (l.set i (x.1, x.2.1, x.2.2.1, x.2.2.2.1, x.2.2.2.2.1, ([-1, 999, 1000] : List Int).getD (goMod s2.raw 3).toNat 0), s2.step)
  else (l.set i (x.1, ⟨#[99, 112, 104]⟩, x.2.2), s2)
def con12 : Con := { ps := [.p 70 (.pair (.sl (.int .i64)) (.int .i64)), .d false (.sl (.pair (.pair .str (.pair (.int .i64) (.pair .str (.int .i64)))) (.pair .str (.pair .str (.pair (.int .i64) (.pair (.int .i64) (.int .i64)))))))], rs := [.d false (.sl (.pair (.pair .str (.pair (.int .i64) (.pair .str (.int .i64)))) (.pair .str (.pair .str (.pair (.int .i64) (.pair (.int .i64) (.int .i64)))))))], pre := fun (x : Src × List Svc × Unit) => 0 ≤ x.1.2 ∧ x.2.1.length ≤ 100, out := fun (x : Src × List Svc × Unit) => ((spoV x.1 x.2.1).1, ()), nw := fun (x : Src × List Svc × Unit) => ((spoV x.1 x.2.1).2, x.2) }
theorem c12 : CtrOk Try.prog 12 con12.ctr :=
  con_sound (G := ⟨[(16, con16.ctr), (36, con36.ctr)], [], [], []⟩) tab_ok (EnvOk.cons c16 has16 (EnvOk.cons c36 has36 EnvOk.nil)) rfl Try.func12 rfl con12 288793601121456243 (by kernel_rfl) (by decide) (by decide) rfl (by decide) rfl (by
    rintro ⟨⟨(s : List Int), (a : Int)⟩, (l : List Svc), _⟩ hpre hwf X hT hG hk hK
    obtain ⟨h1, hl⟩ : 0 ≤ a ∧ l.length ≤ 100 := hpre
    (simp -implicitDefEqProofs only [go_sem, Prod.eta, Option.isSome_none, Option.isSome_some, Int.toNat_zero, Nat.reduceAdd, Nat.reduceMul, Nat.reduceSub, Nat.reduceEqDiff, Nat.reduceLT, Nat.reduceLeDiff, Nat.reduceShiftRight, Nat.reduceMod, Nat.reduceBEq, reduceCtorEq, reduceIte, reduceDIte, Int.reduceNeg, Bool.not_eq_true', Bool.not_eq_false', Bool.or_eq_true, Bool.or_eq_false_iff, Bool.and_eq_true, Bool.and_eq_false_iff, decide_eq_true_eq, decide_eq_false_iff_not, Classical.not_not, not_or, maxLen, con12, con16, con36, hT, hG, hk, hK, Try.results12] at hwf ⊢); (try simp (disch := decide +kernel) only [drawn, true_and, and_true])
    have p1 := Src.step_pos (s, a) h1
    have p2 := Src.step_pos _ p1
    have p3 := Src.step_pos _ p2
    have b0 := fun h => goMod_bd (Src.raw (s, a)) l.length h
    have b1 := goMod_bd (Src.step (s, a)).raw 5 (by omega)
    have b2 := goMod_bd (Src.step (s, a)).step.raw 2 (by omega)
    have b3 := goMod_bd (Src.step (s, a)).step.raw 3 (by omega)
    have hV : spoV (s, a) l = spoV (s, a) l := rfl
    conv at hV => rhs; unfold spoV
    dsimp only at hV
    have r2 : ∀ k : Int, 0 ≤ k ∧ k < 2 → 0 ≤ ([1048576, 1048577] : List Int).getD k.toNat 0 ∧ ([1048576, 1048577] : List Int).getD k.toNat 0 ≤ 1048577 := fun k hk => by
      rcases (by omega : k = 0 ∨ k = 1) with rfl | rfl <;> decide
    have r3 : ∀ k : Int, 0 ≤ k ∧ k < 3 → -1 ≤ ([-1, 999, 1000] : List Int).getD k.toNat 0 ∧ ([-1, 999, 1000] : List Int).getD k.toNat 0 ≤ 1000 := fun k hk => by
      rcases (by omega : k = 0 ∨ k = 1 ∨ k = 2) with rfl | rfl | rfl <;> decide
    have q2 := r2 _ b2
    have q3 := r3 _ b3
    clear r2 r3
    simp only [List.length_cons, List.length_nil, Nat.zero_add, Nat.reduceAdd, show ((2 : Nat) : Int) = 2 from rfl, show ((3 : Nat) : Int) = 3 from rfl]
    generalize hx : (([1048576, 1048577] : List Int).getD (goMod (Src.step (s, a)).step.raw 2).toNat 0) = y2 at *
    generalize hx : (([-1, 999, 1000] : List Int).getD (goMod (Src.step (s, a)).step.raw 3).toNat 0) = y3 at *
    generalize goMod (Src.step (s, a)).raw 5 = c at *
    generalize (Src.step (s, a)).step.step = s3 at *
    generalize (Src.step (s, a)).step = s2 at *
    generalize goMod (Src.raw (s, a)) l.length = i at *
    obtain ⟨x, hx⟩ : ∃ x, l.getD i.toNat (((ByteArray.empty, 0, ByteArray.empty, 0), ByteArray.empty, ByteArray.empty, 0, 0, 0) : Svc) = x := ⟨_, rfl⟩
    have hx' : l.getD i.toNat sv0 = x := hx
    simp only [hx]
    simp only [hx'] at hV
    clear hx hx'
    by_cases hl0 : l.length = 0
    · rw [if_pos hl0] at hV
      have : l = [] := List.eq_nil_of_length_eq_zero hl0
      subst this
      simp only [hV]
      (repeat' (with_reducible (first | refine And.intro ?_ ?_ | intro _))) <;> (try (first | with_reducible (first | done | assumption | omega | contradiction) | decide))
      all_goals rfl
    · rw [if_neg hl0] at hV
      have hl1 : ¬ (l.length : Int) = 0 := by omega
      rcases (by omega : c = 0 ∨ c = 1 ∨ c = 2 ∨ c = 3 ∨ c = 4) with rfl | rfl | rfl | rfl | rfl <;>
        (simp only [hV, hl1, Int.reduceEq, if_true, if_false, not_true, not_false_eq_true, false_implies, true_implies, and_true, true_and]
         (repeat' (with_reducible (first | refine And.intro ?_ ?_ | intro _))) <;> (try (first | with_reducible (first | done | assumption | omega | contradiction) | decide))
         all_goals rfl))
def iabs (lb : List Lbl) (B : Int) : Prop := ∀ x ∈ lb, -B ≤ x.2 ∧ x.2 ≤ B
def bentV (s : Src) (x : Itn) (n : Int) : Itn × Src :=
  let c := goMod s.raw 6
  let s1 := s.step
  let xs := x.1
  let lb := x.2
  let p := (goMod s1.raw xs.length).toNat
  let q := (goMod s1.raw lb.length).toNat
  let y := lb.getD q (ByteArray.empty, 0)
  if c = 0 then ((xs ++ [goMod s1.raw (n + 2) - 1], lb), s1.step)
  else if c = 1 then (if xs.length > 0 then ((xs.set p (goMod s1.step.raw (n + 1)), lb), s1.step.step) else (x, s1))
  else if c = 2 then (if lb.length > 0 then ((xs, lb.set q (y.1, y.2 + (goMod s1.step.raw 5 - 2))), s1.step.step) else (x, s1))
  else if c = 3 then (if lb.length > 0 then ((xs, lb.take q ++ lb.drop (q + 1)), s1.step) else (x, s1))
  else if c = 4 then (if lb.length > 1 then ((xs, (lb.set 0 (lb.getD 1 (ByteArray.empty, 0))).set 1 (lb.getD 0 (ByteArray.empty, 0))), s1) else (x, s1))
  else ((xs, lb ++ [(⟨#[90, 82, 72]⟩, goMod s1.raw 60)]), s1.step)
def con29 : Con := { ps := [.p 70 (.pair (.sl (.int .i64)) (.int .i64)), .d true (.pair (.sl (.int .i64)) (.sl (.pair .str (.int .i64)))), .d false (.int .i64)], rs := [.d true (.pair (.sl (.int .i64)) (.sl (.pair .str (.int .i64))))], pre := fun (x : Src × Itn × Int × Unit) => 0 ≤ x.1.2 ∧ x.2.1.1.length ≤ 100000000 ∧ x.2.1.2.length ≤ 1000000 ∧ iabs x.2.1.2 10000000 ∧ 0 ≤ x.2.2.1 ∧ x.2.2.1 ≤ 1000, out := fun (x : Src × Itn × Int × Unit) => ((bentV x.1 x.2.1 x.2.2.1).1, ()), nw := fun (x : Src × Itn × Int × Unit) => ((bentV x.1 x.2.1 x.2.2.1).2, x.2) }
theorem c29 : CtrOk Try.prog 29 con29.ctr :=
  con_sound (G := ⟨[(16, con16.ctr)], [], [(94, 1), (99, 1)], []⟩) tab_ok (EnvOk.cons c16 has16 EnvOk.nil) rfl Try.func29 rfl con29 167329919124687839919024747577815 (by kernel_rfl) (by decide) (by decide) rfl (by decide) rfl (by
    rintro ⟨⟨(s : List Int), (a : Int)⟩, ⟨(xs : List Int), (lb : List Lbl)⟩, (n : Int), _⟩ hpre hwf X hT hG hk hK
    obtain ⟨h1, hxl, hll, hab, hn0, hn1⟩ : 0 ≤ a ∧ xs.length ≤ 100000000 ∧ lb.length ≤ 1000000 ∧ iabs lb 10000000 ∧ 0 ≤ n ∧ n ≤ 1000 := hpre
    have p1 := Src.step_pos (s, a) h1
    have p2 := Src.step_pos _ p1
    have p3 := Src.step_pos _ p2
    have b0 := goMod_bd (Src.raw (s, a)) 6 (by omega)
    have b1 := goMod_bd (Src.step (s, a)).raw (n + 2) (by omega)
    have b2 := goMod_bd (Src.step (s, a)).step.raw (n + 1) (by omega)
    have b3 := goMod_bd (Src.step (s, a)).step.raw 5 (by omega)
    have b4 := goMod_bd (Src.step (s, a)).raw 60 (by omega)
    have b5 : 0 < xs.length → 0 ≤ goMod (Src.step (s, a)).raw xs.length ∧ goMod (Src.step (s, a)).raw xs.length < xs.length := fun h => goMod_bd _ _ (by omega)
    have b6 : 0 < lb.length → 0 ≤ goMod (Src.step (s, a)).raw lb.length ∧ goMod (Src.step (s, a)).raw lb.length < lb.length := fun h => goMod_bd _ _ (by omega)
    have b7 : 0 < lb.length → -10000000 ≤ (lb.getD (goMod (Src.step (s, a)).raw lb.length).toNat (ByteArray.empty, 0)).2 ∧ (lb.getD (goMod (Src.step (s, a)).raw lb.length).toNat (ByteArray.empty, 0)).2 ≤ 10000000 := fun h => by
      have hq := b6 h
      rw [List.getD_eq_getElem?_getD, List.getElem?_eq_getElem (by omega)]
      exact hab _ (List.getElem_mem _)
    have hV : bentV (s, a) (xs, lb) n = bentV (s, a) (xs, lb) n := rfl
    conv at hV => rhs; unfold bentV
    dsimp only at hV
    by_cases hl0 : lb.length = 0
    · have : lb = [] := List.eq_nil_of_length_eq_zero hl0
      subst this
      have hno : ¬ ((0 : Nat) : Int) > 0 := by omega
      have hno1 : ¬ ((0 : Nat) : Int) > 1 := by omega
      (simp -implicitDefEqProofs only [go_sem, Prod.eta, Option.isSome_none, Option.isSome_some, Int.toNat_zero, Nat.reduceAdd, Nat.reduceMul, Nat.reduceSub, Nat.reduceEqDiff, Nat.reduceLT, Nat.reduceLeDiff, Nat.reduceShiftRight, Nat.reduceMod, Nat.reduceBEq, reduceCtorEq, reduceIte, reduceDIte, Int.reduceNeg, Bool.not_eq_true', Bool.not_eq_false', Bool.or_eq_true, Bool.or_eq_false_iff, Bool.and_eq_true, Bool.and_eq_false_iff, decide_eq_true_eq, decide_eq_false_iff_not, Classical.not_not, not_or, maxLen, con29, con16, hT, hG, hk, hK, Try.results29, hno, hno1] at hwf ⊢); (try simp (disch := decide +kernel) only [drawn, true_and, and_true])
      simp only [hV]
      simp only [List.length_nil, Nat.lt_irrefl, gt_iff_lt, Nat.not_lt_zero, if_false] at hV ⊢
      clear hV hab b6 b7
      generalize goMod (Src.raw (s, a)) 6 = c at *
      rcases (by omega : c = 0 ∨ c = 1 ∨ c = 2 ∨ c = 3 ∨ c = 4 ∨ c = 5) with rfl | rfl | rfl | rfl | rfl | rfl <;>
        (simp only [Int.reduceEq, if_true, if_false, not_true, not_false_eq_true, false_implies, true_implies, and_true, true_and]
         (try split)
         all_goals ((repeat' (with_reducible (first | refine And.intro ?_ ?_ | intro _))) <;> (try (first | with_reducible (first | done | assumption | omega | contradiction) | decide)))
         all_goals first | rfl | omega)
    · have w1 : (goMod (Src.step (s, a)).raw lb.length + 1).toNat + ((lb.length : Int) - (goMod (Src.step (s, a)).raw lb.length + 1)).toNat ≤ lb.length := by have := b6 (by omega); omega
      (simp -implicitDefEqProofs only [go_sem, Prod.eta, Option.isSome_none, Option.isSome_some, Int.toNat_zero, Nat.reduceAdd, Nat.reduceMul, Nat.reduceSub, Nat.reduceEqDiff, Nat.reduceLT, Nat.reduceLeDiff, Nat.reduceShiftRight, Nat.reduceMod, Nat.reduceBEq, reduceCtorEq, reduceIte, reduceDIte, Int.reduceNeg, Bool.not_eq_true', Bool.not_eq_false', Bool.or_eq_true, Bool.or_eq_false_iff, Bool.and_eq_true, Bool.and_eq_false_iff, decide_eq_true_eq, decide_eq_false_iff_not, Classical.not_not, not_or, maxLen, con29, con16, hT, hG, hk, hK, Try.results29, w1] at hwf ⊢); (try simp (disch := decide +kernel) only [drawn, true_and, and_true])
      simp only [hV]
      have hl1 : lb.length > 0 := by omega
      have hl2 : (lb.length : Int) > 0 := by omega
      have hl3 : (lb.length > 1) = ((lb.length : Int) > 1) := by rw [eq_iff_iff]; omega
      have hx3 : (xs.length > 0) = ((xs.length : Int) > 0) := by rw [eq_iff_iff]; omega
      simp only [hl1, hl2, hl3, hx3, if_true, true_implies, not_true, false_implies, and_true]
      clear hV
      generalize goMod (Src.raw (s, a)) 6 = c at *
      have b6 := b6 hl1
      have b7 := b7 hl1
      generalize goMod (Src.step (s, a)).raw lb.length = q at *
      generalize lb.getD q.toNat (ByteArray.empty, 0) = y at *
      clear hl3 hx3
      obtain ⟨k, rfl⟩ : ∃ k : Nat, q = (k : Int) := ⟨q.toNat, by omega⟩
      have e0 : ((k : Int) + 1).toNat = k + 1 := by omega
      have e00 : ((k : Int) - 0).toNat = k := by omega
      have e01 : ((k : Int)).toNat = k := by omega
      have e1 : ((lb.length : Int) - ((k : Int) + 1)).toNat = lb.length - (k + 1) := by omega
      have e2 : lb.take (k + 1 + (lb.length - (k + 1))) = lb := List.take_of_length_le (by omega)
      have e5 : (lb.drop (k + 1)).length = lb.length - (k + 1) := List.length_drop ..
      have e3 : (lb.take k ++ (lb.drop (k + 1) ++ lb.drop (k + (lb.length - (k + 1))))).take (k + (lb.length - (k + 1))) = lb.take k ++ lb.drop (k + 1) := by
        rw [← List.append_assoc, List.take_append_of_le_length (by simp; omega), List.take_of_length_le (by simp; omega)]
      have e4 : (k + (lb.length - (k + 1)) ≤ (lb.take k ++ (lb.drop (k + 1) ++ lb.drop (k + (lb.length - (k + 1))))).length) = True := by
        rw [eq_iff_iff, iff_true]; simp; omega
      simp only [e0, e00, e01, e1, e2, e5, Nat.zero_add, e4, if_true, e3]
      clear e2 e3 e4 w1
      rcases (by omega : c = 0 ∨ c = 1 ∨ c = 2 ∨ c = 3 ∨ c = 4 ∨ c = 5) with rfl | rfl | rfl | rfl | rfl | rfl <;>
        (simp only [Int.reduceEq, if_true, if_false, not_true, not_false_eq_true, false_implies, true_implies, and_true, true_and]
         (try split)
         all_goals ((repeat' (with_reducible (first | refine And.intro ?_ ?_ | intro _))) <;> (try (first | with_reducible (first | done | assumption | omega | contradiction) | decide)))
         all_goals first | rfl | omega | (rw [List.length_set]; omega)))
end Go.Proofs.Ytjeinbfnbcempaa
