/- Book: the plain law, and the contracts of the program's function and of the reference's. -/
import Derived.Test.YtjeinbfnbcempaaEvIterToP
import Derived.Test.YtjeinbfnbcempaaFwIToK
set_option linter.unusedSimpArgs false
set_option linter.unusedVariables false
set_option maxRecDepth 100000
set_option maxHeartbeats 4000000
namespace Go.Proofs.Ytjeinbfnbcempaa
open Go.Ev

def lessR (s : Svc) : Svc := (s.1, s.2.1, s.2.2.1, s.2.2.2.1, s.2.2.2.2.1, s.2.2.2.2.2 - 1)
def seatV : List Svc → List Int → Option (List Svc)
  | l, [] => some l
  | l, i :: is => if (l.getD i.toNat sv0).2.2.2.2.2 = 0 then none else seatV (l.set i.toNat (lessR (l.getD i.toNat sv0))) is
def bookV (l : List Svc) (xs : List Int) : List Svc × Int :=
  if valL l ≠ 0 then ([], valL l) else if indV l xs = false then ([], 1) else if ¬ xs.Nodup then ([], 5) else match seatV l xs with
    | some m => (m, 0)
    | none => ([], 8)
theorem ddU_full (xs : List Int) : ∀ i, (ddU xs i).length = i ↔ ∀ k, k < i → k ≠ 0 → xs.getD k 0 ≠ xs.getD (k - 1) 0
  | 0 => by simp [ddU]
  | i + 1 => by
    have ih := ddU_full xs i
    have hl := ddU_len xs i
    rw [ddU, List.length_append]
    by_cases h : i ≠ 0 ∧ xs.getD i 0 = xs.getD (i - 1) 0
    · rw [if_pos h]
      refine ⟨fun k => by simp at k; omega, fun k => absurd h.2 (k i (by omega) h.1)⟩
    · rw [if_neg h]
      simp only [List.length_singleton, Nat.add_right_cancel_iff]
      rw [ih]
      refine ⟨fun k j hj h0 => ?_, fun k j hj h0 => k j (by omega) h0⟩
      by_cases e : j = i
      · subst e; exact fun q => h ⟨h0, q⟩
      · exact k j (by omega) h0
theorem sortI_perm (xs : List Int) : (sortI xs).Perm xs := List.mergeSort_perm xs _
theorem sortI_sorted (xs : List Int) : (sortI xs).Pairwise (fun a b => a ≤ b) := by
  have := List.pairwise_mergeSort (le := fun x y : Int => decide (x ≤ y)) (fun a b c h1 h2 => by simp only [decide_eq_true_eq] at *; omega) (fun a b => by simp only [Bool.or_eq_true, decide_eq_true_eq]; omega) xs
  exact this.imp fun h => by simpa using h
/-- A sorted list without two neighbours alike has no two alike. -/
theorem nodup_iff (xs : List Int) : (compV (sortI xs)).length < xs.length ↔ ¬ xs.Nodup := by
  have hp := sortI_perm xs
  have hs := sortI_sorted xs
  have hn : xs.Nodup ↔ (sortI xs).Nodup := hp.nodup_iff.symm
  have hlen : (sortI xs).length = xs.length := hp.length_eq
  have hle := ddU_len (sortI xs) (sortI xs).length
  have hf := ddU_full (sortI xs) (sortI xs).length
  rw [hn]
  unfold compV
  generalize sortI xs = ys at *
  have key : (∀ k, k < ys.length → k ≠ 0 → ys.getD k 0 ≠ ys.getD (k - 1) 0) ↔ ys.Nodup := by
    constructor
    · intro h
      have hlt : ∀ i j, i < ys.length → j < i → ys.getD j 0 < ys.getD i 0 := fun i => by
        induction i with
        | zero => intro j _ h; omega
        | succ i ih =>
          intro j hi hj
          have h1 := h (i + 1) hi (by omega)
          rw [Nat.add_sub_cancel] at h1
          have h2 : ys.getD i 0 ≤ ys.getD (i + 1) 0 := by
            have := List.pairwise_iff_getElem.1 hs i (i + 1) (by omega) hi (by omega)
            simpa [List.getD_eq_getElem?_getD, List.getElem?_eq_getElem hi, List.getElem?_eq_getElem (show i < ys.length by omega)] using this
          by_cases e : j = i
          · subst e; omega
          · have := ih j (by omega) (by omega); omega
      refine List.pairwise_iff_getElem.2 fun i j hi hj hij => ?_
      have := hlt j i hj hij
      simp only [List.getD_eq_getElem?_getD, List.getElem?_eq_getElem hi, List.getElem?_eq_getElem hj, Option.getD_some] at this
      omega
    · intro h k hk h0 e
      have := List.pairwise_iff_getElem.1 h (k - 1) k (by omega) hk (by omega)
      simp only [List.getD_eq_getElem?_getD, List.getElem?_eq_getElem hk, List.getElem?_eq_getElem (show k - 1 < ys.length by omega), Option.getD_some] at e
      exact this e.symm
  rw [← key, ← hf]
  omega
/-- Rooms that are no numbers below 0. -/
def roomy (l : List Svc) : Prop := ∀ k, k < l.length → 0 ≤ (l.getD k sv0).2.2.2.2.2 ∧ (l.getD k sv0).2.2.2.2.2 ≤ 999
theorem roomy_set {l : List Svc} (h : roomy l) {i : Nat} (h0 : ¬ (l.getD i sv0).2.2.2.2.2 = 0) (hi : i < l.length) : roomy (l.set i (lessR (l.getD i sv0))) := by
  intro k hk
  rw [List.length_set] at hk
  have h1 := h k hk
  have h2 := h i hi
  by_cases e : i = k
  · subst e
    have : (l.set i (lessR (l.getD i sv0))).getD i sv0 = lessR (l.getD i sv0) := by simp [hi]
    rw [this]; unfold lessR; dsimp only; omega
  · have : (l.set i (lessR (l.getD i sv0))).getD k sv0 = l.getD k sv0 := by rw [List.getD_eq_getElem?_getD, List.getElem?_set_ne e, ← List.getD_eq_getElem?_getD]
    rw [this]; exact h1
theorem roomy_of {l : List Svc} (h : ∀ s ∈ l, svOk s = true) : roomy l := fun k hk => by
  have e : l.getD k sv0 = l[k] := by simp [hk]
  rw [e]
  have := svOk_bd (h l[k] (List.getElem_mem hk))
  exact this.2.2.2
theorem valL_zero {l : List Svc} (h : valL l = 0) : l.length ≤ 40 ∧ ∀ s ∈ l, svOk s = true := by
  unfold valL at h
  split at h
  · omega
  · split at h
    · rename_i h1 h2
      exact ⟨by omega, List.all_eq_true.1 h2⟩
    · omega
/-- The rest of a booking. -/
theorem seat_step {out : List Svc} {xs : List Int} {i : Nat} (hi : i < xs.length) (h : ¬ (out.getD (xs.getD i 0).toNat sv0).2.2.2.2.2 = 0) : seatV out (xs.drop i) = seatV (out.set (xs.getD i 0).toNat (lessR (out.getD (xs.getD i 0).toNat sv0))) (xs.drop (i + 1)) := by
  rw [List.drop_eq_getElem_cons hi, seatV]
  have e : xs.getD i 0 = xs[i] := by simp [hi]
  rw [e] at h ⊢
  rw [if_neg h]
theorem seat_full {out : List Svc} {xs : List Int} {i : Nat} (hi : i < xs.length) (h : (out.getD (xs.getD i 0).toNat sv0).2.2.2.2.2 = 0) : seatV out (xs.drop i) = none := by
  rw [List.drop_eq_getElem_cons hi, seatV]
  have e : xs.getD i 0 = xs[i] := by simp [hi]
  rw [e] at h
  rw [if_pos h]
def bookR (o : Option (List Svc)) : List Svc × Int := match o with
  | some m => (m, 0)
  | none => ([], 8)
theorem bookV_4 {l : List Svc} {xs : List Int} (h1 : valL l = 0) (h2 : indV l xs = true) (h3 : xs.Nodup) : bookV l xs = bookR (seatV l xs) := by
  unfold bookV bookR
  rw [if_neg (by rw [h1]; simp), if_neg (by rw [h2]; simp), if_neg (fun k => k h3)]
def con31 : Con := { ps := [.d false (.sl (.pair (.pair .str (.pair (.int .i64) (.pair .str (.int .i64)))) (.pair .str (.pair .str (.pair (.int .i64) (.pair (.int .i64) (.int .i64))))))), .d true (.pair (.sl (.int .i64)) (.sl (.pair .str (.int .i64))))], rs := [.d false (.sl (.pair (.pair .str (.pair (.int .i64) (.pair .str (.int .i64)))) (.pair .str (.pair .str (.pair (.int .i64) (.pair (.int .i64) (.int .i64))))))), .d false (.int .i64)], pre := fun (x : List Svc × Itn × Unit) => x.2.1.1.length ≤ 10000000, out := fun (x : List Svc × Itn × Unit) => ((bookV x.1 x.2.1.1).1, (bookV x.1 x.2.1.1).2, ()), nw := id }
theorem c31 : CtrOk Try.prog 31 con31.ctr :=
  con_sound (G := ⟨[(13, con13.ctr), (51, con51.ctr), (54, con54.ctr), (55, con55.ctr), (56, con56.ctr), (57, con57.ctr)], [], [], []⟩) tab_ok (EnvOk.cons c13 has13 (EnvOk.cons c51 has51 (EnvOk.cons c54 has54 (EnvOk.cons c55 has55 (EnvOk.cons c56 has56 (EnvOk.cons c57 has57 EnvOk.nil)))))) rfl Try.func31 rfl con31 35443144410619 (by kernel_rfl) (by decide) (by decide) rfl (by decide) rfl (by
    rintro ⟨(l : List Svc), ⟨(xs : List Int), (lb : List Lbl)⟩, _⟩ hpre hwf X hT hG hk hK
    have hxl : xs.length ≤ 10000000 := hpre
    (simp -implicitDefEqProofs only [go_sem, Prod.eta, Option.isSome_none, Option.isSome_some, Int.toNat_zero, Nat.reduceAdd, Nat.reduceMul, Nat.reduceSub, Nat.reduceEqDiff, Nat.reduceLT, Nat.reduceLeDiff, Nat.reduceShiftRight, Nat.reduceMod, Nat.reduceBEq, reduceCtorEq, reduceIte, reduceDIte, Int.reduceNeg, Bool.not_eq_true', Bool.not_eq_false', Bool.or_eq_true, Bool.or_eq_false_iff, Bool.and_eq_true, Bool.and_eq_false_iff, decide_eq_true_eq, decide_eq_false_iff_not, Classical.not_not, not_or, maxLen, con31, con13, con51, con54, con55, con56, con57, hT, hG, hk, hK, Try.results31] at hwf ⊢); (try simp (disch := decide +kernel) only [drawn, true_and, and_true])
    refine fun _ => ⟨fun h => by unfold bookV; rw [if_pos h]; exact ⟨rfl, rfl⟩, fun h => ⟨fun h2 => by unfold bookV; rw [if_neg (by simpa using h), if_pos h2]; exact ⟨rfl, rfl⟩, fun h2 _ => ⟨hxl, fun _ _ _ _ => ⟨fun h3 => ?_, fun h3 => ?_⟩⟩⟩⟩
    · have hn : ¬ xs.Nodup := (nodup_iff xs).1 (by omega)
      unfold bookV; rw [if_neg (by simpa using h), if_neg (by rw [h2]; simp), if_pos hn]; exact ⟨rfl, rfl⟩
    obtain ⟨hl40, hsv⟩ := valL_zero h
    have hnd : xs.Nodup := Classical.byContradiction fun k => by have := (nodup_iff xs).2 k; omega
    have hB := bookV_4 h h2 hnd
    have hbd := indV_bd h2
    refine ⟨by omega, fun _ _ => ?_⟩
    refine evk_loop ⟨{ q : Nat × List Svc // q.1 ≤ xs.length ∧ roomy q.2 ∧ q.2.length = l.length ∧ seatV l xs = seatV q.2 (xs.drop q.1) }, 1000, fun q => [(8, .one (.row 64)), (34, .one (.sl (.int .i64) xs false)), (35, .one (.int .i64 xs.length)), (36, .one (.int .i64 q.1.1))], fun q => [(64, .row 54 (.pair (.pair .str (.pair (.int .i64) (.pair .str (.int .i64)))) (.pair .str (.pair .str (.pair (.int .i64) (.pair (.int .i64) (.int .i64)))))) q.1.2)], fun q => xs.length - q.1.1⟩ ⟨(0, l), Nat.zero_le _, roomy_of hsv, rfl, rfl⟩ ?_ ?_
    · simp only [go_sem, Prod.eta, Option.isSome_none, Option.isSome_some, Int.toNat_zero, Nat.reduceAdd, Nat.reduceMul, Nat.reduceSub, Nat.reduceEqDiff, Nat.reduceLT, Nat.reduceLeDiff, Nat.reduceShiftRight, Nat.reduceMod, Nat.reduceBEq, reduceCtorEq, reduceIte, reduceDIte, Int.reduceNeg]
      try (first | rfl | exact ⟨rfl, rfl⟩)
    · rintro ⟨⟨i, out⟩, (hi : i ≤ xs.length), (hr : roomy out), (hol : out.length = l.length), (hs : seatV l xs = seatV out (xs.drop i))⟩
      (simp -implicitDefEqProofs only [go_sem, Prod.eta, Option.isSome_none, Option.isSome_some, Int.toNat_zero, Nat.reduceAdd, Nat.reduceMul, Nat.reduceSub, Nat.reduceEqDiff, Nat.reduceLT, Nat.reduceLeDiff, Nat.reduceShiftRight, Nat.reduceMod, Nat.reduceBEq, reduceCtorEq, reduceIte, reduceDIte, Int.reduceNeg, Bool.not_eq_true', Bool.not_eq_false', Bool.or_eq_true, Bool.or_eq_false_iff, Bool.and_eq_true, Bool.and_eq_false_iff, decide_eq_true_eq, decide_eq_false_iff_not, Classical.not_not, not_or, maxLen, con31, con13, con51, con54, con55, con56, con57, hT, hG, hk, hK, Try.results31]); (try simp (disch := decide +kernel) only [drawn, true_and, and_true])
      have hiN : ((i : Int)).toNat = i := by omega
      simp only [hiN]
      have hx : i < xs.length → 0 ≤ xs.getD i 0 ∧ xs.getD i 0 < l.length := fun h => by
        have e : xs.getD i 0 = xs[i] := by simp [h]
        rw [e]; exact hbd _ (List.getElem_mem h)
      have hroom : i < xs.length → 0 ≤ (out.getD (xs.getD i 0).toNat sv0).2.2.2.2.2 ∧ (out.getD (xs.getD i 0).toNat sv0).2.2.2.2.2 ≤ 999 := fun h => hr _ (by have := hx h; omega)
      have hst := @seat_step out xs i
      have hsf := @seat_full out xs i
      have hrs := fun h0 hh => @roomy_set out hr (xs.getD i 0).toNat h0 hh
      unfold lessR sv0 at *
      generalize hk0 : xs.getD i 0 = k at *
      obtain ⟨s, hs0⟩ : ∃ s, out.getD k.toNat (((ByteArray.empty, 0, ByteArray.empty, 0), ByteArray.empty, ByteArray.empty, 0, 0, 0) : Svc) = s := ⟨_, rfl⟩
      simp only [hs0] at hroom hst hsf hrs ⊢
      (repeat' (with_reducible (first | refine And.intro ?_ ?_ | intro _))) <;> (try (first | with_reducible (first | done | assumption | omega | contradiction) | decide))
      · have h8 := hsf (by omega) (by assumption)
        rw [hB, hs, h8]; rfl
      · have h8 := hsf (by omega) (by assumption)
        rw [hB, hs, h8]; rfl
      · have h0 : ¬ s.2.2.2.2.2 = 0 := by assumption
        have h9 := hst (by omega) h0
        refine fin_lp ⟨(i + 1, out.set k.toNat (s.1, s.2.1, s.2.2.1, s.2.2.2.1, s.2.2.2.2.1, s.2.2.2.2.2 - 1)), by dsimp only; omega, hrs h0 (by have := hx (by omega); omega), by simpa using hol, hs.trans h9⟩ ?_ (by dsimp only; omega)
        simp only [go_sem, Prod.eta, Option.isSome_none, Option.isSome_some, Int.toNat_zero, Nat.reduceAdd, Nat.reduceMul, Nat.reduceSub, Nat.reduceEqDiff, Nat.reduceLT, Nat.reduceLeDiff, Nat.reduceShiftRight, Nat.reduceMod, Nat.reduceBEq, reduceCtorEq, reduceIte, reduceDIte, Int.reduceNeg]
        try (first | rfl | exact ⟨rfl, rfl⟩ | (and_intros <;> first | rfl | omega))
      · rw [hB, hs, List.drop_eq_nil_of_le (by omega)]; rfl
      · rw [hB, hs, List.drop_eq_nil_of_le (by omega)]; rfl)
def con32 : Con := { ps := [.d false (.sl (.pair (.pair .str (.pair (.int .i64) (.pair .str (.int .i64)))) (.pair .str (.pair .str (.pair (.int .i64) (.pair (.int .i64) (.int .i64))))))), .d true (.pair (.sl (.int .i64)) (.sl (.pair .str (.int .i64))))], rs := [.d false (.sl (.pair (.pair .str (.pair (.int .i64) (.pair .str (.int .i64)))) (.pair .str (.pair .str (.pair (.int .i64) (.pair (.int .i64) (.int .i64))))))), .d false (.int .i64)], pre := fun (x : List Svc × Itn × Unit) => x.2.1.1.length ≤ 10000000, out := fun (x : List Svc × Itn × Unit) => ((bookV x.1 x.2.1.1).1, (bookV x.1 x.2.1.1).2, ()), nw := id }
theorem c32 : CtrOk Try.prog 32 con32.ctr :=
  con_sound (G := ⟨[(14, con14.ctr)], [], [], []⟩) tab_ok (EnvOk.cons c14 has14 EnvOk.nil) rfl Try.func32 rfl con32 4836888482346344434929659 (by kernel_rfl) (by decide) (by decide) rfl (by decide) rfl (by
    rintro ⟨(l : List Svc), ⟨(xs : List Int), (lb : List Lbl)⟩, _⟩ hpre hwf X hT hG hk hK
    have hxl : xs.length ≤ 10000000 := hpre
    (simp -implicitDefEqProofs only [go_sem, Prod.eta, Option.isSome_none, Option.isSome_some, Int.toNat_zero, Nat.reduceAdd, Nat.reduceMul, Nat.reduceSub, Nat.reduceEqDiff, Nat.reduceLT, Nat.reduceLeDiff, Nat.reduceShiftRight, Nat.reduceMod, Nat.reduceBEq, reduceCtorEq, reduceIte, reduceDIte, Int.reduceNeg, Bool.not_eq_true', Bool.not_eq_false', Bool.or_eq_true, Bool.or_eq_false_iff, Bool.and_eq_true, Bool.and_eq_false_iff, decide_eq_true_eq, decide_eq_false_iff_not, Classical.not_not, not_or, maxLen, con32, con14, hT, hG, hk, hK, Try.results32] at hwf ⊢); (try simp (disch := decide +kernel) only [drawn, true_and, and_true])
    refine fun _ => ⟨fun h => by unfold bookV; rw [if_pos h]; exact ⟨rfl, rfl⟩, fun h => ?_⟩
    obtain ⟨hl40, hsv⟩ := valL_zero h
    refine evk_loop ⟨{ i : Nat // i ≤ xs.length ∧ ∀ j, j < i → inV (xs.getD j 0) 0 ((l.length : Int) - 1) = true }, 1000, fun q => [(0, .one (.sl (.pair (.pair .str (.pair (.int .i64) (.pair .str (.int .i64)))) (.pair .str (.pair .str (.pair (.int .i64) (.pair (.int .i64) (.int .i64)))))) l false)), (3, .one (.loc 64 0)), (7, .one (.int .i64 q.1))], fun q => [(64, .cells 39 [.sl (.int .i64) xs false, .sl (.pair .str (.int .i64)) lb false])], fun q => xs.length - q.1⟩ ⟨0, by omega, fun j hj => by omega⟩ ?_ ?_
    · simp only [go_sem, Prod.eta, Option.isSome_none, Option.isSome_some, Int.toNat_zero, Nat.reduceAdd, Nat.reduceMul, Nat.reduceSub, Nat.reduceEqDiff, Nat.reduceLT, Nat.reduceLeDiff, Nat.reduceShiftRight, Nat.reduceMod, Nat.reduceBEq, reduceCtorEq, reduceIte, reduceDIte, Int.reduceNeg]
      try (first | rfl | exact ⟨rfl, rfl⟩)
    · rintro ⟨i, (hi : i ≤ xs.length), (hb : ∀ j, j < i → inV (xs.getD j 0) 0 ((l.length : Int) - 1) = true)⟩
      (simp -implicitDefEqProofs only [go_sem, Prod.eta, Option.isSome_none, Option.isSome_some, Int.toNat_zero, Nat.reduceAdd, Nat.reduceMul, Nat.reduceSub, Nat.reduceEqDiff, Nat.reduceLT, Nat.reduceLeDiff, Nat.reduceShiftRight, Nat.reduceMod, Nat.reduceBEq, reduceCtorEq, reduceIte, reduceDIte, Int.reduceNeg, Bool.not_eq_true', Bool.not_eq_false', Bool.or_eq_true, Bool.or_eq_false_iff, Bool.and_eq_true, Bool.and_eq_false_iff, decide_eq_true_eq, decide_eq_false_iff_not, Classical.not_not, not_or, maxLen, con32, con14, hT, hG, hk, hK, Try.results32]); (try simp (disch := decide +kernel) only [drawn, true_and, and_true])
      have hiN : ((i : Int)).toNat = i := by omega
      simp only [hiN]
      refine fun _ => ⟨fun hlt => ⟨by omega, fun _ _ => ⟨fun _ => by omega, fun _ _ _ => ⟨fun hc => ?_, fun hc => ⟨by omega, ?_⟩⟩⟩⟩, fun hge => ?_⟩
      · have hbad : indV l xs = false := indV_take (i := i) (by omega) (by
          unfold inV
          cases hq : (decide (0 ≤ xs.getD i 0) && decide (xs.getD i 0 ≤ (l.length : Int) - 1)) with
          | false => rfl
          | true => simp only [Bool.and_eq_true, decide_eq_true_eq] at hq; omega)
        unfold bookV; rw [if_neg (by simpa using h), if_pos hbad]; exact ⟨rfl, rfl⟩
      · refine fin_lp ⟨i + 1, by omega, fun j hj => ?_⟩ ?_ (by dsimp only; omega)
        · by_cases e : j = i
          · subst e
            unfold inV
            simp only [Bool.and_eq_true, decide_eq_true_eq]
            omega
          · exact hb j (by omega)
        · simp only [go_sem, Prod.eta, Option.isSome_none, Option.isSome_some, Int.toNat_zero, Nat.reduceAdd, Nat.reduceMul, Nat.reduceSub, Nat.reduceEqDiff, Nat.reduceLT, Nat.reduceLeDiff, Nat.reduceShiftRight, Nat.reduceMod, Nat.reduceBEq, reduceCtorEq, reduceIte, reduceDIte, Int.reduceNeg]
          try (first | rfl | exact ⟨rfl, rfl⟩ | (and_intros <;> first | rfl | omega))
      · have hind : indV l xs = true := indV_all fun j hj => hb j (by omega)
        have hbd := indV_bd hind
        refine evk_loop ⟨{ i : Nat // i ≤ xs.length ∧ (xs.take i).Nodup }, 1000, fun q => [(0, .one (.sl (.pair (.pair .str (.pair (.int .i64) (.pair .str (.int .i64)))) (.pair .str (.pair .str (.pair (.int .i64) (.pair (.int .i64) (.int .i64)))))) l false)), (3, .one (.loc 64 0)), (8, .one (.int .i64 q.1))], fun q => [(64, .cells 39 [.sl (.int .i64) xs false, .sl (.pair .str (.int .i64)) lb false])], fun q => xs.length - q.1⟩ ⟨0, by omega, List.nodup_nil⟩ ?_ ?_
        · simp only [go_sem, Prod.eta, Option.isSome_none, Option.isSome_some, Int.toNat_zero, Nat.reduceAdd, Nat.reduceMul, Nat.reduceSub, Nat.reduceEqDiff, Nat.reduceLT, Nat.reduceLeDiff, Nat.reduceShiftRight, Nat.reduceMod, Nat.reduceBEq, reduceCtorEq, reduceIte, reduceDIte, Int.reduceNeg]
          try (first | rfl | exact ⟨rfl, rfl⟩)
        · rintro ⟨i, (hi : i ≤ xs.length), (hnd : (xs.take i).Nodup)⟩
          (simp -implicitDefEqProofs only [go_sem, Prod.eta, Option.isSome_none, Option.isSome_some, Int.toNat_zero, Nat.reduceAdd, Nat.reduceMul, Nat.reduceSub, Nat.reduceEqDiff, Nat.reduceLT, Nat.reduceLeDiff, Nat.reduceShiftRight, Nat.reduceMod, Nat.reduceBEq, reduceCtorEq, reduceIte, reduceDIte, Int.reduceNeg, Bool.not_eq_true', Bool.not_eq_false', Bool.or_eq_true, Bool.or_eq_false_iff, Bool.and_eq_true, Bool.and_eq_false_iff, decide_eq_true_eq, decide_eq_false_iff_not, Classical.not_not, not_or, maxLen, con32, con14, hT, hG, hk, hK, Try.results32]); (try simp (disch := decide +kernel) only [drawn, true_and, and_true])
          refine fun _ => ⟨fun hlt => ?_, fun hge => ?_⟩
          · refine evk_loop ⟨{ k : Nat // k ≤ i ∧ ∀ j, j < k → xs.getD i 0 ≠ xs.getD j 0 }, 1000, fun q => [(0, .one (.sl (.pair (.pair .str (.pair (.int .i64) (.pair .str (.int .i64)))) (.pair .str (.pair .str (.pair (.int .i64) (.pair (.int .i64) (.int .i64)))))) l false)), (3, .one (.loc 64 0)), (8, .one (.int .i64 i)), (9, .one (.int .i64 q.1))], fun q => [(64, .cells 39 [.sl (.int .i64) xs false, .sl (.pair .str (.int .i64)) lb false])], fun q => i - q.1⟩ ⟨0, by omega, fun j hj => by omega⟩ ?_ ?_
            · simp only [go_sem, Prod.eta, Option.isSome_none, Option.isSome_some, Int.toNat_zero, Nat.reduceAdd, Nat.reduceMul, Nat.reduceSub, Nat.reduceEqDiff, Nat.reduceLT, Nat.reduceLeDiff, Nat.reduceShiftRight, Nat.reduceMod, Nat.reduceBEq, reduceCtorEq, reduceIte, reduceDIte, Int.reduceNeg]
              try (first | rfl | exact ⟨rfl, rfl⟩)
            · rintro ⟨k, (hk1 : k ≤ i), (hne : ∀ j, j < k → xs.getD i 0 ≠ xs.getD j 0)⟩
              (simp -implicitDefEqProofs only [go_sem, Prod.eta, Option.isSome_none, Option.isSome_some, Int.toNat_zero, Nat.reduceAdd, Nat.reduceMul, Nat.reduceSub, Nat.reduceEqDiff, Nat.reduceLT, Nat.reduceLeDiff, Nat.reduceShiftRight, Nat.reduceMod, Nat.reduceBEq, reduceCtorEq, reduceIte, reduceDIte, Int.reduceNeg, Bool.not_eq_true', Bool.not_eq_false', Bool.or_eq_true, Bool.or_eq_false_iff, Bool.and_eq_true, Bool.and_eq_false_iff, decide_eq_true_eq, decide_eq_false_iff_not, Classical.not_not, not_or, maxLen, con32, con14, hT, hG, hk, hK, Try.results32]); (try simp (disch := decide +kernel) only [drawn, true_and, and_true])
              have hiN : ((i : Int)).toNat = i := by omega
              have hkN : ((k : Int)).toNat = k := by omega
              simp only [hiN, hkN]
              have hil : i < xs.length := by omega
              have f1 : ∀ j (h : j < xs.length), xs.getD j 0 = xs[j] := fun j h => by simp [h]
              (repeat' (with_reducible (first | refine And.intro ?_ ?_ | intro _))) <;> (try (first | with_reducible (first | done | assumption | omega | contradiction) | decide))
              · have he : xs.getD i 0 = xs.getD k 0 := by assumption
                have hn : ¬ xs.Nodup := fun hh => by
                  rw [f1 i hil, f1 k (by omega)] at he
                  exact List.pairwise_iff_getElem.1 hh k i (by omega) hil (by omega) he.symm
                unfold bookV; rw [if_neg (by simpa using h), if_neg (by rw [hind]; simp), if_pos hn]
              · have he : xs.getD i 0 = xs.getD k 0 := by assumption
                have hn : ¬ xs.Nodup := fun hh => by
                  rw [f1 i hil, f1 k (by omega)] at he
                  exact List.pairwise_iff_getElem.1 hh k i (by omega) hil (by omega) he.symm
                unfold bookV; rw [if_neg (by simpa using h), if_neg (by rw [hind]; simp), if_pos hn]
              · have he : ¬ xs.getD i 0 = xs.getD k 0 := by assumption
                refine fin_lp ⟨k + 1, by omega, fun j hj => ?_⟩ ?_ (by dsimp only; omega)
                · by_cases e : j = k
                  · subst e; exact he
                  · exact hne j (by omega)
                · simp only [go_sem, Prod.eta, Option.isSome_none, Option.isSome_some, Int.toNat_zero, Nat.reduceAdd, Nat.reduceMul, Nat.reduceSub, Nat.reduceEqDiff, Nat.reduceLT, Nat.reduceLeDiff, Nat.reduceShiftRight, Nat.reduceMod, Nat.reduceBEq, reduceCtorEq, reduceIte, reduceDIte, Int.reduceNeg]
                  try (first | rfl | exact ⟨rfl, rfl⟩ | (and_intros <;> first | rfl | omega))
              · have hki : k = i := by omega
                subst hki
                refine fin_lp ⟨k + 1, by omega, ?_⟩ ?_ (by dsimp only; omega)
                · rw [List.take_succ_eq_append_getElem hil, List.nodup_append]
                  refine ⟨hnd, by simp, fun a ha b hb' e => ?_⟩
                  rw [List.mem_singleton.1 hb'] at e
                  obtain ⟨j, hj, rfl⟩ := List.getElem_of_mem ha
                  simp only [List.length_take] at hj
                  refine hne j (by omega) ?_
                  rw [f1 k hil, f1 j (by omega), ← e, List.getElem_take]
                · simp only [go_sem, Prod.eta, Option.isSome_none, Option.isSome_some, Int.toNat_zero, Nat.reduceAdd, Nat.reduceMul, Nat.reduceSub, Nat.reduceEqDiff, Nat.reduceLT, Nat.reduceLeDiff, Nat.reduceShiftRight, Nat.reduceMod, Nat.reduceBEq, reduceCtorEq, reduceIte, reduceDIte, Int.reduceNeg]
                  try (first | rfl | exact ⟨rfl, rfl⟩ | (and_intros <;> first | rfl | omega))
          · rw [List.take_of_length_le (by omega)] at hnd
            have hB := bookV_4 h hind hnd
            refine ⟨by omega, ?_⟩
            refine evk_loop ⟨{ q : Nat × List Svc // q.1 ≤ xs.length ∧ roomy q.2 ∧ q.2.length = l.length ∧ seatV l xs = seatV q.2 (xs.drop q.1) }, 1000, fun q => [(3, .one (.loc 64 0)), (10, .one (.row 65)), (11, .one (.int .i64 q.1.1))], fun q => [(64, .cells 39 [.sl (.int .i64) xs false, .sl (.pair .str (.int .i64)) lb false]), (65, .row 54 (.pair (.pair .str (.pair (.int .i64) (.pair .str (.int .i64)))) (.pair .str (.pair .str (.pair (.int .i64) (.pair (.int .i64) (.int .i64)))))) q.1.2)], fun q => xs.length - q.1.1⟩ ⟨(0, l), Nat.zero_le _, roomy_of hsv, rfl, rfl⟩ ?_ ?_
            · simp only [go_sem, Prod.eta, Option.isSome_none, Option.isSome_some, Int.toNat_zero, Nat.reduceAdd, Nat.reduceMul, Nat.reduceSub, Nat.reduceEqDiff, Nat.reduceLT, Nat.reduceLeDiff, Nat.reduceShiftRight, Nat.reduceMod, Nat.reduceBEq, reduceCtorEq, reduceIte, reduceDIte, Int.reduceNeg]
              try (first | rfl | exact ⟨rfl, rfl⟩)
            · rintro ⟨⟨i, out⟩, (hi : i ≤ xs.length), (hr : roomy out), (hol : out.length = l.length), (hs : seatV l xs = seatV out (xs.drop i))⟩
              (simp -implicitDefEqProofs only [go_sem, Prod.eta, Option.isSome_none, Option.isSome_some, Int.toNat_zero, Nat.reduceAdd, Nat.reduceMul, Nat.reduceSub, Nat.reduceEqDiff, Nat.reduceLT, Nat.reduceLeDiff, Nat.reduceShiftRight, Nat.reduceMod, Nat.reduceBEq, reduceCtorEq, reduceIte, reduceDIte, Int.reduceNeg, Bool.not_eq_true', Bool.not_eq_false', Bool.or_eq_true, Bool.or_eq_false_iff, Bool.and_eq_true, Bool.and_eq_false_iff, decide_eq_true_eq, decide_eq_false_iff_not, Classical.not_not, not_or, maxLen, con32, con14, hT, hG, hk, hK, Try.results32]); (try simp (disch := decide +kernel) only [drawn, true_and, and_true])
              have hiN : ((i : Int)).toNat = i := by omega
              simp only [hiN]
              have hx : i < xs.length → 0 ≤ xs.getD i 0 ∧ xs.getD i 0 < l.length := fun h => by
                have e : xs.getD i 0 = xs[i] := by simp [h]
                rw [e]; exact hbd _ (List.getElem_mem h)
              have hroom : i < xs.length → 0 ≤ (out.getD (xs.getD i 0).toNat sv0).2.2.2.2.2 ∧ (out.getD (xs.getD i 0).toNat sv0).2.2.2.2.2 ≤ 999 := fun h => hr _ (by have := hx h; omega)
              have hst := @seat_step out xs i
              have hsf := @seat_full out xs i
              have hrs := fun h0 hh => @roomy_set out hr (xs.getD i 0).toNat h0 hh
              unfold lessR sv0 at *
              generalize hk0 : xs.getD i 0 = k at *
              obtain ⟨s, hs0⟩ : ∃ s, out.getD k.toNat (((ByteArray.empty, 0, ByteArray.empty, 0), ByteArray.empty, ByteArray.empty, 0, 0, 0) : Svc) = s := ⟨_, rfl⟩
              simp only [hs0] at hroom hst hsf hrs ⊢
              (repeat' (with_reducible (first | refine And.intro ?_ ?_ | intro _))) <;> (try (first | with_reducible (first | done | assumption | omega | contradiction) | decide))
              · have h8 := hsf (by omega) (by assumption)
                rw [hB, hs, h8]; rfl
              · have h8 := hsf (by omega) (by assumption)
                rw [hB, hs, h8]; rfl
              · have h0 : ¬ s.2.2.2.2.2 = 0 := by assumption
                have h9 := hst (by omega) h0
                refine fin_lp ⟨(i + 1, out.set k.toNat (s.1, s.2.1, s.2.2.1, s.2.2.2.1, s.2.2.2.2.1, s.2.2.2.2.2 - 1)), by dsimp only; omega, hrs h0 (by have := hx (by omega); omega), by simpa using hol, hs.trans h9⟩ ?_ (by dsimp only; omega)
                simp only [go_sem, Prod.eta, Option.isSome_none, Option.isSome_some, Int.toNat_zero, Nat.reduceAdd, Nat.reduceMul, Nat.reduceSub, Nat.reduceEqDiff, Nat.reduceLT, Nat.reduceLeDiff, Nat.reduceShiftRight, Nat.reduceMod, Nat.reduceBEq, reduceCtorEq, reduceIte, reduceDIte, Int.reduceNeg]
                try (first | rfl | exact ⟨rfl, rfl⟩ | (and_intros <;> first | rfl | omega))
              · rw [hB, hs, List.drop_eq_nil_of_le (by omega)]; rfl
              · rw [hB, hs, List.drop_eq_nil_of_le (by omega)]; rfl)
def con33 : Con := { ps := [.d false (.sl (.pair (.pair .str (.pair (.int .i64) (.pair .str (.int .i64)))) (.pair .str (.pair .str (.pair (.int .i64) (.pair (.int .i64) (.int .i64))))))), .d false (.sl (.pair (.pair .str (.pair (.int .i64) (.pair .str (.int .i64)))) (.pair .str (.pair .str (.pair (.int .i64) (.pair (.int .i64) (.int .i64)))))))], rs := [.d false .bool], pre := fun (x : List Svc × List Svc × Unit) => True, out := fun (x : List Svc × List Svc × Unit) => (decide (x.1 = x.2.1), ()), nw := id }
theorem c33 : CtrOk Try.prog 33 con33.ctr :=
  con_sound (G := ⟨[], [], [], []⟩) tab_ok EnvOk.nil rfl Try.func33 rfl con33 33571891 (by kernel_rfl) (by decide) (by decide) rfl (by decide) rfl (by
    rintro ⟨(a : List Svc), (b : List Svc), _⟩ hpre hwf X hT hG hk hK
    (simp -implicitDefEqProofs only [go_sem, Prod.eta, Option.isSome_none, Option.isSome_some, Int.toNat_zero, Nat.reduceAdd, Nat.reduceMul, Nat.reduceSub, Nat.reduceEqDiff, Nat.reduceLT, Nat.reduceLeDiff, Nat.reduceShiftRight, Nat.reduceMod, Nat.reduceBEq, reduceCtorEq, reduceIte, reduceDIte, Int.reduceNeg, Bool.not_eq_true', Bool.not_eq_false', Bool.or_eq_true, Bool.or_eq_false_iff, Bool.and_eq_true, Bool.and_eq_false_iff, decide_eq_true_eq, decide_eq_false_iff_not, Classical.not_not, not_or, maxLen, con33, hT, hG, hk, hK, Try.results33] at hwf ⊢); (try simp (disch := decide +kernel) only [drawn, true_and, and_true])
    refine fun _ _ => ⟨fun hne => ?_, fun he => ?_⟩
    · exact (decide_eq_false fun k => hne (by rw [k])).symm
    · refine evk_loop ⟨{ i : Nat // i ≤ a.length ∧ ∀ j, j < i → a.getD j sv0 = b.getD j sv0 }, 1000, fun q => [(0, .one (.sl (.pair (.pair .str (.pair (.int .i64) (.pair .str (.int .i64)))) (.pair .str (.pair .str (.pair (.int .i64) (.pair (.int .i64) (.int .i64)))))) a false)), (1, .one (.sl (.pair (.pair .str (.pair (.int .i64) (.pair .str (.int .i64)))) (.pair .str (.pair .str (.pair (.int .i64) (.pair (.int .i64) (.int .i64)))))) b false)), (5, .one (.int .i64 q.1))], fun q => [], fun q => a.length - q.1⟩ ⟨0, by omega, fun j h => by omega⟩ ?_ ?_
      · simp only [go_sem, Prod.eta, Option.isSome_none, Option.isSome_some, Int.toNat_zero, Nat.reduceAdd, Nat.reduceMul, Nat.reduceSub, Nat.reduceEqDiff, Nat.reduceLT, Nat.reduceLeDiff, Nat.reduceShiftRight, Nat.reduceMod, Nat.reduceBEq, reduceCtorEq, reduceIte, reduceDIte, Int.reduceNeg]
        try (first | rfl | exact ⟨rfl, rfl⟩)
      · rintro ⟨i, (hi : i ≤ a.length), (hs : ∀ j, j < i → a.getD j sv0 = b.getD j sv0)⟩
        (simp -implicitDefEqProofs only [go_sem, Prod.eta, Option.isSome_none, Option.isSome_some, Int.toNat_zero, Nat.reduceAdd, Nat.reduceMul, Nat.reduceSub, Nat.reduceEqDiff, Nat.reduceLT, Nat.reduceLeDiff, Nat.reduceShiftRight, Nat.reduceMod, Nat.reduceBEq, reduceCtorEq, reduceIte, reduceDIte, Int.reduceNeg, Bool.not_eq_true', Bool.not_eq_false', Bool.or_eq_true, Bool.or_eq_false_iff, Bool.and_eq_true, Bool.and_eq_false_iff, decide_eq_true_eq, decide_eq_false_iff_not, Classical.not_not, not_or, maxLen, con33, hT, hG, hk, hK, Try.results33]); (try simp (disch := decide +kernel) only [drawn, true_and, and_true])
        have hiN : ((i : Int)).toNat = i := by omega
        simp only [hiN]
        obtain ⟨u, hu⟩ : ∃ u, a.getD i (((ByteArray.empty, 0, ByteArray.empty, 0), ByteArray.empty, ByteArray.empty, 0, 0, 0) : Svc) = u := ⟨_, rfl⟩
        obtain ⟨v, hv⟩ : ∃ v, b.getD i (((ByteArray.empty, 0, ByteArray.empty, 0), ByteArray.empty, ByteArray.empty, 0, 0, 0) : Svc) = v := ⟨_, rfl⟩
        have hu' : a.getD i sv0 = u := hu
        have hv' : b.getD i sv0 = v := hv
        simp only [hu, hv]
        (repeat' (with_reducible (first | refine And.intro ?_ ?_ | intro _))) <;> (try (first | with_reducible (first | done | assumption | omega | contradiction) | decide))
        · rename_i h
          refine (decide_eq_false fun k => ?_).symm
          subst k
          rw [hu'] at hv'
          subst hv'
          simp at h
        · rename_i h
          refine fin_lp ⟨i + 1, by omega, fun j hj => ?_⟩ ?_ (by dsimp only; omega)
          · by_cases e : j = i
            · subst e
              rw [hu', hv']
              obtain ⟨h1, h2, h3, h4, h5, h6, h7, h8, h9⟩ := h
              exact Prod.ext (Prod.ext h1 (Prod.ext h2 (Prod.ext h3 h4))) (Prod.ext h5 (Prod.ext h6 (Prod.ext h7 (Prod.ext h8 h9))))
            · exact hs j (by omega)
          · simp only [go_sem, Prod.eta, Option.isSome_none, Option.isSome_some, Int.toNat_zero, Nat.reduceAdd, Nat.reduceMul, Nat.reduceSub, Nat.reduceEqDiff, Nat.reduceLT, Nat.reduceLeDiff, Nat.reduceShiftRight, Nat.reduceMod, Nat.reduceBEq, reduceCtorEq, reduceIte, reduceDIte, Int.reduceNeg]
            try (first | rfl | exact ⟨rfl, rfl⟩ | (and_intros <;> first | rfl | omega))
        · exact (decide_eq_true (eq_at (by omega) sv0 fun j hj => hs j (by omega))).symm)
end Go.Proofs.Ytjeinbfnbcempaa

/- ForwardMonotone. -/
set_option linter.unusedSimpArgs false
set_option linter.unusedVariables false
set_option maxRecDepth 100000
set_option maxHeartbeats 4000000
namespace Go.Proofs.Ytjeinbfnbcempaa
open Go.Ev

def labelV (l : List Svc) (f t : ByteArray) (r n : Int) : Int := if (routeV l f t r n).2 ≠ 0 ∨ (labV (routeV l f t r n).1.2 t).isSome = false then 1048577 else (labV (routeV l f t r n).1.2 t).getD 0
def con28 : Con := { ps := [.d false (.sl (.pair (.pair .str (.pair (.int .i64) (.pair .str (.int .i64)))) (.pair .str (.pair .str (.pair (.int .i64) (.pair (.int .i64) (.int .i64))))))), .d false .str, .d false .str, .d false (.int .i64), .d false (.int .i64)], rs := [.d false (.int .i64)], pre := fun (x : List Svc × ByteArray × ByteArray × Int × Int × Unit) => True, out := fun (x : List Svc × ByteArray × ByteArray × Int × Int × Unit) => (labelV x.1 x.2.1 x.2.2.1 x.2.2.2.1 x.2.2.2.2.1, ()), nw := id }
theorem c28 : CtrOk Try.prog 28 con28.ctr :=
  con_sound (G := ⟨[(17, con17.ctr), (22, con22.ctr)], [], [], []⟩) tab_ok (EnvOk.cons c17 has17 (EnvOk.cons c22 has22 EnvOk.nil)) rfl Try.func28 rfl con28 68719508511 (by kernel_rfl) (by decide) (by decide) rfl (by decide) rfl (by
    rintro ⟨(l : List Svc), (f : ByteArray), (t : ByteArray), (r : Int), (n : Int), _⟩ hpre hwf X hT hG hk hK
    (simp -implicitDefEqProofs only [go_sem, Prod.eta, Option.isSome_none, Option.isSome_some, Int.toNat_zero, Nat.reduceAdd, Nat.reduceMul, Nat.reduceSub, Nat.reduceEqDiff, Nat.reduceLT, Nat.reduceLeDiff, Nat.reduceShiftRight, Nat.reduceMod, Nat.reduceBEq, reduceCtorEq, reduceIte, reduceDIte, Int.reduceNeg, Bool.not_eq_true', Bool.not_eq_false', Bool.or_eq_true, Bool.or_eq_false_iff, Bool.and_eq_true, Bool.and_eq_false_iff, decide_eq_true_eq, decide_eq_false_iff_not, Classical.not_not, not_or, maxLen, con28, con17, con22, hT, hG, hk, hK, Try.results28] at hwf ⊢); (try simp (disch := decide +kernel) only [drawn, true_and, and_true])
    unfold labelV
    refine fun _ _ => ⟨fun h => by rw [if_pos h], fun h => by rw [if_neg (fun k => by rcases k with k | k; exact k h.1; rw [h.2] at k; cases k)]⟩)
theorem labV_map (g : ByteArray → Int) (b : ByteArray) : ∀ ks : List ByteArray, b ∈ ks → labV (ks.map fun p => (p, g p)) b = some (g b)
  | [], h => by cases h
  | k :: ks, hm => by
    have ih := labV_map g b ks
    unfold labV at ih ⊢
    rw [List.map_cons, List.find?_cons]
    by_cases h : k = b
    · subst h; simp
    · simp only [h, decide_false]
      rcases List.mem_cons.1 hm with e | e
      · exact absurd e.symm h
      · exact ih e
theorem labelV_eq {l : List Svc} {f b : ByteArray} {r n : Int} (hA : ArgOk l r n) (hl : l.length ≤ 40) (hf : portOk f = true) (hb : portOk b = true) : labelV l f b r n = match mgetS (labelsV l f r n) b with
    | some v => v.1
    | none => 1048577 := by
  have hz := argsV_zero hA hl hf hb
  have hm : b ∈ sortK ((labelsV l f r n).map Prod.fst) ↔ (mgetS (labelsV l f r n) b).isSome = true := by rw [sortK_mem, mget_mem]
  cases hv : mgetS (labelsV l f r n) b with
  | none =>
    have e : routeV l f b r n = (([], []), 11) := by
      unfold routeV; rw [if_neg (by rw [hz]; simp), if_pos (by rw [hv]; rfl)]
    unfold labelV
    rw [e]
    exact if_pos (.inl (by decide))
  | some v =>
    rw [hv] at hm
    have hm : b ∈ sortK ((labelsV l f r n).map Prod.fst) := hm.2 rfl
    have e2 : tmOf (labelsV l f r n) b = v.1 := by unfold tmOf; rw [hv]; rfl
    have e : routeV l f b r n = (((wayOf l (labelsV l f r n) b).reverse, lblsV (labelsV l f r n)), 0) := by
      unfold routeV; rw [if_neg (by rw [hz]; simp), if_neg (by rw [hv]; simp)]; rfl
    have e3 : labV (lblsV (labelsV l f r n)) b = some v.1 := by
      unfold lblsV
      rw [labV_map (tmOf (labelsV l f r n)) b _ hm, e2]
    unfold labelV
    rw [e]
    dsimp only
    rw [e3, if_neg (by simp)]
    rfl
theorem labelV_le {l : List Svc} {f b : ByteArray} {r n : Int} (hA : ArgOk l r n) (hl : l.length ≤ 40) (hf : portOk f = true) (hb : portOk b = true) : labelV l f b r n ≤ 1048577 := by
  rw [labelV_eq hA hl hf hb]
  cases hv : mgetS (labelsV l f r n) b with
  | none => exact Int.le_refl _
  | some v => have := ((labels_ok hA).base.low b v hv).2; show v.1 ≤ _; omega
theorem labelV_way {l : List Svc} {f b : ByteArray} {r n : Int} (hA : ArgOk l r n) (hl : l.length ≤ 40) (hf : portOk f = true) (hb : portOk b = true) : labelV l f b r n = 1048577 ∨ ∃ ws : List Int, (∀ i ∈ ws, (0 : Int) ≤ i ∧ i < (l.length : Int)) ∧ goV l n true f r ws = some (b, labelV l f b r n) := by
  rw [labelV_eq hA hl hf hb]
  cases hv : mgetS (labelsV l f r n) b with
  | none => exact .inl rfl
  | some v =>
    obtain ⟨h1, h2⟩ := way_goes hA (labels_ok hA (f := f)) _ b (Nat.lt_succ_self _) (by rw [hv]; rfl)
    have e2 : tmOf (labelsV l f r n) b = v.1 := by unfold tmOf; rw [hv]; rfl
    rw [e2] at h1
    exact .inr ⟨_, fun i hi => h2 i (List.mem_reverse.1 hi), h1⟩
theorem le_labelV {l : List Svc} {f b : ByteArray} {r n t : Int} (hA : ArgOk l r n) (hl : l.length ≤ 40) (hf : portOk f = true) (hb : portOk b = true) {ws : List Int} (hw : ∀ i ∈ ws, 0 ≤ i ∧ i < l.length) (hg : goV l n true f r ws = some (b, t)) : labelV l f b r n ≤ t := by
  obtain ⟨v, hv, hvt⟩ := least_goes hA (labels_ok hA (f := f)) ws true f r (b, t) (fun _ => ⟨rfl, rfl⟩) ⟨_, (labels_ok hA).base.frm, Int.le_refl _⟩ hw hg
  rw [labelV_eq hA hl hf hb]
  have hv : mgetS (labelsV l f r n) b = some v := hv
  rw [hv]; exact hvt
theorem goV_mono {l : List Svc} {n n0 : Int} (hn : n0 ≤ n) : ∀ (xs : List Int) (b : Bool) (p : ByteArray) (t t0 : Int) (q : ByteArray × Int), t0 ≤ t → goV l n b p t xs = some q → ∃ t', goV l n0 b p t0 xs = some (q.1, t') ∧ t' ≤ q.2
  | [], b, p, t, t0, q, ht, h => by
    rw [goV] at h; cases h
    exact ⟨t0, rfl, ht⟩
  | k :: xs, b, p, t, t0, q, ht, h => by
    rw [goV] at h
    by_cases hs : stepOk (l.getD k.toNat sv0) p (t + if b then 0 else n) = true
    · rw [if_pos hs] at h
      have hs0 : stepOk (l.getD k.toNat sv0) p (t0 + if b then 0 else n0) = true := by
        unfold stepOk at hs ⊢
        simp only [Bool.and_eq_true, decide_eq_true_eq] at hs ⊢
        refine ⟨hs.1, ?_⟩
        have := hs.2
        cases b
        · simp only [Bool.false_eq_true, if_false] at this ⊢; omega
        · simp only [if_true] at this ⊢; omega
      rw [goV, if_pos hs0]
      exact goV_mono hn xs false _ _ _ q (Int.le_refl _) h
    · rw [if_neg hs] at h; cases h
theorem goV_more {l m : List Svc} {n : Int} : ∀ (xs : List Int) (b : Bool) (p : ByteArray) (t : Int), (∀ i ∈ xs, 0 ≤ i ∧ i < l.length) → goV (l ++ m) n b p t xs = goV l n b p t xs
  | [], _, _, _, _ => rfl
  | k :: xs, b, p, t, h => by
    have hk := h k List.mem_cons_self
    have e : (l ++ m).getD k.toNat sv0 = l.getD k.toNat sv0 := by
      rw [List.getD_eq_getElem?_getD, List.getD_eq_getElem?_getD, List.getElem?_append_left (by omega)]
    rw [goV, goV, e]
    split
    · split
      · exact goV_more xs _ _ _ fun i hi => h i (List.mem_cons_of_mem _ hi)
      · rfl
    · split
      · exact goV_more xs _ _ _ fun i hi => h i (List.mem_cons_of_mem _ hi)
      · rfl
theorem label_mono {l : List Svc} {f b : ByteArray} {r n r0 n0 : Int} (hA : ArgOk l r n) (hA0 : ArgOk l r0 n0) (hl : l.length ≤ 40) (hf : portOk f = true) (hb : portOk b = true) (hr : r0 ≤ r) (hn : n0 ≤ n) : labelV l f b r0 n0 ≤ labelV l f b r n := by
  rcases labelV_way hA hl hf hb with h | ⟨ws, h1, h2⟩
  · rw [h]; exact labelV_le hA0 hl hf hb
  · obtain ⟨t', h3, h4⟩ := goV_mono hn ws true f r r0 _ hr h2
    exact Int.le_trans (le_labelV hA0 hl hf hb h1 h3) h4
theorem label_more {l m : List Svc} {f b : ByteArray} {r n : Int} (hA : ArgOk l r n) (hA0 : ArgOk (l ++ m) r n) (hl : (l ++ m).length ≤ 40) (hf : portOk f = true) (hb : portOk b = true) : labelV (l ++ m) f b r n ≤ labelV l f b r n := by
  have hl0 : l.length ≤ 40 := by simp at hl; omega
  rcases labelV_way hA hl0 hf hb with h | ⟨ws, h1, h2⟩
  · rw [h]; exact labelV_le hA0 hl hf hb
  · exact le_labelV hA0 hl hf hb (fun i hi => by have := h1 i hi; simp; omega) (by rw [goV_more ws _ _ _ h1]; exact h2)
def con5 : Con := { ps := [.d false (.sl (.int .i64))], rs := [.d false .bool], pre := fun _ => True, out := fun _ => (true, ()), nw := id }
theorem c5 : CtrOk Try.prog 5 con5.ctr :=
  con_sound (G := ⟨[(10, con10.ctr), (11, con11.ctr), (15, con15.ctr), (16, con16.ctr), (24, con24.ctr), (28, con28.ctr)], [], [(58, 4), (37, 9)], []⟩) tab_ok (EnvOk.cons c10 has10 (EnvOk.cons c11 has11 (EnvOk.cons c15 has15 (EnvOk.cons c16 has16 (EnvOk.cons c24 has24 (EnvOk.cons c28 has28 EnvOk.nil)))))) rfl Try.func5 rfl con5 2045 (by kernel_rfl) (by decide) (by decide) rfl (by decide) rfl (by
    rintro ⟨(l : List Int), _⟩ hpre hwf X hT hG hk hK
    (simp -implicitDefEqProofs only [go_sem, Prod.eta, Option.isSome_none, Option.isSome_some, Int.toNat_zero, Nat.reduceAdd, Nat.reduceMul, Nat.reduceSub, Nat.reduceEqDiff, Nat.reduceLT, Nat.reduceLeDiff, Nat.reduceShiftRight, Nat.reduceMod, Nat.reduceBEq, reduceCtorEq, reduceIte, reduceDIte, Int.reduceNeg, Bool.not_eq_true', Bool.not_eq_false', Bool.or_eq_true, Bool.or_eq_false_iff, Bool.and_eq_true, Bool.and_eq_false_iff, decide_eq_true_eq, decide_eq_false_iff_not, Classical.not_not, not_or, maxLen, con5, con10, con11, con15, con16, con24, con28, hT, hG, hk, hK, Try.results5] at hwf ⊢); (try simp (disch := decide +kernel) only [drawn, true_and, and_true])
    obtain ⟨hx, hxl, ho⟩ := servV_ok (s := (l.take 2000, 0)) (n := 20) (by omega) (Int.le_refl _)
    generalize servV (l.take 2000, 0) 20 = V at *
    obtain ⟨x, s⟩ := V
    have ho : 0 ≤ s.2 := ho
    have hx : ∀ s ∈ x, svOk s = true := hx
    have hxl : (x.length : Int) ≤ 20 := hxl
    have p1 := Src.step_pos s ho
    have p2 := Src.step_pos _ p1
    have p3 := Src.step_pos _ p2
    have p4 := Src.step_pos _ p3
    have ha := portV_ok s
    have hb := portV_ok s.step
    have b1 := goMod_bd s.step.step.raw 30 (by omega)
    have b2 := goMod_bd s.step.step.step.raw 12 (by omega)
    dsimp only
    generalize portV s = pa at *
    generalize portV s.step = pb at *
    generalize goMod s.step.step.raw 30 = t at *
    generalize goMod s.step.step.step.raw 12 = n at *
    generalize s.step.step.step.step = s4 at *
    obtain ⟨hy, hyl, ho2⟩ := servV_ok (s := s4) (n := 1) (by omega) p4
    generalize servV s4 1 = V at *
    obtain ⟨y, s5⟩ := V
    have p5 : 0 ≤ s5.2 := ho2
    have hy : ∀ s ∈ y, svOk s = true := hy
    have hyl : (y.length : Int) ≤ 1 := hyl
    have p6 := Src.step_pos _ p5
    have b3 := goMod_bd s5.raw 9 (by omega)
    have b4 := goMod_bd s5.step.raw 9 (by omega)
    dsimp only
    generalize goMod s5.raw 9 = u at *
    generalize goMod s5.step.raw 9 = v at *
    have et : List.take ((x.length : Int)).toNat x = x := by simp
    simp only [et]
    have hA : ArgOk x t n := ⟨hx, by omega, by omega, by omega, by omega⟩
    have hA1 : ArgOk x (t + 1 + u) n := ⟨hx, by omega, by omega, by omega, by omega⟩
    have hA2 : ArgOk x t (n + 1 + v) := ⟨hx, by omega, by omega, by omega, by omega⟩
    have hxy : ∀ s ∈ x ++ y, svOk s = true := fun s hs => by
      rcases List.mem_append.1 hs with h | h
      · exact hx s h
      · exact hy s h
    have hA3 : ArgOk (x ++ y) t n := ⟨hxy, by omega, by omega, by omega, by omega⟩
    have m1 := label_mono hA1 hA (by omega) ha hb (by omega) (Int.le_refl n)
    have m2 := label_mono hA2 hA (by omega) ha hb (Int.le_refl t) (by omega)
    have m3 := label_more hA hA3 (by rw [List.length_append]; omega) ha hb
    generalize labelV x pa pb t n = B0 at *
    generalize labelV x pa pb (t + 1 + u) n = B1 at *
    generalize labelV x pa pb t (n + 1 + v) = B2 at *
    generalize labelV (x ++ y) pa pb t n = B3 at *
    refine fun _ => ⟨by omega, fun _ => ⟨ho, fun _ => ⟨p1, fun _ => ⟨p2, fun _ => ⟨p3, fun _ _ _ _ => ⟨by omega, ⟨p4, by omega, by omega⟩, fun _ => ⟨by omega, by omega, p5, fun _ => ⟨by omega, fun _ => ⟨fun _ => by omega, fun _ => p6, fun h => absurd m1 h, fun _ _ => ⟨fun _ => by omega, fun _ _ => ⟨⟨m1, m2⟩, m3⟩⟩⟩⟩⟩⟩⟩⟩⟩⟩⟩)
end Go.Proofs.Ytjeinbfnbcempaa

/- ForwardQueue: the plain law. -/
set_option linter.unusedSimpArgs false
set_option linter.unusedVariables false
set_option maxRecDepth 100000
set_option maxHeartbeats 4000000
namespace Go.Proofs.Ytjeinbfnbcempaa
open Go.Ev

/-- An itinerary takes no service twice, and none without room. -/
theorem goV_nodup {l : List Svc} {r0 n : Int} (hA : ArgOk l r0 n) : ∀ (xs : List Int) (b : Bool) (p : ByteArray) (t : Int) (q : ByteArray × Int), (∀ i ∈ xs, 0 ≤ i ∧ i < l.length) → goV l n b p t xs = some q → xs.Nodup ∧ ∀ i ∈ xs, t < (l.getD i.toNat sv0).2.2.2.2.1 ∧ 1 ≤ (l.getD i.toNat sv0).2.2.2.2.2
  | [], _, _, _, _, _, _ => ⟨List.nodup_nil, fun i h => by cases h⟩
  | k :: xs, b, p, t, q, hi, h => by
    rw [goV] at h
    by_cases hs : stepOk (l.getD k.toNat sv0) p (t + if b then 0 else n) = true
    · rw [if_pos hs] at h
      obtain ⟨h1, h2⟩ := goV_nodup hA xs _ _ _ q (fun i hi' => hi i (List.mem_cons_of_mem _ hi')) h
      unfold stepOk at hs
      simp only [Bool.and_eq_true, decide_eq_true_eq] at hs
      have hk := hi k List.mem_cons_self
      have hbd := svOk_bd (get_sv hA (i := k.toNat) (by omega)).1
      have hn0 := hA.n0
      have hlt : t < (l.getD k.toNat sv0).2.2.2.2.1 := by
        have := hs.2
        split at this <;> omega
      refine ⟨List.nodup_cons.2 ⟨fun hm => ?_, h1⟩, fun i hm => ?_⟩
      · have := (h2 k hm).1; omega
      · rcases List.mem_cons.1 hm with rfl | hm
        · exact ⟨hlt, hs.1.1⟩
        · have := h2 i hm
          exact ⟨by omega, this.2⟩
    · rw [if_neg hs] at h; cases h
/-- Fewer rooms. -/
def lessRooms (z y : List Svc) : Prop := z.length = y.length ∧ ∀ k, k < z.length → (z.getD k sv0).1 = (y.getD k sv0).1 ∧ (z.getD k sv0).2.1 = (y.getD k sv0).2.1 ∧ (z.getD k sv0).2.2.1 = (y.getD k sv0).2.2.1 ∧ (z.getD k sv0).2.2.2.1 = (y.getD k sv0).2.2.2.1 ∧ (z.getD k sv0).2.2.2.2.1 = (y.getD k sv0).2.2.2.2.1 ∧ (z.getD k sv0).2.2.2.2.2 ≤ (y.getD k sv0).2.2.2.2.2
theorem goV_rooms {z y : List Svc} {n : Int} (hzy : lessRooms z y) : ∀ (xs : List Int) (b : Bool) (p : ByteArray) (t : Int) (q : ByteArray × Int), (∀ i ∈ xs, 0 ≤ i ∧ i < z.length) → goV z n b p t xs = some q → goV y n b p t xs = some q
  | [], _, _, _, _, _, h => h
  | k :: xs, b, p, t, q, hi, h => by
    have hk := hi k List.mem_cons_self
    obtain ⟨_, e2, e3, e4, e5, e6⟩ := hzy.2 k.toNat (by omega)
    rw [goV] at h ⊢
    by_cases hs : stepOk (z.getD k.toNat sv0) p (t + if b then 0 else n) = true
    · rw [if_pos hs] at h
      have hs' : stepOk (y.getD k.toNat sv0) p (t + if b then 0 else n) = true := by
        unfold stepOk at hs ⊢
        simp only [Bool.and_eq_true, decide_eq_true_eq] at hs ⊢
        rw [← e2, ← e4]
        exact ⟨⟨by omega, hs.1.2⟩, hs.2⟩
      rw [if_pos hs', ← e3, ← e5]
      exact goV_rooms hzy xs _ _ _ q (fun i hi' => hi i (List.mem_cons_of_mem _ hi')) h
    · rw [if_neg hs] at h; cases h
theorem labelV_rooms {z y : List Svc} {f b : ByteArray} {r n : Int} (hz : ArgOk z r n) (hy : ArgOk y r n) (hzy : lessRooms z y) (hl : y.length ≤ 40) (hf : portOk f = true) (hb : portOk b = true) : labelV y f b r n ≤ labelV z f b r n := by
  have hlz : z.length ≤ 40 := by rw [hzy.1]; exact hl
  rcases labelV_way hz hlz hf hb with h | ⟨ws, h1, h2⟩
  · rw [h]; exact labelV_le hy hl hf hb
  · exact le_labelV hy hl hf hb (fun i hi => by have := h1 i hi; rw [hzy.1] at this; exact this) (goV_rooms hzy ws _ _ _ _ h1 h2)
/-- What is booked. -/
structure Bkd (x y : List Svc) (c : List Int) : Prop where
  ly : y.length = x.length
  lc : c.length = x.length
  at_ : ∀ k, k < x.length → y.getD k sv0 = ((x.getD k sv0).1, (x.getD k sv0).2.1, (x.getD k sv0).2.2.1, (x.getD k sv0).2.2.2.1, (x.getD k sv0).2.2.2.2.1, (x.getD k sv0).2.2.2.2.2 - c.getD k 0) ∧ 0 ≤ c.getD k 0 ∧ c.getD k 0 ≤ (x.getD k sv0).2.2.2.2.2
def bumpV : List Int → List Int → List Int
  | c, [] => c
  | c, i :: is => bumpV (c.set i.toNat (c.getD i.toNat 0 + 1)) is
theorem Bkd.start {x : List Svc} (h : roomy x) : Bkd x x (List.replicate x.length 0) where
  ly := rfl
  lc := List.length_replicate
  at_ k hk := by
    have e : (List.replicate x.length (0 : Int)).getD k 0 = 0 := by simp [List.getD_eq_getElem?_getD, hk]
    rw [e]
    have := h k hk
    exact ⟨by simp, Int.le_refl _, this.1⟩
theorem Bkd.step {x y : List Svc} {c : List Int} (h : Bkd x y c) {i : Nat} (hi : i < x.length) (h1 : 1 ≤ (y.getD i sv0).2.2.2.2.2) : Bkd x (y.set i (lessR (y.getD i sv0))) (c.set i (c.getD i 0 + 1)) where
  ly := by rw [List.length_set]; exact h.ly
  lc := by rw [List.length_set]; exact h.lc
  at_ k hk := by
    obtain ⟨g1, g2, g3⟩ := h.at_ k hk
    by_cases e : i = k
    · subst e
      have e1 : (y.set i (lessR (y.getD i sv0))).getD i sv0 = lessR (y.getD i sv0) := by simp [h.ly, hi]
      have e2 : (c.set i (c.getD i 0 + 1)).getD i 0 = c.getD i 0 + 1 := by simp [h.lc, hi]
      rw [e1, e2]
      rw [g1] at h1 ⊢
      dsimp only at h1
      unfold lessR
      dsimp only
      refine ⟨?_, by omega, by omega⟩
      rw [show (x.getD i sv0).2.2.2.2.2 - c.getD i 0 - 1 = (x.getD i sv0).2.2.2.2.2 - (c.getD i 0 + 1) by omega]
    · have e1 : (y.set i (lessR (y.getD i sv0))).getD k sv0 = y.getD k sv0 := by rw [List.getD_eq_getElem?_getD, List.getElem?_set_ne e, ← List.getD_eq_getElem?_getD]
      have e2 : (c.set i (c.getD i 0 + 1)).getD k 0 = c.getD k 0 := by rw [List.getD_eq_getElem?_getD, List.getElem?_set_ne e, ← List.getD_eq_getElem?_getD]
      rw [e1, e2]
      exact ⟨g1, g2, g3⟩
theorem Bkd.seats {x : List Svc} : ∀ (xs : List Int) (y : List Svc) (c : List Int), Bkd x y c → xs.Nodup → (∀ i ∈ xs, (0 ≤ i ∧ i < x.length) ∧ 1 ≤ (y.getD i.toNat sv0).2.2.2.2.2) → ∃ z, seatV y xs = some z ∧ Bkd x z (bumpV c xs)
  | [], y, c, h, _, _ => ⟨y, rfl, h⟩
  | i :: is, y, c, h, hn, hr => by
    rw [List.nodup_cons] at hn
    obtain ⟨⟨hi0, hi1⟩, hr1⟩ := hr i List.mem_cons_self
    have hst := h.step (i := i.toNat) (by omega) hr1
    obtain ⟨z, h1, h2⟩ := Bkd.seats is _ _ hst hn.2 fun j hj => by
      obtain ⟨⟨hj0, hj1⟩, hj2⟩ := hr j (List.mem_cons_of_mem _ hj)
      refine ⟨⟨hj0, hj1⟩, ?_⟩
      have hne : i.toNat ≠ j.toNat := fun e => hn.1 (by rw [show i = j by omega]; exact hj)
      rw [List.getD_eq_getElem?_getD, List.getElem?_set_ne hne, ← List.getD_eq_getElem?_getD]
      exact hj2
    refine ⟨z, ?_, h2⟩
    rw [seatV, if_neg (by omega)]
    exact h1
theorem Bkd.ok {x y : List Svc} {c : List Int} (h : Bkd x y c) (hx : ∀ s ∈ x, svOk s = true) : ∀ s ∈ y, svOk s = true := by
  intro s hs
  obtain ⟨k, hk, rfl⟩ := List.getElem_of_mem hs
  have hk' : k < x.length := by rw [← h.ly]; exact hk
  obtain ⟨g1, g2, g3⟩ := h.at_ k hk'
  have e : y.getD k sv0 = y[k] := by simp [hk]
  have e2 : x.getD k sv0 = x[k] := by simp [hk']
  have h1 := hx x[k] (List.getElem_mem hk')
  rw [← e, g1]
  rw [← e2] at h1
  have hb := svOk_bd h1
  unfold svOk inV at h1 ⊢
  simp only [Bool.and_eq_true, decide_eq_true_eq] at h1 ⊢
  refine ⟨h1.1, ?_, ?_⟩ <;> omega
theorem bump_mono : ∀ (xs c : List Int) (k : Nat), c.getD k 0 ≤ (bumpV c xs).getD k 0
  | [], c, k => Int.le_refl _
  | i :: is, c, k => by
    refine Int.le_trans ?_ (bump_mono is _ k)
    rw [List.getD_eq_getElem?_getD, List.getD_eq_getElem?_getD, List.getElem?_set]
    split
    · rename_i e
      subst e
      split
      · simp only [Option.getD_some, List.getD_eq_getElem?_getD]; omega
      · rename_i h
        rw [List.getElem?_eq_none (by omega)]; simp
    · exact Int.le_refl _
/-- What becomes of a bag. -/
theorem queue_step {x y : List Svc} {c : List Int} {a b : ByteArray} {t n last : Int} (hx : ∀ s ∈ x, svOk s = true) (hl : x.length ≤ 40) (ht : ArgOk x t n) (ha : portOk a = true) (hb : portOk b = true) (h : Bkd x y c) (hlast : last ≤ labelV y a b t n) :
    (routeV y a b t n).2 = 11 ∨ ((routeV y a b t n).2 = 0 ∧ ∃ z, bookV y (routeV y a b t n).1.1 = (z, 0) ∧ Bkd x z (bumpV c (routeV y a b t n).1.1) ∧ insV (routeV y a b t n).1.1 x.length = (routeV y a b t n).1.1 ∧ (∀ i ∈ (routeV y a b t n).1.1, 0 ≤ i ∧ i < x.length) ∧
      (routeV y a b t n).1.1.length ≤ 1048577 ∧ labelV y a b t n ≤ 1048576 ∧ labelV y a b t n ≤ labelV z a b t n) := by
  have hyo := h.ok hx
  have hly : y.length ≤ 40 := by rw [h.ly]; exact hl
  have hA : ArgOk y t n := ⟨hyo, ht.r0, ht.r1, ht.n0, ht.n1⟩
  have hz := argsV_zero hA hly ha hb
  have hK := labels_ok hA (f := a)
  cases hv : mgetS (labelsV y a t n) b with
  | none =>
    left
    unfold routeV
    rw [if_neg (by rw [hz]; simp), if_pos (by rw [hv]; rfl)]
  | some v =>
    right
    have e2 : tmOf (labelsV y a t n) b = v.1 := by unfold tmOf; rw [hv]; rfl
    have e : routeV y a b t n = (((wayOf y (labelsV y a t n) b).reverse, lblsV (labelsV y a t n)), 0) := by
      unfold routeV; rw [if_neg (by rw [hz]; simp), if_neg (by rw [hv]; simp)]; rfl
    obtain ⟨h1, h2⟩ := way_goes hA hK _ b (Nat.lt_succ_self _) (by rw [hv]; rfl)
    have hlow := hK.base.low b v hv
    have h3 : ∀ i ∈ (wayOf y (labelsV y a t n) b).reverse, 0 ≤ i ∧ i < y.length := fun i hi => h2 i (List.mem_reverse.1 hi)
    have hlen : (wayOf y (labelsV y a t n) b).length ≤ 1048577 := by
      have := wayV_len y (labelsV y a t n) ((tmOf (labelsV y a t n) b).toNat + 1) b
      unfold wayOf
      omega
    obtain ⟨g1, g2⟩ := goV_nodup hA _ _ _ _ _ h3 h1
    have hlab : labelV y a b t n = v.1 := by rw [labelV_eq hA hly ha hb, hv]
    rw [e]
    dsimp only
    obtain ⟨z, q1, q2⟩ := Bkd.seats _ y c h g1 fun i hi => ⟨by have := h3 i hi; rw [h.ly] at this; exact this, (g2 i hi).2⟩
    refine ⟨rfl, z, ?_, q2, ?_, fun i hi => by have := h3 i hi; rw [h.ly] at this; exact this, by simpa using hlen, by rw [hlab]; exact hlow.2, ?_⟩
    · unfold bookV
      have hval : valL y = 0 := by unfold valL; rw [if_neg (by omega), if_pos (List.all_eq_true.2 hyo)]
      have hind : indV y (wayOf y (labelsV y a t n) b).reverse = true := List.all_eq_true.2 fun i hi => by
        have := h3 i hi
        unfold inV
        simp only [Bool.and_eq_true, decide_eq_true_eq]; omega
      rw [if_neg (by rw [hval]; simp), if_neg (by rw [hind]; simp), if_neg (fun k => k g1), q1]
    · unfold insV
      refine List.filter_eq_self.2 fun i hi => ?_
      have := h3 i hi
      rw [h.ly] at this
      simp only [Bool.and_eq_true, decide_eq_true_eq]
      exact this
    · have hzo := q2.ok hx
      have hAz : ArgOk z t n := ⟨hzo, ht.r0, ht.r1, ht.n0, ht.n1⟩
      refine labelV_rooms hAz hA ⟨by rw [q2.ly, h.ly], fun k hk => ?_⟩ hly ha hb
      rw [q2.ly] at hk
      obtain ⟨u1, _, _⟩ := q2.at_ k hk
      obtain ⟨w1, _, _⟩ := h.at_ k hk
      rw [u1, w1]
      refine ⟨rfl, rfl, rfl, rfl, rfl, ?_⟩
      have := bump_mono (wayOf y (labelsV y a t n) b).reverse c k
      dsimp only
      omega
end Go.Proofs.Ytjeinbfnbcempaa
