/- Operations: about each plate, placements; valid ones, their order. -/
import Derived.Test.YtjhoidgpecgfoaaDpKD
import Derived.Test.YtjhoidgpecgfoaaDpKOToKC
set_option linter.unusedSimpArgs false
set_option linter.unusedVariables false
set_option maxRecDepth 100000
set_option maxHeartbeats 8000000
namespace Go.Proofs.Ytjhoidgpecgfoaa
open Go.Ev

/-- The plates, in the order in which they come; the operations about each. -/
def abK (l : List Opn) : List Plt := l.foldl (fun ks o => kput (kt := yPL) o.plate ks) []
theorem pl_eq (a b : Plt) : keyEq yPL a b = decide (a = b) := by
 obtain ⟨a1, a2, a3⟩ := a
 obtain ⟨b1, b2, b3⟩ := b
 simp only [keyEq, Prod.mk.injEq]
 rw [Bool.eq_iff_iff]
 simp only [Bool.and_eq_true, decide_eq_true_eq]
theorem kidx_lt {k : Plt} : ∀ {ks : List Plt}, kidx (kt := yPL) k ks < ks.length ↔ k ∈ ks
 | [] => by simp [kidx]
 | a :: l => by
   unfold kidx
   rw [pl_eq]
   by_cases h : k = a
   · rw [if_pos (by simpa using h)]; simp [h]
   · rw [if_neg (by simpa using h), List.length_cons, Nat.succ_lt_succ_iff, kidx_lt, List.mem_cons]
     exact ⟨.inr, fun q => q.resolve_left h⟩
theorem kput_mem {k a : Plt} {ks : List Plt} : a ∈ kput (kt := yPL) k ks ↔ a = k ∨ a ∈ ks := by
 unfold kput
 split
 · rename_i h
   have := kidx_lt.1 h
   exact ⟨.inr, fun q => q.elim (fun e => e ▸ this) id⟩
 · rw [List.mem_append, List.mem_singleton]
   exact ⟨fun q => q.elim .inr .inl, fun q => q.elim .inr .inl⟩
theorem abK_mem (k : Plt) : ∀ l : List Opn, k ∈ abK l ↔ ∃ o ∈ l, o.plate = k := by
 intro l
 have key : ∀ (l : List Opn) (acc : List Plt), k ∈ l.foldl (fun ks o => kput (kt := yPL) o.plate ks) acc ↔ k ∈ acc ∨ ∃ o ∈ l, o.plate = k := by
  intro l
  induction l with
  | nil => intro acc; simp
  | cons x l ih =>
    intro acc
    rw [List.foldl_cons, ih, kput_mem]
    constructor
    · rintro ((h | h) | ⟨o, ho, h⟩)
      · exact .inr ⟨x, by simp, h.symm⟩
      · exact .inl h
      · exact .inr ⟨o, by simp [ho], h⟩
    · rintro (h | ⟨o, ho, h⟩)
      · exact .inl (.inr h)
      · rcases List.mem_cons.1 ho with rfl | ho
        · exact .inl (.inl h.symm)
        · exact .inr ⟨o, ho, h⟩
 have := key l []
 rw [show abK l = l.foldl (fun ks o => kput (kt := yPL) o.plate ks) [] from rfl, this]
 exact ⟨fun h => h.resolve_left (by simp), .inr⟩
theorem kput_nodup {k : Plt} {ks : List Plt} (h : ks.Nodup) : (kput (kt := yPL) k ks).Nodup := by
 unfold kput
 split
 · exact h
 · rename_i q
   have hn : ¬ k ∈ ks := fun e => q (kidx_lt.2 e)
   rw [List.nodup_append]
   exact ⟨h, by simp, fun a ha b hb e => hn (by rw [List.mem_singleton] at hb; rw [← hb, ← e]; exact ha)⟩
theorem abK_nodup (l : List Opn) : (abK l).Nodup := by
 have key : ∀ (l : List Opn) (acc : List Plt), acc.Nodup → (l.foldl (fun ks o => kput (kt := yPL) o.plate ks) acc).Nodup := by
  intro l
  induction l with
  | nil => intro acc h; exact h
  | cons x l ih => intro acc h; exact ih _ (kput_nodup h)
 exact key l [] List.nodup_nil
theorem kput_len {k : Plt} {ks : List Plt} : (kput (kt := yPL) k ks).length ≤ ks.length + 1 := by
 unfold kput; split <;> simp
theorem abK_len (l : List Opn) : (abK l).length ≤ l.length := by
 have key : ∀ (l : List Opn) (acc : List Plt), (l.foldl (fun ks o => kput (kt := yPL) o.plate ks) acc).length ≤ acc.length + l.length := by
  intro l
  induction l with
  | nil => intro acc; simp
  | cons x l ih =>
    intro acc
    have h1 := ih (kput (kt := yPL) x.plate acc)
    have h2 := kput_len (k := x.plate) (ks := acc)
    rw [List.foldl_cons, List.length_cons]
    omega
 have := key l []
 simpa [abK] using this
/-- A list without the elements that are as the one before. -/
def ddU (xs : List Int) : Nat → List Int
 | 0 => []
 | i + 1 => ddU xs i ++ if i ≠ 0 ∧ xs.getD i 0 = xs.getD (i - 1) 0 then [] else [xs.getD i 0]
def compV (xs : List Int) : List Int := ddU xs xs.length
theorem ddU_len (xs : List Int) : ∀ i, (ddU xs i).length ≤ i
 | 0 => Nat.le_refl _
 | i + 1 => by
   have := ddU_len xs i
   rw [ddU, List.length_append]
   split <;> simp <;> omega
/-- The loads at the end, the last one first. -/
def trail (l : List Opn) : List Int := (l.reverse.takeWhile (fun o => decide (o.kind = 1))).map Opn.box
abbrev Plc := Pce × Int × List Int
def o0 : Opn := (0, 0, 0, 0, 0, (0, 0, 0), 0, 0)
def placeV (l : List Opn) : Plc := ((l.getD (l.length - 1) o0).2.2.2.2.2, if (l.getD (l.length - 1) o0).kind = 1 then (l.getD (l.length - 1) o0).box else 0, compV (sortI (trail l)))
def TrN (l : List Opn) (n : Nat) : Prop := n ≤ l.length ∧ ∀ i, i < n → (l.reverse.getD i o0).kind = 1
theorem TrN.zero (l : List Opn) : TrN l 0 := ⟨Nat.zero_le _, fun i h => by omega⟩
theorem TrN.tw : ∀ {r : List Opn} {n : Nat}, n ≤ r.length → (∀ i, i < n → (r.getD i o0).kind = 1) → (n < r.length → (r.getD n o0).kind ≠ 1) → r.takeWhile (fun o => decide (o.kind = 1)) = r.take n
 | [], n, h, _, _ => by simp at h; subst h; rfl
 | a :: r, 0, _, _, h => by
   have : a.kind ≠ 1 := by simpa using h (by simp)
   simp [this]
 | a :: r, n + 1, h, k, q => by
   have h1 : a.kind = 1 := by simpa using k 0 (by omega)
   have := TrN.tw (r := r) (n := n) (by simpa using h) (fun i hi => by simpa using k (i + 1) (by omega)) (fun hi => by simpa using q (by simpa using hi))
   simp [h1, this]
theorem TrN.trail {l : List Opn} {n : Nat} (h : TrN l n) (q : n < l.length → (l.reverse.getD n o0).kind ≠ 1) : trail l = (l.reverse.take n).map Opn.box := by
 unfold Proofs.Ytjhoidgpecgfoaa.trail
 rw [TrN.tw (by simpa using h.1) h.2 (fun hi => q (by simpa using hi))]
theorem sortI_len (l : List Int) : (sortI l).length = l.length := (List.mergeSort_perm l _).length_eq
theorem compV_le (l : List Int) : (compV l).length ≤ l.length := ddU_len l _
def con35 : Con := { ps := [.d true yOP], rs := [.d false .bool], pre := fun _ => True, out := fun (x : Opn × Unit) => (okOp x.1, ()), nw := id }
theorem c35 : CtrOk Try.prog 35 con35.ctr :=
 con_sound (G := ⟨[(51, con51.ctr)], [], [], []⟩) tab_ok (EnvOk.cons c51 has51 EnvOk.nil) rfl Try.func35 rfl con35 7 (by kernel_rfl) (by decide) (by decide) rfl (by decide) rfl (by
  rintro ⟨⟨(a : Int), (b : Int), (c : Int), (d : Int), (e : Int), ⟨(f1 : Int), (f2 : Int), (f3 : Int)⟩, (f4 : Int), (f5 : Int)⟩, _⟩ hpre hwf X hT hG hk hK
  (simp -implicitDefEqProofs only [go_sem, Prod.eta, Option.isSome_none, Option.isSome_some, Int.toNat_zero, Nat.reduceAdd, Nat.reduceMul, Nat.reduceSub, Nat.reduceEqDiff, Nat.reduceLT, Nat.reduceLeDiff, Nat.reduceShiftRight, Nat.reduceMod, Nat.reduceBEq, reduceCtorEq, reduceIte, reduceDIte, Int.reduceNeg, Bool.not_eq_true', Bool.not_eq_false', Bool.or_eq_true, Bool.or_eq_false_iff, Bool.and_eq_true, Bool.and_eq_false_iff, decide_eq_true_eq, decide_eq_false_iff_not, Classical.not_not, not_or, maxLen, con35, con51, hT, hG, hk, hK, Try.results35] at hwf ⊢); (try simp (disch := decide +kernel) only [drawn, true_and, and_true])
  unfold okOp inV
  dsimp only
  refine ⟨fun h => ⟨h, fun h2 => ⟨h, h2⟩⟩, ?_⟩
  generalize okPc ((f1, f2, f3), f4, f5) = q
  rw [Bool.eq_iff_iff]
  cases q <;> simp only [Bool.and_eq_true, Bool.or_eq_true, decide_eq_true_eq, Bool.false_eq_true, and_false, and_true] <;> (try omega))
def bfV (a b : Opn) : Bool := decide (a.1 < b.1 ∨ a.1 = b.1 ∧ (a.2.1 < b.2.1 ∨ a.2.1 = b.2.1 ∧ a.2.2.1 < b.2.2.1))
def con36 : Con := { ps := [.d true yOP, .d true yOP], rs := [.d false .bool], pre := fun _ => True, out := fun (x : Opn × Opn × Unit) => (bfV x.1 x.2.1, ()), nw := id }
theorem c36 : CtrOk Try.prog 36 con36.ctr :=
 con_sound (G := ⟨[], [], [], []⟩) tab_ok EnvOk.nil rfl Try.func36 rfl con36 524831 (by kernel_rfl) (by decide) (by decide) rfl (by decide) rfl (by
  rintro ⟨⟨(a : Int), (b : Int), (c : Int), (d : Int), (e : Int), ⟨(f1 : Int), (f2 : Int), (f3 : Int)⟩, (f4 : Int), (f5 : Int)⟩, ⟨(a' : Int), (b' : Int), (c' : Int), (d' : Int), (e' : Int), ⟨(f1' : Int), (f2' : Int), (f3' : Int)⟩, (f4' : Int), (f5' : Int)⟩, _⟩ hpre hwf X hT hG hk hK
  (simp -implicitDefEqProofs only [go_sem, Prod.eta, Option.isSome_none, Option.isSome_some, Int.toNat_zero, Nat.reduceAdd, Nat.reduceMul, Nat.reduceSub, Nat.reduceEqDiff, Nat.reduceLT, Nat.reduceLeDiff, Nat.reduceShiftRight, Nat.reduceMod, Nat.reduceBEq, reduceCtorEq, reduceIte, reduceDIte, Int.reduceNeg, Bool.not_eq_true', Bool.not_eq_false', Bool.or_eq_true, Bool.or_eq_false_iff, Bool.and_eq_true, Bool.and_eq_false_iff, decide_eq_true_eq, decide_eq_false_iff_not, Classical.not_not, not_or, maxLen, con36, hT, hG, hk, hK, Try.results36] at hwf ⊢); (try simp (disch := decide +kernel) only [drawn, true_and, and_true])
  unfold bfV
  (repeat' (with_reducible (first | refine And.intro ?_ ?_ | intro _))) <;> (try (first | with_reducible (first | done | assumption | omega | contradiction) | decide))
  all_goals (dsimp only; rw [decide_eq_decide]; omega))
/-- What is wrong with the operation at a place. -/
def stepErr (l : List Opn) (i : Nat) : Int :=
 if okOp (l.getD i o0) = false then 1 else if 0 < i ∧ bfV (l.getD (i - 1) o0) (l.getD i o0) = false then 9
 else if ∃ k, k < i ∧ (l.getD k o0).2.1 = (l.getD i o0).2.1 ∧ (l.getD i o0).2.2.1 ≤ (l.getD k o0).2.2.1 then 5 else 0
def valV (l : List Opn) : Int := if 360 < l.length then 2 else (((List.range l.length).map (stepErr l)).find? (fun e => decide (e ≠ 0))).getD 0
theorem valV_err {l : List Opn} {i : Nat} (hl : ¬ 360 < l.length) (h : ∀ k, k < i → stepErr l k = 0) (hi : i < l.length) (he : stepErr l i ≠ 0) : valV l = stepErr l i := by
 unfold valV
 rw [if_neg hl]
 have e0 : List.range l.length = List.range i ++ (i :: (List.range l.length).drop (i + 1)) :=
  (List.take_append_drop i (List.range l.length)).symm.trans (by rw [List.take_range, Nat.min_eq_left (by omega), List.drop_eq_getElem_cons (i := i) (by simpa using hi), List.getElem_range])
 obtain ⟨D, hD⟩ : ∃ D, (List.range l.length).drop (i + 1) = D := ⟨_, rfl⟩
 rw [hD] at e0
 have e : (List.range l.length).map (stepErr l) = (List.range i).map (stepErr l) ++ (stepErr l i :: D.map (stepErr l)) := by
  rw [e0, List.map_append, List.map_cons]
 rw [e, List.find?_append]
 have e2 : ((List.range i).map (stepErr l)).find? (fun e => decide (e ≠ 0)) = none := by
  rw [List.find?_eq_none]
  intro x hx
  obtain ⟨k, hk, rfl⟩ := List.mem_map.1 hx
  rw [h k (List.mem_range.1 hk)]
  simp
 rw [e2]
 simp [he]
theorem valV_ok {l : List Opn} (hl : ¬ 360 < l.length) (h : ∀ k, k < l.length → stepErr l k = 0) : valV l = 0 := by
 unfold valV
 rw [if_neg hl]
 have e2 : ((List.range l.length).map (stepErr l)).find? (fun e => decide (e ≠ 0)) = none := by
  rw [List.find?_eq_none]
  intro x hx
  obtain ⟨k, hk, rfl⟩ := List.mem_map.1 hx
  rw [h k (List.mem_range.1 hk)]
  simp
 rw [e2]; rfl
theorem stepErr_zero {l : List Opn} {i : Nat} (h : stepErr l i = 0) : okOp (l.getD i o0) = true ∧ (0 < i → bfV (l.getD (i - 1) o0) (l.getD i o0) = true) ∧ ∀ k, k < i → (l.getD k o0).2.1 = (l.getD i o0).2.1 → (l.getD k o0).2.2.1 < (l.getD i o0).2.2.1 := by
 unfold stepErr at h
 split at h
 · omega
 · rename_i h1
   split at h
   · omega
   · rename_i h2
     split at h
     · omega
     · rename_i h3
       refine ⟨by simpa using h1, fun hi => ?_, fun k hk hd => ?_⟩
       · cases hb : bfV (l.getD (i - 1) o0) (l.getD i o0) with
         | true => rfl
         | false => exact absurd ⟨hi, hb⟩ h2
       · exact Int.not_le.1 fun hle => h3 ⟨k, hk, hd, hle⟩
theorem okOp_bd {o : Opn} (h : okOp o = true) : (0 ≤ o.1 ∧ o.1 ≤ 1048576) ∧ (1 ≤ o.2.1 ∧ o.2.1 ≤ 6) ∧ (1 ≤ o.2.2.1 ∧ o.2.2.1 ≤ 1048576) := by
 unfold okOp inV at h
 simp only [Bool.and_eq_true, decide_eq_true_eq] at h
 omega
theorem stepErr_1 {l : List Opn} {i : Nat} (h : okOp (l.getD i o0) = false) : stepErr l i = 1 := by unfold stepErr; rw [if_pos h]
theorem stepErr_9 {l : List Opn} {i : Nat} (h : okOp (l.getD i o0) = true) (hi : 0 < i) (hb : bfV (l.getD (i - 1) o0) (l.getD i o0) = false) : stepErr l i = 9 := by
 unfold stepErr; rw [if_neg (by rw [h]; exact fun q => by cases q), if_pos ⟨hi, hb⟩]
theorem stepErr_5 {l : List Opn} {i : Nat} (h : okOp (l.getD i o0) = true) (hb : 0 < i → bfV (l.getD (i - 1) o0) (l.getD i o0) = true) (he : ∃ k, k < i ∧ (l.getD k o0).2.1 = (l.getD i o0).2.1 ∧ (l.getD i o0).2.2.1 ≤ (l.getD k o0).2.2.1) : stepErr l i = 5 := by
 unfold stepErr; rw [if_neg (by rw [h]; exact fun q => by cases q), if_neg (fun q => by rw [hb q.1] at q; cases q.2), if_pos he]
theorem stepErr_0 {l : List Opn} {i : Nat} (h : okOp (l.getD i o0) = true) (hb : 0 < i → bfV (l.getD (i - 1) o0) (l.getD i o0) = true) (he : ¬ ∃ k, k < i ∧ (l.getD k o0).2.1 = (l.getD i o0).2.1 ∧ (l.getD i o0).2.2.1 ≤ (l.getD k o0).2.2.1) : stepErr l i = 0 := by
 unfold stepErr; rw [if_neg (by rw [h]; exact fun q => by cases q), if_neg (fun q => by rw [hb q.1] at q; cases q.2), if_neg he]
def con22 : Con := { ps := [.d false (.sl yOP)], rs := [.d false (.int .i64)], pre := fun _ => True, out := fun (x : List Opn × Unit) => (valV x.1, ()), nw := id }
theorem c22 : CtrOk Try.prog 22 con22.ctr :=
 con_sound (G := ⟨[(36, con36.ctr), (35, con35.ctr)], [], [], []⟩) tab_ok (EnvOk.cons c36 has36 (EnvOk.cons c35 has35 EnvOk.nil)) rfl Try.func22 rfl con22 9223372191474124957 (by kernel_rfl) (by decide) (by decide) rfl (by decide) rfl (by
  rintro ⟨(l : List Opn), _⟩ hpre hwf X hT hG hk hK
  (simp -implicitDefEqProofs only [go_sem, Prod.eta, Option.isSome_none, Option.isSome_some, Int.toNat_zero, Nat.reduceAdd, Nat.reduceMul, Nat.reduceSub, Nat.reduceEqDiff, Nat.reduceLT, Nat.reduceLeDiff, Nat.reduceShiftRight, Nat.reduceMod, Nat.reduceBEq, reduceCtorEq, reduceIte, reduceDIte, Int.reduceNeg, Bool.not_eq_true', Bool.not_eq_false', Bool.or_eq_true, Bool.or_eq_false_iff, Bool.and_eq_true, Bool.and_eq_false_iff, decide_eq_true_eq, decide_eq_false_iff_not, Classical.not_not, not_or, maxLen, con22, con36, con35, hT, hG, hk, hK, Try.results22] at hwf ⊢); (try simp (disch := decide +kernel) only [drawn, true_and, and_true])
  refine fun _ => ⟨fun h => ?_, fun h => ?_⟩
  · unfold valV; rw [if_pos (by omega)]
  · have hl : ¬ 360 < l.length := by omega
    refine evk_loop ⟨{ i : Nat // i ≤ l.length ∧ ∀ k, k < i → stepErr l k = 0 }, 1000, fun i => [(0, .one (.sl yOP l false)), (2, .one (.int .i64 0)), (3, .one (.int .i64 i.1))], fun i => [], fun i => l.length - i.1⟩ ⟨0, by omega, fun k hk => by omega⟩ ?_ ?_
    · simp only [go_sem, Prod.eta, Option.isSome_none, Option.isSome_some, Int.toNat_zero, Nat.reduceAdd, Nat.reduceMul, Nat.reduceSub, Nat.reduceEqDiff, Nat.reduceLT, Nat.reduceLeDiff, Nat.reduceShiftRight, Nat.reduceMod, Nat.reduceBEq, reduceCtorEq, reduceIte, reduceDIte, Int.reduceNeg]
      rfl
    · rintro ⟨i, (hi : i ≤ l.length), (hz : ∀ k, k < i → stepErr l k = 0)⟩
      have he := valV_err (i := i) hl hz
      (simp -implicitDefEqProofs only [go_sem, Prod.eta, Option.isSome_none, Option.isSome_some, Int.toNat_zero, Nat.reduceAdd, Nat.reduceMul, Nat.reduceSub, Nat.reduceEqDiff, Nat.reduceLT, Nat.reduceLeDiff, Nat.reduceShiftRight, Nat.reduceMod, Nat.reduceBEq, reduceCtorEq, reduceIte, reduceDIte, Int.reduceNeg, Bool.not_eq_true', Bool.not_eq_false', Bool.or_eq_true, Bool.or_eq_false_iff, Bool.and_eq_true, Bool.and_eq_false_iff, decide_eq_true_eq, decide_eq_false_iff_not, Classical.not_not, not_or, maxLen, con22, con36, con35, hT, hG, hk, hK, Try.results22]); (try simp (disch := decide +kernel) only [drawn, true_and, and_true])
      obtain ⟨o, ho⟩ : ∃ o, l.getD i o0 = o := ⟨_, rfl⟩
      obtain ⟨p, hp⟩ : ∃ p, l.getD (i - 1) o0 = p := ⟨_, rfl⟩
      have eo : l.getD (i : Int).toNat (0, 0, 0, 0, 0, (0, 0, 0), 0, 0) = o := ho
      have ep : l.getD ((i : Int) - 1).toNat (0, 0, 0, 0, 0, (0, 0, 0), 0, 0) = p := by rw [show ((i : Int) - 1).toNat = i - 1 by omega]; exact hp
      rw [eo, ep]
      refine fun _ => ⟨fun hlt => ⟨⟨by omega, by omega⟩, fun _ _ => ⟨fun h1 => ?_, fun h1 => ?_⟩⟩, fun hge => ?_⟩
      · have hs : stepErr l i = 1 := stepErr_1 (ho ▸ h1)
        rw [he (by omega) (by omega), hs]
      · have hbd := okOp_bd h1
        refine ⟨fun _ => ⟨by omega, by omega⟩, fun _ => ⟨by omega, by omega⟩, fun _ _ => ⟨fun _ => ⟨by omega, by omega⟩, fun _ _ => ⟨fun hb => ?_, fun hb => ?_⟩⟩⟩
        · have hs : stepErr l i = 9 := stepErr_9 (ho ▸ h1) (by omega) (by rw [hp, ho]; exact hb.2)
          rw [he (by omega) (by omega), hs]
        · have hb' : 0 < i → bfV (l.getD (i - 1) o0) (l.getD i o0) = true := fun hi0 => by
           rw [hp, ho]
           rcases hb with hb | hb
           · omega
           · exact hb
          refine evk_loop ⟨{ k : Nat // k ≤ i ∧ ∀ q, q < k → ¬ ((l.getD q o0).2.1 = o.2.1 ∧ o.2.2.1 ≤ (l.getD q o0).2.2.1) }, 2000, fun k => [(0, .one (.sl yOP l false)), (2, .one (.int .i64 0)), (3, .one (.int .i64 i)), (4, .one (.int .i64 k.1))], fun k => [], fun k => i - k.1⟩ ⟨0, by omega, fun k hk => by omega⟩ ?_ ?_
          · simp only [go_sem, Prod.eta, Option.isSome_none, Option.isSome_some, Int.toNat_zero, Nat.reduceAdd, Nat.reduceMul, Nat.reduceSub, Nat.reduceEqDiff, Nat.reduceLT, Nat.reduceLeDiff, Nat.reduceShiftRight, Nat.reduceMod, Nat.reduceBEq, reduceCtorEq, reduceIte, reduceDIte, Int.reduceNeg]
            rfl
          · rintro ⟨k, (hki : k ≤ i), (hkz : ∀ q, q < k → ¬ ((l.getD q o0).2.1 = o.2.1 ∧ o.2.2.1 ≤ (l.getD q o0).2.2.1))⟩
            (simp -implicitDefEqProofs only [go_sem, Prod.eta, Option.isSome_none, Option.isSome_some, Int.toNat_zero, Nat.reduceAdd, Nat.reduceMul, Nat.reduceSub, Nat.reduceEqDiff, Nat.reduceLT, Nat.reduceLeDiff, Nat.reduceShiftRight, Nat.reduceMod, Nat.reduceBEq, reduceCtorEq, reduceIte, reduceDIte, Int.reduceNeg, Bool.not_eq_true', Bool.not_eq_false', Bool.or_eq_true, Bool.or_eq_false_iff, Bool.and_eq_true, Bool.and_eq_false_iff, decide_eq_true_eq, decide_eq_false_iff_not, Classical.not_not, not_or, maxLen, con22, con36, con35, hT, hG, hk, hK, Try.results22]); (try simp (disch := decide +kernel) only [drawn, true_and, and_true])
            obtain ⟨u, hu⟩ : ∃ u, l.getD k o0 = u := ⟨_, rfl⟩
            have eu : l.getD (k : Int).toNat (0, 0, 0, 0, 0, (0, 0, 0), 0, 0) = u := hu
            rw [eo, eu]
            (repeat' (with_reducible (first | refine And.intro ?_ ?_ | intro _))) <;> (try (first | with_reducible (first | done | assumption | omega | contradiction) | decide))
            · have hc : u.2.1 = o.2.1 ∧ o.2.2.1 ≤ u.2.2.1 := by assumption
              have hs : stepErr l i = 5 := stepErr_5 (ho ▸ h1) hb' ⟨k, by omega, by rw [hu, ho]; exact hc⟩
              rw [he (by omega) (by omega), hs]
            · have hc : ¬ u.2.1 = o.2.1 ∨ ¬ o.2.2.1 ≤ u.2.2.1 := by assumption
              refine fin_lp ⟨k + 1, by omega, fun q hq => ?_⟩ ?_ (by dsimp only; omega)
              · by_cases e : q = k
                · subst e; rw [hu]; exact fun hh => hc.elim (fun x => x hh.1) (fun x => x hh.2)
                · exact hkz q (by omega)
              · simp only [go_sem, Prod.eta, Option.isSome_none, Option.isSome_some, Int.toNat_zero, Nat.reduceAdd, Nat.reduceMul, Nat.reduceSub, Nat.reduceEqDiff, Nat.reduceLT, Nat.reduceLeDiff, Nat.reduceShiftRight, Nat.reduceMod, Nat.reduceBEq, reduceCtorEq, reduceIte, reduceDIte, Int.reduceNeg]
                and_intros <;> first | rfl | omega
            · have hs : stepErr l i = 0 := stepErr_0 (ho ▸ h1) hb' (by rw [ho]; exact fun ⟨q, hq, hh⟩ => hkz q (by omega) hh)
              refine fin_lp ⟨i + 1, by omega, fun q hq => ?_⟩ ?_ (by dsimp only; omega)
              · by_cases e : q = i
                · subst e; exact hs
                · exact hz q (by omega)
              · simp only [go_sem, Prod.eta, Option.isSome_none, Option.isSome_some, Int.toNat_zero, Nat.reduceAdd, Nat.reduceMul, Nat.reduceSub, Nat.reduceEqDiff, Nat.reduceLT, Nat.reduceLeDiff, Nat.reduceShiftRight, Nat.reduceMod, Nat.reduceBEq, reduceCtorEq, reduceIte, reduceDIte, Int.reduceNeg]
                and_intros <;> first | rfl | omega
      · rw [valV_ok hl (fun k hk => hz k (by omega))])
end Go.Proofs.Ytjhoidgpecgfoaa

/- Operations: merging. -/
set_option linter.unusedSimpArgs false
set_option linter.unusedVariables false
set_option maxRecDepth 100000
set_option maxHeartbeats 8000000
namespace Go.Proofs.Ytjhoidgpecgfoaa
open Go.Ev

instance decPce : DecidableEq Pce := instDecidableEqProd
instance dec1 : DecidableEq (Int × Pce) := instDecidableEqProd
instance dec2 : DecidableEq (Int × Int × Pce) := instDecidableEqProd
instance dec3 : DecidableEq (Int × Int × Int × Pce) := instDecidableEqProd
instance dec4 : DecidableEq (Int × Int × Int × Int × Pce) := instDecidableEqProd
instance decOpn : DecidableEq Opn := instDecidableEqProd
/-- Two lists of operations, united. -/
def mg : List Opn → List Opn → List Opn
 | [], b => b
 | a, [] => a
 | x :: a, y :: b => if x = y then mg (x :: a) b else if bfV y x = true then y :: mg (x :: a) b else x :: mg a (y :: b)
termination_by a b => a.length + b.length
/-- Two different operations with the same name. -/
def dupBm (a b : List Opn) : Bool := decide (∃ x ∈ a, ∃ y ∈ b, x.2.1 = y.2.1 ∧ x.2.2.1 = y.2.2.1 ∧ x ≠ y)
def mergeV (a b : List Opn) : List Opn × Int :=
 if valV a ≠ 0 then ([], valV a) else if valV b ≠ 0 then ([], valV b) else if dupBm a b = true then ([], 5)
 else if valV (mg a b) ≠ 0 then ([], valV (mg a b)) else (mg a b, 0)
theorem valV_zero {l : List Opn} (h : valV l = 0) : l.length ≤ 360 ∧ ∀ k, k < l.length → stepErr l k = 0 := by
 have hl : ¬ 360 < l.length := fun q => by unfold valV at h; rw [if_pos q] at h; cases h
 refine ⟨by omega, fun k => ?_⟩
 induction k using Nat.strongRecOn with
 | _ k ih =>
   intro hk
   by_cases e : stepErr l k = 0
   · exact e
   · rw [← valV_err hl (fun j hj => ih j hj (by omega)) hk e]; exact h
theorem uniq_name {l : List Opn} (h : valV l = 0) {x y : Opn} (hx : x ∈ l) (hy : y ∈ l) (h1 : x.2.1 = y.2.1) (h2 : x.2.2.1 = y.2.2.1) : x = y := by
 obtain ⟨_, hz⟩ := valV_zero h
 obtain ⟨i, hi, rfl⟩ := List.getElem_of_mem hx
 obtain ⟨j, hj, rfl⟩ := List.getElem_of_mem hy
 have gi : l.getD i o0 = l[i] := by simp [hi]
 have gj : l.getD j o0 = l[j] := by simp [hj]
 rcases Nat.lt_trichotomy i j with e | e | e
 · have := (stepErr_zero (hz j hj)).2.2 i e
   rw [gi, gj] at this
   have := this h1
   omega
 · subst e; rfl
 · have := (stepErr_zero (hz i hi)).2.2 j e
   rw [gi, gj] at this
   have := this h1.symm
   omega
def mgR : List Opn → List Opn → List Opn
 | [], b => b
 | a, [] => a
 | x :: a, y :: b => if bfV x y = true then x :: mgR a (y :: b) else if bfV y x = true then y :: mgR (x :: a) b else x :: mgR a b
termination_by a b => a.length + b.length
theorem bfV_irr (x : Opn) : bfV x x = false := by unfold bfV; rw [decide_eq_false_iff_not]; omega
theorem bfV_asym {x y : Opn} (h : bfV x y = true) : bfV y x = false := by
 unfold bfV at *; rw [decide_eq_true_eq] at h; rw [decide_eq_false_iff_not]; omega
theorem bfV_trans {x y z : Opn} (h : bfV x y = true) (k : bfV y z = true) : bfV x z = true := by
 unfold bfV at *; rw [decide_eq_true_eq] at *; omega
theorem bfV_tot {x y : Opn} (h : bfV x y = false) (k : bfV y x = false) : x.2.1 = y.2.1 ∧ x.2.2.1 = y.2.2.1 := by
 unfold bfV at *; rw [decide_eq_false_iff_not] at *; omega
abbrev Srt (l : List Opn) : Prop := l.Pairwise (fun x y => bfV x y = true)
theorem srt_of {l : List Opn} (h : valV l = 0) : Srt l := by
 obtain ⟨_, hz⟩ := valV_zero h
 refine List.pairwise_iff_getElem.2 ?_
 have key : ∀ n i, (hj : i + n + 1 < l.length) → bfV (l[i]'(by omega)) l[i + n + 1] = true := by
  intro n
  induction n with
  | zero =>
    intro i hj
    have := (stepErr_zero (hz (i + 1) hj)).2.1 (by omega)
    simpa [List.getD_eq_getElem?_getD, hj, show i < l.length by omega] using this
  | succ n ih =>
    intro i hj
    have h1 := ih i (by omega)
    have := (stepErr_zero (hz (i + n + 2) (by omega))).2.1 (by omega)
    have h2 : bfV (l[i + n + 1]'(by omega)) (l[i + n + 2]'(by omega)) = true := by
     simpa [List.getD_eq_getElem?_getD, show i + n + 2 < l.length by omega, show i + n + 1 < l.length by omega] using this
    exact bfV_trans h1 h2
 intro i j hi hj hij
 have := key (j - i - 1) i (by omega)
 simpa [show i + (j - i - 1) + 1 = j by omega] using this
def NoD (a b : List Opn) : Prop := ∀ x ∈ a, ∀ y ∈ b, x.2.1 = y.2.1 → x.2.2.1 = y.2.2.1 → x = y
theorem noD_iff {a b : List Opn} : dupBm a b = false ↔ NoD a b := by
 unfold dupBm NoD
 rw [decide_eq_false_iff_not]
 constructor
 · intro h x hx y hy h1 h2
   exact Classical.byContradiction fun h3 => h ⟨x, hx, y, hy, h1, h2, h3⟩
 · rintro h ⟨x, hx, y, hy, h1, h2, h3⟩
   exact h3 (h x hx y hy h1 h2)
theorem mg_eq_mgR : ∀ (n : Nat) (a b : List Opn), a.length + b.length ≤ n → Srt a → Srt b → NoD a b → mg a b = mgR a b
 | _, [], b, _, _, _, _ => by simp [mg, mgR]
 | _, x :: a, [], _, _, _, _ => by simp [mg, mgR]
 | 0, x :: a, y :: b, h, _, _, _ => by simp at h
 | n + 1, x :: a, y :: b, h, sa, sb, nd => by
   simp only [List.length_cons] at h
   have sa' := (List.pairwise_cons.1 sa)
   have sb' := (List.pairwise_cons.1 sb)
   have n1 : NoD a (y :: b) := fun u hu v hv => nd u (List.mem_cons_of_mem _ hu) v hv
   have n2 : NoD (x :: a) b := fun u hu v hv => nd u hu v (List.mem_cons_of_mem _ hv)
   have n3 : NoD a b := fun u hu v hv => nd u (List.mem_cons_of_mem _ hu) v (List.mem_cons_of_mem _ hv)
   rw [mg, mgR]
   by_cases e : x = y
   · subst e
     rw [if_pos rfl, if_neg (by rw [bfV_irr]; exact fun q => by cases q), if_neg (by rw [bfV_irr]; exact fun q => by cases q)]
     rw [← mg_eq_mgR n a b (by omega) sa'.2 sb'.2 n3]
     cases b with
     | nil => simp [mg]; cases a <;> simp [mg]
     | cons z b =>
       have hz := sb'.1 z (List.mem_cons_self ..)
       rw [mg, if_neg (fun q => by subst q; rw [bfV_irr] at hz; cases hz), if_neg (by rw [bfV_asym hz]; exact fun q => by cases q)]
   · rw [if_neg e]
     by_cases h1 : bfV y x = true
     · rw [if_pos h1, if_neg (by rw [bfV_asym h1]; exact fun q => by cases q), if_pos h1, mg_eq_mgR n (x :: a) b (by simp; omega) sa sb'.2 n2]
     · rw [if_neg h1]
       by_cases h2 : bfV x y = true
       · rw [if_pos h2, mg_eq_mgR n a (y :: b) (by simp; omega) sa'.2 sb n1]
       · obtain ⟨k1, k2⟩ := bfV_tot (by simpa using h2) (by simpa using h1)
         exact absurd (nd x (List.mem_cons_self ..) y (List.mem_cons_self ..) k1 k2) e
end Go.Proofs.Ytjhoidgpecgfoaa

/- Operations: places; what stays valid. -/
set_option linter.unusedSimpArgs false
set_option linter.unusedVariables false
set_option maxRecDepth 100000
set_option maxHeartbeats 8000000
namespace Go.Proofs.Ytjhoidgpecgfoaa
open Go.Ev

def aboutP (l : List Opn) (p : Plt) : List Opn := l.filter (fun o => decide (o.plate = p))
def placesV (l : List Opn) : List Plc := if valV l ≠ 0 then [] else (sortBy pltC (abK l)).map (fun p => placeV (aboutP l p))
theorem about_ne {l : List Opn} {p : Plt} (h : p ∈ sortBy pltC (abK l)) : aboutP l p ≠ [] := by
 have hm := (sortBy_perm pltC (abK l)).mem_iff.1 h
 obtain ⟨o, ho, e⟩ := (abK_mem p l).1 hm
 exact List.ne_nil_of_mem (List.mem_filter.2 ⟨ho, by simpa using e⟩)
theorem about_len (l : List Opn) (p : Plt) : (aboutP l p).length ≤ l.length := List.length_filter_le _ _
theorem sortBy_len (l : List Opn) : (sortBy pltC (abK l)).length ≤ l.length := by rw [(sortBy_perm _ _).length_eq]; exact abK_len l
def confV (l : List Opn) : List Plt := ((placesV l).filter (fun x => decide (1 < x.2.2.length))).map (fun x => x.1.1)
theorem placesV_len (l : List Opn) : (placesV l).length ≤ 360 := by
 unfold placesV
 split
 · simp
 · rename_i h
   obtain ⟨hl, _⟩ := valV_zero (l := l) (by simpa using h)
   have := sortBy_len l
   simp; omega
theorem sorted_unique : ∀ {a b : List Int}, a.Perm b → a.Pairwise (· ≤ ·) → b.Pairwise (· ≤ ·) → a = b
 | [], b, hp, _, _ => (List.nil_perm.1 hp).symm ▸ rfl
 | x :: a, [], hp, _, _ => by have := hp.length_eq; simp at this
 | x :: a, y :: b, hp, ha, hb => by
   rw [List.pairwise_cons] at ha hb
   have e : x = y := by
    have h1 : x ∈ y :: b := hp.subset (List.mem_cons_self ..)
    have h2 : y ∈ x :: a := hp.symm.subset (List.mem_cons_self ..)
    rcases List.mem_cons.1 h1 with h | h
    · exact h
    · rcases List.mem_cons.1 h2 with k | k
      · exact k.symm
      · have := hb.1 x h
        have := ha.1 y k
        omega
   subst e
   rw [sorted_unique (List.Perm.cons_inv hp) ha.2 hb.2]
theorem sortI_perm (l : List Int) : (sortI l).Perm l := List.mergeSort_perm l _
theorem sortI_sorted (l : List Int) : (sortI l).Pairwise (· ≤ ·) := by
 have h := List.pairwise_mergeSort (le := fun x y : Int => decide (x ≤ y)) (fun a b c => by simp; omega) (fun a b => by simp; omega) l
 exact h.imp (fun h => by simpa using h)
abbrev pc3 : Pce := (platesV 3, 10, 0)
abbrev ex1 : Opn := (10, 1, 3, 1, 4, pc3)
abbrev ex2 : Opn := (12, 2, 1, 1, 5, pc3)
abbrev ex3 : Opn := (15, 1, 4, 2, 4, pc3)
abbrev ex4 : Opn := (11, 1, 3, 1, 4, pc3)
theorem sort_one {l : List Opn} {p : Plt} (h : abK l = [p]) : sortBy pltC (abK l) = [p] := by
 rw [h]; exact List.perm_singleton.1 (sortBy_perm pltC [p])
theorem m1 : mergeV [ex2] [ex1] = ([ex1, ex2], 0) := by
 have h : mg [ex2] [ex1] = [ex1, ex2] := by
  rw [mg, if_neg (by decide +kernel), if_pos (by decide +kernel)]; simp [mg]
 unfold mergeV
 rw [h, if_neg (by decide +kernel), if_neg (by decide +kernel), if_neg (by decide +kernel), if_neg (by decide +kernel)]
theorem m2 : mergeV [ex1, ex2] [ex3] = ([ex1, ex2, ex3], 0) := by
 have h : mg [ex1, ex2] [ex3] = [ex1, ex2, ex3] := by
  rw [mg, if_neg (by decide +kernel), if_neg (by decide +kernel), mg, if_neg (by decide +kernel), if_neg (by decide +kernel)]; simp [mg]
 unfold mergeV
 rw [h, if_neg (by decide +kernel), if_neg (by decide +kernel), if_neg (by decide +kernel), if_neg (by decide +kernel)]
theorem m3 : mergeV [ex1] [ex4] = ([], 5) := by
 unfold mergeV
 rw [if_neg (by decide +kernel), if_neg (by decide +kernel), if_pos (by decide +kernel)]
theorem p1 : placesV [ex1, ex2] = [(pc3, 5, [4, 5])] := by
 unfold placesV
 rw [if_neg (by decide +kernel), sort_one (p := platesV 3) (by decide +kernel)]
 have ha : aboutP [ex1, ex2] (platesV 3) = [ex1, ex2] := by decide +kernel
 have ht : trail [ex1, ex2] = [5, 4] := by decide +kernel
 have hs : sortI [5, 4] = [4, 5] := sorted_unique ((sortI_perm _).trans (List.Perm.swap 4 5 [])) (sortI_sorted _) (by decide)
 simp only [List.map_cons, List.map_nil, ha]
 unfold placeV
 rw [ht, hs]
 decide +kernel
theorem p2 : placesV [ex1, ex2, ex3] = [(pc3, 0, [])] := by
 unfold placesV
 rw [if_neg (by decide +kernel), sort_one (p := platesV 3) (by decide +kernel)]
 have ha : aboutP [ex1, ex2, ex3] (platesV 3) = [ex1, ex2, ex3] := by decide +kernel
 have ht : trail [ex1, ex2, ex3] = [] := by decide +kernel
 have hs : sortI [] = [] := (sortI_perm []).eq_nil
 simp only [List.map_cons, List.map_nil, ha]
 unfold placeV
 rw [ht, hs]
 decide +kernel
theorem c1 : confV [ex1, ex2] = [platesV 3] := by unfold confV; rw [p1]; rfl
def Rl (a b : Opn) : Prop := bfV a b = true ∧ (a.2.1 = b.2.1 → a.2.2.1 < b.2.2.1)
structure OkL (l : List Opn) : Prop where
 ok : ∀ o ∈ l, okOp o = true
 pw : l.Pairwise Rl
theorem getD_at {l : List Opn} {i : Nat} (h : i < l.length) : l.getD i o0 = l[i] := by simp [h]
theorem OkL.val {l : List Opn} (h : OkL l) (hl : l.length ≤ 360) : valV l = 0 := by
 refine valV_ok (by omega) fun k hk => stepErr_0 ?_ (fun h0 => ?_) ?_
 · rw [getD_at hk]; exact h.ok _ (List.getElem_mem hk)
 · rw [getD_at hk, getD_at (by omega : k - 1 < l.length)]
   exact (List.pairwise_iff_getElem.1 h.pw (k - 1) k (by omega) hk (by omega)).1
 · rintro ⟨j, hj, h1, h2⟩
   rw [getD_at hk, getD_at (by omega : j < l.length)] at h1 h2
   have := (List.pairwise_iff_getElem.1 h.pw j k (by omega) hk hj).2 h1
   omega
theorem OkL.of {l : List Opn} (h : valV l = 0) : OkL l := by
 obtain ⟨hl, hz⟩ := valV_zero h
 refine ⟨fun o ho => ?_, List.pairwise_iff_getElem.2 fun i j hi hj hij => ⟨List.pairwise_iff_getElem.1 (srt_of h) i j hi hj hij, fun hd => ?_⟩⟩
 · obtain ⟨i, hi, rfl⟩ := List.getElem_of_mem ho
   have := (stepErr_zero (hz i hi)).1
   rwa [getD_at hi] at this
 · have := (stepErr_zero (hz j hj)).2.2 i hij
   rw [getD_at hi, getD_at hj] at this
   exact this hd
theorem mg_mem (z : Opn) (a b : List Opn) : z ∈ mg a b ↔ z ∈ a ∨ z ∈ b := by
 fun_induction mg a b with
 | case1 => simp
 | case2 => simp
 | case3 a x b ih => rw [ih]; by_cases h1 : z = x <;> by_cases h2 : z ∈ a <;> by_cases h3 : z ∈ b <;> simp [h1, h2, h3]
 | case4 x a y b h1 h2 ih => simp only [List.mem_cons, ih]; by_cases h1 : z = x <;> by_cases h2 : z ∈ a <;> by_cases h3 : z ∈ b <;> by_cases h4 : z = y <;> simp [h1, h2, h3, h4]
 | case5 x a y b h1 h2 ih => simp only [List.mem_cons, ih]; by_cases h1 : z = x <;> by_cases h2 : z ∈ a <;> by_cases h3 : z ∈ b <;> by_cases h4 : z = y <;> simp [h1, h2, h3, h4]
theorem mgR_mem (z : Opn) (a b : List Opn) : z ∈ mgR a b → z ∈ a ∨ z ∈ b := by
 fun_induction mgR a b with
 | case1 => exact .inr
 | case2 => exact .inl
 | case3 x a y b h1 ih =>
   intro h
   rcases List.mem_cons.1 h with rfl | h
   · exact .inl (List.mem_cons_self ..)
   · rcases ih h with h | h
     · exact .inl (List.mem_cons_of_mem _ h)
     · exact .inr h
 | case4 x a y b h1 h2 ih =>
   intro h
   rcases List.mem_cons.1 h with rfl | h
   · exact .inr (List.mem_cons_self ..)
   · rcases ih h with h | h
     · exact .inl h
     · exact .inr (List.mem_cons_of_mem _ h)
 | case5 x a y b h1 h2 ih =>
   intro h
   rcases List.mem_cons.1 h with rfl | h
   · exact .inl (List.mem_cons_self ..)
   · rcases ih h with h | h
     · exact .inl (List.mem_cons_of_mem _ h)
     · exact .inr (List.mem_cons_of_mem _ h)
theorem mgR_srt (a b : List Opn) : Srt a → Srt b → NoD a b → Srt (mgR a b) := by
 fun_induction mgR a b with
 | case1 => exact fun _ h _ => h
 | case2 => exact fun h _ _ => h
 | case3 x a y b h1 ih =>
   intro sa sb nd
   have sa' := List.pairwise_cons.1 sa
   have sb' := List.pairwise_cons.1 sb
   refine List.pairwise_cons.2 ⟨fun z hz => ?_, ih sa'.2 sb fun u hu v hv => nd u (List.mem_cons_of_mem _ hu) v hv⟩
   rcases mgR_mem _ _ _ hz with h | h
   · exact sa'.1 z h
   · rcases List.mem_cons.1 h with rfl | h
     · exact h1
     · exact bfV_trans h1 (sb'.1 z h)
 | case4 x a y b h1 h2 ih =>
   intro sa sb nd
   have sa' := List.pairwise_cons.1 sa
   have sb' := List.pairwise_cons.1 sb
   refine List.pairwise_cons.2 ⟨fun z hz => ?_, ih sa sb'.2 fun u hu v hv => nd u hu v (List.mem_cons_of_mem _ hv)⟩
   rcases mgR_mem _ _ _ hz with h | h
   · rcases List.mem_cons.1 h with rfl | h
     · exact h2
     · exact bfV_trans h2 (sa'.1 z h)
   · exact sb'.1 z h
 | case5 x a y b h1 h2 ih =>
   intro sa sb nd
   have sa' := List.pairwise_cons.1 sa
   have sb' := List.pairwise_cons.1 sb
   obtain ⟨k1, k2⟩ := bfV_tot (by simpa using h1) (by simpa using h2)
   have e : x = y := nd x (List.mem_cons_self ..) y (List.mem_cons_self ..) k1 k2
   refine List.pairwise_cons.2 ⟨fun z hz => ?_, ih sa'.2 sb'.2 fun u hu v hv => nd u (List.mem_cons_of_mem _ hu) v (List.mem_cons_of_mem _ hv)⟩
   rcases mgR_mem _ _ _ hz with h | h
   · exact sa'.1 z h
   · rw [e]; exact sb'.1 z h
theorem srt_sub : ∀ {b a : List Opn}, Srt a → Srt b → (∀ x ∈ a, x ∈ b) → a.Sublist b
 | [], [], _, _, _ => List.Sublist.slnil
 | [], x :: a, _, _, h => by have := h x (List.mem_cons_self ..); cases this
 | y :: b, [], _, _, _ => List.nil_sublist _
 | y :: b, x :: a, sa, sb, h => by
   have sa' := List.pairwise_cons.1 sa
   have sb' := List.pairwise_cons.1 sb
   have nx : ∀ {u : Opn} {r : List Opn} {z : Opn}, (∀ w ∈ r, bfV u w = true) → z ∈ r → z ≠ u := fun hr hz q => by
    have := hr _ hz
    rw [q, bfV_irr] at this
    cases this
   by_cases e : x = y
   · subst e
     exact (srt_sub sa'.2 sb'.2 fun z hz => (List.mem_cons.1 (h z (List.mem_cons_of_mem _ hz))).resolve_left (nx sa'.1 hz)).cons_cons _
   · have hx := (List.mem_cons.1 (h x (List.mem_cons_self ..))).resolve_left e
     have hyx := sb'.1 x hx
     refine (srt_sub sa sb'.2 fun z hz => (List.mem_cons.1 (h z hz)).resolve_left fun q => ?_).cons _
     subst q
     rcases List.mem_cons.1 hz with q | q
     · exact e q.symm
     · have := sa'.1 z q
       rw [bfV_asym hyx] at this
       cases this
/-- A sorted part of a valid list. -/
structure PartOf (all a : List Opn) : Prop where
 srt : Srt a
 mem : ∀ x ∈ a, x ∈ all
theorem OkL.srt {l : List Opn} (h : OkL l) : Srt l := h.pw.imp fun h => h.1
theorem OkL.sub {l a : List Opn} (h : OkL l) (s : a.Sublist l) : OkL a := ⟨fun o ho => h.ok o (s.subset ho), h.pw.sublist s⟩
theorem PartOf.sub {all a : List Opn} (h : OkL all) (p : PartOf all a) : a.Sublist all := srt_sub p.srt h.srt p.mem
theorem PartOf.of {all a : List Opn} (h : OkL all) (s : a.Sublist all) : PartOf all a := ⟨(h.sub s).srt, fun x hx => s.subset hx⟩
theorem PartOf.val {all a : List Opn} (h : OkL all) (hl : all.length ≤ 360) (p : PartOf all a) : valV a = 0 := (h.sub (p.sub h)).val (Nat.le_trans (p.sub h).length_le hl)
theorem PartOf.mg {all a b : List Opn} (h : OkL all) (hl : all.length ≤ 360) (p : PartOf all a) (q : PartOf all b) : mergeV a b = (mg a b, 0) ∧ PartOf all (mg a b) := by
 have nd : NoD a b := fun x hx y hy h1 h2 => uniq_name (h.val hl) (p.mem x hx) (q.mem y hy) h1 h2
 have e := mg_eq_mgR _ a b (Nat.le_refl _) p.srt q.srt nd
 have hm : PartOf all (Go.Proofs.Ytjhoidgpecgfoaa.mg a b) := ⟨by rw [e]; exact mgR_srt a b p.srt q.srt nd, fun x hx => ((mg_mem x a b).1 hx).elim (p.mem x) (q.mem x)⟩
 refine ⟨?_, hm⟩
 unfold mergeV
 rw [if_neg (by rw [p.val h hl]; simp), if_neg (by rw [q.val h hl]; simp), if_neg (by rw [noD_iff.2 nd]; simp), if_neg (by rw [hm.val h hl]; simp)]
/-- The list that Ops builds. -/
structure Gn (l : List Opn) (t : Int) (sq : List Int) : Prop where
 ok : ∀ o ∈ l, okOp o = true
 tm : ∀ o ∈ l, o.1 ≤ t
 dv : ∀ o ∈ l, 1 ≤ o.2.1 ∧ o.2.1 ≤ 4
 sn : ∀ o ∈ l, o.2.2.1 ≤ sq.getD o.2.1.toNat 0
 pw : l.Pairwise Rl
theorem Gn.nil (t : Int) (sq : List Int) : Gn [] t sq := ⟨fun _ h => (by cases h), fun _ h => (by cases h), fun _ h => (by cases h), fun _ h => (by cases h), List.Pairwise.nil⟩
theorem Gn.okl {l : List Opn} {t : Int} {sq : List Int} (h : Gn l t sq) : OkL l := ⟨h.ok, h.pw⟩
theorem set_at {sq : List Int} {i : Nat} {x : Int} (h : i < sq.length) (j : Nat) : (sq.set i x).getD j 0 = if i = j then x else sq.getD j 0 := by
 rw [List.getD_eq_getElem?_getD, List.getElem?_set]
 by_cases e : i = j
 · subst e; simp [h]
 · simp [e, List.getD_eq_getElem?_getD]
theorem Gn.ins {l : List Opn} {t : Int} {sq : List Int} (h : Gn l t sq) {o : Opn} {i : Nat} (ho : okOp o = true) (hd : 1 ≤ o.2.1 ∧ o.2.1 ≤ 4) (ht : t ≤ o.1) (hq : sq.length = 5) (hs : sq.getD o.2.1.toNat 0 < o.2.2.1) (hi : i ≤ l.length)
 (aft : ∀ z ∈ l.drop i, z.1 = o.1 ∧ o.2.1 < z.2.1) (bef : 0 < i → ¬ ((l.getD (i - 1) o0).1 = o.1 ∧ o.2.1 < (l.getD (i - 1) o0).2.1)) : Gn (l.take i ++ o :: l.drop i) o.1 (sq.set o.2.1.toNat o.2.2.1) := by
 have hm : ∀ z, z ∈ l.take i ++ o :: l.drop i → z = o ∨ z ∈ l := fun z hz => by
  rcases List.mem_append.1 hz with k | k
  · exact .inr (List.mem_of_mem_take k)
  · rcases List.mem_cons.1 k with k | k
    · exact .inl k
    · exact .inr (List.mem_of_mem_drop k)
 refine ⟨fun z hz => ?_, fun z hz => ?_, fun z hz => ?_, fun z hz => ?_, ?_⟩
 · rcases hm z hz with rfl | k
   · exact ho
   · exact h.ok z k
 · rcases hm z hz with rfl | k
   · exact Int.le_refl _
   · exact Int.le_trans (h.tm z k) ht
 · rcases hm z hz with rfl | k
   · exact hd
   · exact h.dv z k
 · rw [set_at (by omega)]
   rcases hm z hz with rfl | k
   · rw [if_pos rfl]; exact Int.le_refl _
   · have h1 := h.sn z k
     have h2 := h.dv z k
     split
     · rename_i e
       have e2 : z.2.1 = o.2.1 := by omega
       rw [e2] at h1; omega
     · exact h1
 · have hp : (l.take i ++ l.drop i).Pairwise Rl := by rw [List.take_append_drop]; exact h.pw
   rw [List.pairwise_append] at hp
   refine List.pairwise_append.2 ⟨hp.1, List.pairwise_cons.2 ⟨fun z hz => ?_, hp.2.1⟩, fun x hx z hz => ?_⟩
   · obtain ⟨a1, a2⟩ := aft z hz
     refine ⟨?_, fun q => by omega⟩
     unfold bfV; rw [decide_eq_true_eq]; omega
   · rcases List.mem_cons.1 hz with rfl | hz
     · have hx' := List.mem_of_mem_take hx
       have hs1 := h.sn x hx'
       have hd1 := h.dv x hx'
       have ht1 := h.tm x hx'
       obtain ⟨j, hj, rfl⟩ := List.getElem_of_mem hx
       have hj2 : j < i := by simp at hj; omega
       have hjl : j < l.length := by omega
       rw [List.getElem_take] at *
       have hb := bef (by omega)
       rw [getD_at (by omega : i - 1 < l.length)] at hb
       have hlast := h.tm _ (List.getElem_mem (by omega : i - 1 < l.length))
       have hseq : (l[j]).2.1 = z.2.1 → (l[j]).2.2.1 < z.2.2.1 := fun e => by rw [e] at hs1; omega
       refine ⟨?_, hseq⟩
       unfold bfV; rw [decide_eq_true_eq]
       by_cases e1 : (l[j]).1 < z.1
       · exact .inl e1
       · refine .inr ⟨by omega, ?_⟩
         have hle : (l[j]).2.1 ≤ z.2.1 := by
          by_cases e2 : j = i - 1
          · subst e2; omega
          · have hr := (List.pairwise_iff_getElem.1 h.pw j (i - 1) hjl (by omega) (by omega)).1
            unfold bfV at hr; rw [decide_eq_true_eq] at hr
            omega
         by_cases e3 : (l[j]).2.1 < z.2.1
         · exact .inl e3
         · have e4 : (l[j]).2.1 = z.2.1 := by omega
           exact .inr ⟨e4, hseq e4⟩
     · exact hp.2.2 x hx z hz
end Go.Proofs.Ytjhoidgpecgfoaa

/- Operations: the generators. -/
set_option linter.unusedSimpArgs false
set_option linter.unusedVariables false
set_option maxRecDepth 100000
set_option maxHeartbeats 8000000
namespace Go.Proofs.Ytjhoidgpecgfoaa
open Go.Ev

theorem rep_at (d : Nat) : (List.replicate 5 (0 : Int)).getD d 0 = 0 := by
 rw [List.getD_eq_getElem?_getD, List.getElem?_replicate]
 split <;> rfl
theorem tdiv_bd (x m n : Int) (h0 : 0 ≤ x) (h1 : x ≤ m) (h : 0 < n) : 0 ≤ x.tdiv n ∧ x.tdiv n ≤ m.tdiv n := by
 rw [Int.tdiv_eq_ediv_of_nonneg h0, Int.tdiv_eq_ediv_of_nonneg (by omega)]
 exact ⟨Int.ediv_nonneg h0 (by omega), Int.ediv_le_ediv h h1⟩
theorem ins_shift (l : List Opn) (z o : Opn) (i : Nat) (hi : i ≤ l.length) :
 (List.take (i + 1) (l ++ [z]) ++ (List.take (min (l.length - i) (List.drop i (List.take (i + (l.length + 1 - i)) (l ++ [z]))).length) (List.drop i (List.take (i + (l.length + 1 - i)) (l ++ [z]))) ++ List.drop (i + 1 + min (l.length - i) (List.drop i (List.take (i + (l.length + 1 - i)) (l ++ [z]))).length) (l ++ [z]))).length = l.length + 1
 ∧ (List.take (i + 1) (l ++ [z]) ++ (List.take (min (l.length - i) (List.drop i (List.take (i + (l.length + 1 - i)) (l ++ [z]))).length) (List.drop i (List.take (i + (l.length + 1 - i)) (l ++ [z]))) ++ List.drop (i + 1 + min (l.length - i) (List.drop i (List.take (i + (l.length + 1 - i)) (l ++ [z]))).length) (l ++ [z]))).set i o = l.take i ++ o :: l.drop i := by
 have h1 : List.take (i + (l.length + 1 - i)) (l ++ [z]) = l ++ [z] := List.take_of_length_le (by simp; omega)
 have h2 : List.drop i (l ++ [z]) = List.drop i l ++ [z] := List.drop_append_of_le_length hi
 have h3 : (List.drop i l ++ [z]).length = l.length - i + 1 := by simp
 have hl : i < (l ++ [z]).length := by simp; omega
 have h4 : List.take (i + 1) (l ++ [z]) = List.take i l ++ [(l ++ [z])[i]] := by rw [List.take_succ_eq_append_getElem hl, List.take_append_of_le_length hi]
 have h5 : min (l.length - i) (l.length - i + 1) = l.length - i := by omega
 have h6 : List.drop (i + 1 + (l.length - i)) (l ++ [z]) = [] := List.drop_of_length_le (by simp; omega)
 have h7 : List.take (l.length - i) (List.drop i l ++ [z]) = List.drop i l := by
  rw [List.take_append_of_le_length (by simp), List.take_of_length_le (by simp)]
 have h8 : (List.take i l).length = i := by simp; omega
 rw [h1, h2, h3, h5, h6, h4, h7, List.append_nil, List.append_assoc]
 constructor
 · simp; omega
 · rw [List.set_append_right _ _ (by omega), h8, Nat.sub_self]
   rfl
/-- What Ops gives. -/
structure OpsR (c : Int) (l : List Opn) : Prop where
 okl : OkL l
 len : l.length ≤ 30
 dv : ∀ o ∈ l, 1 ≤ o.2.1 ∧ o.2.1 ≤ 4
 tm : ∀ o ∈ l, o.1 ≤ 100
 bx : ∀ o ∈ l, 1 ≤ o.2.2.2.2.1 ∧ o.2.2.2.2.1 ≤ c
structure OInv (c t : Int) (k : Int) (sq : List Int) (l : List Opn) : Prop where
 gn : Gn l t sq
 kl : (l.length : Int) + k ≤ 30
 t0 : 0 ≤ t
 t1 : t ≤ 2 * l.length
 sl : sq.length = 5
 s0 : ∀ d, 0 ≤ sq.getD d 0
 s1 : ∀ d, sq.getD d 0 ≤ 2 * l.length
 bx : ∀ o ∈ l, 1 ≤ o.2.2.2.2.1 ∧ o.2.2.2.2.1 ≤ c
def con10 : RCon := { ps := [.p 67 ySR, .d false (.int .i64), .d false (.int .i64), .d false (.int .i64)], rs := [.d false (.sl yOP)], pre := fun (x : Src × Int × Int × Int × Unit) => 0 ≤ x.1.2 ∧ x.2.1 ≤ 30 ∧ 0 ≤ x.2.1 ∧ 1 ≤ x.2.2.2.1 ∧ x.2.2.2.1 ≤ 900, rel := fun (x : Src × Int × Int × Int × Unit) (y : List Opn × Unit) (z : Src × Int × Int × Int × Unit) => 0 ≤ z.1.2 ∧ OpsR x.2.2.2.1 y.1 }
theorem c10 : RCtrOk Try.prog 10 con10.rctr :=
 rcon_sound (G := ⟨[(8, con8.ctr), (25, con25.ctr)], [], [(92, 1), (95, 1)], []⟩) tab_ok (EnvOk.cons c8 has8 (EnvOk.cons c25 has25 EnvOk.nil)) rfl Try.func10 rfl con10 4835703278458516700987151 (by kernel_rfl) (by decide) (by decide) rfl (by decide) rfl (by
  rintro ⟨⟨(s : List Int), (a : Int)⟩, (most : Int), (n : Int), (c : Int), _⟩ hpre hwf X hT hG hk hK
  (simp -implicitDefEqProofs only [go_sem, Prod.eta, Option.isSome_none, Option.isSome_some, Int.toNat_zero, Nat.reduceAdd, Nat.reduceMul, Nat.reduceSub, Nat.reduceEqDiff, Nat.reduceLT, Nat.reduceLeDiff, Nat.reduceShiftRight, Nat.reduceMod, Nat.reduceBEq, reduceCtorEq, reduceIte, reduceDIte, Int.reduceNeg, Bool.not_eq_true', Bool.not_eq_false', Bool.or_eq_true, Bool.or_eq_false_iff, Bool.and_eq_true, Bool.and_eq_false_iff, decide_eq_true_eq, decide_eq_false_iff_not, Classical.not_not, not_or, maxLen, con10, con8, con25, hT, hG, hk, hK, Try.results10] at hwf ⊢); (try simp (disch := decide +kernel) only [drawn, true_and, and_true])
  obtain ⟨h1, h2, h3, h4, h5⟩ : 0 ≤ a ∧ most ≤ 30 ∧ 0 ≤ most ∧ 1 ≤ c ∧ c ≤ 900 := hpre
  have hs1 : 0 ≤ (Src.step (s, a)).snd := step_pos h1
  have hkb := goMod_bd (Src.raw (s, a)) (most + 1) (by omega)
  generalize goMod (Src.raw (s, a)) (most + 1) = K at hkb ⊢
  generalize Src.step (s, a) = S1 at hs1 ⊢
  obtain ⟨s1, a1⟩ := S1
  refine ⟨by omega, h1, fun _ => ?_⟩
  refine evk_loop ⟨{ q : Src × List Opn × List Int × Int × Int // 0 ≤ q.1.2 ∧ OInv c q.2.2.2.1 q.2.2.2.2 q.2.2.1 q.2.1 ∧ 0 ≤ q.2.2.2.2 }, 1000, fun q => [(0, .one (.loc 0 0)), (2, .one (.int .i64 n)), (3, .one (.int .i64 c)), (9, .one (.row 64)), (10, .one (.ep 65 1 0 0)), (11, .one (.int .i64 q.1.2.2.2.1)), (12, .one (.int .i64 q.1.2.2.2.2))],
   fun q => [(0, .cells 67 [.sl (.int .i64) q.1.1.1 false, .int .i64 q.1.1.2]), (64, .row 80 yOP q.1.2.1), (65, .row 77 (.int .i64) q.1.2.2.1)], fun q => q.1.2.2.2.2.toNat⟩ ⟨((s1, a1), [], List.replicate 5 0, 0, K), hs1, ⟨Gn.nil _ _, by simp only [List.length_nil]; omega, Int.le_refl _, by simp, by simp, fun d => (by rw [rep_at]; exact Int.le_refl _), fun d => (by rw [rep_at]; simp), fun o h => (by cases h)⟩, by simp only; omega⟩ ?_ ?_
  · simp only [go_sem, Prod.eta, Option.isSome_none, Option.isSome_some, Int.toNat_zero, Nat.reduceAdd, Nat.reduceMul, Nat.reduceSub, Nat.reduceEqDiff, Nat.reduceLT, Nat.reduceLeDiff, Nat.reduceShiftRight, Nat.reduceMod, Nat.reduceBEq, reduceCtorEq, reduceIte, reduceDIte, Int.reduceNeg]
    try (first | rfl | exact ⟨rfl, rfl⟩)
  · rintro ⟨⟨⟨s, a⟩, l, sq, t, k⟩, (h1 : 0 ≤ a), (hI : OInv c t k sq l), (hk0 : 0 ≤ k)⟩
    (simp -implicitDefEqProofs only [go_sem, Prod.eta, Option.isSome_none, Option.isSome_some, Int.toNat_zero, Nat.reduceAdd, Nat.reduceMul, Nat.reduceSub, Nat.reduceEqDiff, Nat.reduceLT, Nat.reduceLeDiff, Nat.reduceShiftRight, Nat.reduceMod, Nat.reduceBEq, reduceCtorEq, reduceIte, reduceDIte, Int.reduceNeg, Bool.not_eq_true', Bool.not_eq_false', Bool.or_eq_true, Bool.or_eq_false_iff, Bool.and_eq_true, Bool.and_eq_false_iff, decide_eq_true_eq, decide_eq_false_iff_not, Classical.not_not, not_or, maxLen, con10, con8, con25, hT, hG, hk, hK, Try.results10]); (try simp (disch := decide +kernel) only [drawn, true_and, and_true])
    obtain ⟨gn, kl, t0, t1, sl, s0, sb1, bx⟩ := hI
    have p1 : 0 ≤ (Src.step (s, a)).snd := step_pos h1
    have p2 : 0 ≤ (Src.step (s, a)).step.snd := step_pos p1
    have p3 : 0 ≤ (Src.step (s, a)).step.step.snd := step_pos p2
    have p4 : 0 ≤ (Src.step (s, a)).step.step.step.snd := step_pos p3
    have p5 : 0 ≤ (Src.step (s, a)).step.step.step.step.snd := step_pos p4
    have r1 := goMod_bd (Src.raw (s, a)) 3 (by omega)
    have r2 := goMod_bd (Src.step (s, a)).raw 4 (by omega)
    have r3 := goMod_bd (Src.step (s, a)).step.raw 8 (by omega)
    have r4 := goMod_bd (Src.step (s, a)).step.step.raw 4 (by omega)
    have r5 := goMod_bd (Src.step (s, a)).step.step.step.raw c (by omega)
    have r6 := tdiv_bd (goMod (Src.step (s, a)).step.raw 8) 7 7 (by omega) (by omega) (by omega)
    have r7 := tdiv_bd (goMod (Src.step (s, a)).step.step.raw 4) 3 3 (by omega) (by omega) (by omega)
    generalize (goMod (Src.step (s, a)).step.raw 8).tdiv 7 = V at r6 ⊢
    generalize (goMod (Src.step (s, a)).step.step.raw 4).tdiv 3 = W at r7 ⊢
    generalize goMod (Src.raw (s, a)) 3 = T at r1 ⊢
    generalize goMod (Src.step (s, a)).raw 4 = D at r2 ⊢
    generalize goMod (Src.step (s, a)).step.step.step.raw c = B at r5 ⊢
    have p8 : 0 ≤ (Src.step (s, a)).step.step.step.step.step.step.step.snd := step_pos (step_pos (step_pos p5))
    have hpc := pieceV_ok (Src.step (s, a)).step.step.step.step n
    generalize (Src.step (s, a)).step.step.step.step.step.step.step = S8 at p8 ⊢
    generalize (Src.step (s, a)).step.step.step.step = S5 at p5 hpc ⊢
    generalize pieceV S5 n = P at hpc ⊢
    obtain ⟨⟨P1, P2, P3⟩, P4, P5⟩ := P
    obtain ⟨s8, a8⟩ := S8
    have p8 : 0 ≤ a8 := p8
    have q0 := s0 (1 + D).toNat
    have q1 := sb1 (1 + D).toNat
    have st := set_at (sq := sq) (i := (1 + D).toNat) (x := sq.getD (1 + D).toNat 0 + (1 + V)) (by omega) (1 + D).toNat
    rw [if_pos rfl] at st
    have e6 : (7 : Int).tdiv 7 = 1 := by decide
    have e7 : (3 : Int).tdiv 3 = 1 := by decide
    rw [e6] at r6
    rw [e7] at r7
    simp only [st, List.length_set, sl]
    generalize hQ : sq.getD (1 + D).toNat 0 = Q at q0 q1 st ⊢
    (repeat' (with_reducible (first | refine And.intro ?_ ?_ | intro _))) <;> (try (first | with_reducible (first | done | assumption | omega | contradiction) | decide))
    · refine evk_loop ⟨{ i : Nat // i ≤ l.length ∧ ∀ z ∈ l.drop i, z.1 = t + T ∧ 1 + D < z.2.1 }, 1000, fun q => [(0, .one (.loc 0 0)), (2, .one (.int .i64 n)), (3, .one (.int .i64 c)), (9, .one (.row 64)), (10, .one (.ep 65 1 0 0)), (11, .one (.int .i64 (t + T))), (12, .one (.int .i64 k)), (14, .one (.loc 71 0)), (15, .one (.int .i64 q.1))],
       fun q => [(0, .cells 67 [.sl (.int .i64) s8 false, .int .i64 a8]), (64, .row 80 yOP l), (65, .row 77 (.int .i64) (sq.set (1 + D).toNat (Q + (1 + V)))), (71, .cells 80 [.int .i64 (t + T), .int .i64 (1 + D), .int .i64 (Q + (1 + V)), .int .i64 (1 + W), .int .i64 (1 + B), .int .i64 P1, .int .i64 P2, .int .i64 P3, .int .i64 P4, .int .i64 P5])], fun q => q.1⟩ ⟨l.length, Nat.le_refl _, by simp⟩ ?_ ?_
      · simp only [go_sem, Prod.eta, Option.isSome_none, Option.isSome_some, Int.toNat_zero, Nat.reduceAdd, Nat.reduceMul, Nat.reduceSub, Nat.reduceEqDiff, Nat.reduceLT, Nat.reduceLeDiff, Nat.reduceShiftRight, Nat.reduceMod, Nat.reduceBEq, reduceCtorEq, reduceIte, reduceDIte, Int.reduceNeg]
        try (first | rfl | exact ⟨rfl, rfl⟩)
      · rintro ⟨i, (hi : i ≤ l.length), (hd : ∀ z ∈ l.drop i, z.1 = t + T ∧ 1 + D < z.2.1)⟩
        (simp -implicitDefEqProofs only [go_sem, Prod.eta, Option.isSome_none, Option.isSome_some, Int.toNat_zero, Nat.reduceAdd, Nat.reduceMul, Nat.reduceSub, Nat.reduceEqDiff, Nat.reduceLT, Nat.reduceLeDiff, Nat.reduceShiftRight, Nat.reduceMod, Nat.reduceBEq, reduceCtorEq, reduceIte, reduceDIte, Int.reduceNeg, Bool.not_eq_true', Bool.not_eq_false', Bool.or_eq_true, Bool.or_eq_false_iff, Bool.and_eq_true, Bool.and_eq_false_iff, decide_eq_true_eq, decide_eq_false_iff_not, Classical.not_not, not_or, maxLen, con10, con8, con25, hT, hG, hk, hK, Try.results10]); (try simp (disch := decide +kernel) only [drawn, true_and, and_true])
        obtain ⟨u, hu⟩ : ∃ u, l.getD ((i : Int) - 1).toNat (0, 0, 0, 0, 0, (0, 0, 0), 0, 0) = u := ⟨_, rfl⟩
        have hu2 : l.getD (i - 1) o0 = u := by rw [← hu]; congr 1; omega
        simp only [hu]
        refine ⟨by omega, by omega, fun _ => ⟨by omega, fun _ => ⟨by omega, by omega, fun _ => ⟨by omega, fun _ => ⟨fun hc => ⟨by omega, ?_⟩, fun hc => ?_⟩⟩⟩⟩⟩
        · refine fin_lp ⟨i - 1, by omega, fun z hz => ?_⟩ ?_ (by dsimp only; omega)
          · rw [List.drop_eq_getElem_cons (by omega : i - 1 < l.length), show i - 1 + 1 = i by omega] at hz
            rcases List.mem_cons.1 hz with rfl | hz
            · rw [getD_at (by omega : i - 1 < l.length)] at hu2
              rw [hu2]; exact ⟨hc.1.2, by omega⟩
            · exact hd z hz
          · simp only [go_sem, Prod.eta, Option.isSome_none, Option.isSome_some, Int.toNat_zero, Nat.reduceAdd, Nat.reduceMul, Nat.reduceSub, Nat.reduceEqDiff, Nat.reduceLT, Nat.reduceLeDiff, Nat.reduceShiftRight, Nat.reduceMod, Nat.reduceBEq, reduceCtorEq, reduceIte, reduceDIte, Int.reduceNeg]
            try (first | rfl | exact ⟨rfl, rfl⟩ | (and_intros <;> first | rfl | omega))
        · have ll : (l ++ [((0, 0, 0, 0, 0, (0, 0, 0), 0, 0) : Opn)]).length = l.length + 1 := by simp
          have ln := gn.okl
          have lb : l.length ≤ 30 := by omega
          have e1 : ((i : Int) + 1).toNat = i + 1 := by omega
          have e2 : ((l.length + 1 : Nat) - ((i : Int) + 1)).toNat = l.length - i := by omega
          have e3 : ((l.length + 1 : Nat) - (i : Int)).toNat = l.length + 1 - i := by omega
          have e4 : (i : Int).toNat = i := by omega
          have w1 : (i + 1) + (l.length - i) ≤ l.length + 1 := by omega
          have w2 : i + (l.length + 1 - i) ≤ l.length + 1 := by omega
          simp only [ll, e1, e2, e3, e4]
          refine ⟨by omega, by omega, by omega, by omega, ?_⟩
          (simp -implicitDefEqProofs only [go_sem, Prod.eta, Option.isSome_none, Option.isSome_some, Int.toNat_zero, Nat.reduceAdd, Nat.reduceMul, Nat.reduceSub, Nat.reduceEqDiff, Nat.reduceLT, Nat.reduceLeDiff, Nat.reduceShiftRight, Nat.reduceMod, Nat.reduceBEq, reduceCtorEq, reduceIte, reduceDIte, Int.reduceNeg, Bool.not_eq_true', Bool.not_eq_false', Bool.or_eq_true, Bool.or_eq_false_iff, Bool.and_eq_true, Bool.and_eq_false_iff, decide_eq_true_eq, decide_eq_false_iff_not, Classical.not_not, not_or, maxLen, con10, con8, con25, hT, hG, hk, hK, Try.results10, w1, w2, ll]); (try simp (disch := decide +kernel) only [drawn, true_and, and_true])
          obtain ⟨i1, i2⟩ := ins_shift l ((0, 0, 0, 0, 0, (0, 0, 0), 0, 0) : Opn) (t + T, 1 + D, Q + (1 + V), 1 + W, 1 + B, (P1, P2, P3), P4, P5) i hi
          rw [e4]
          rw [i1, i2]
          refine ⟨by omega, fun _ => ⟨by omega, by omega, ?_⟩⟩
          have ok : okOp (t + T, 1 + D, Q + (1 + V), 1 + W, 1 + B, (P1, P2, P3), P4, P5) = true := by
           unfold okOp inV
           simp only [hpc, Bool.and_eq_true, Bool.or_eq_true, decide_eq_true_eq, and_true]
           omega
          have hmm : ∀ z ∈ l.take i ++ (t + T, 1 + D, Q + (1 + V), 1 + W, 1 + B, (P1, P2, P3), P4, P5) :: l.drop i, 1 ≤ z.2.2.2.2.1 ∧ z.2.2.2.2.1 ≤ c := fun z hz => by
           rcases List.mem_append.1 hz with h | h
           · exact bx z (List.mem_of_mem_take h)
           · rcases List.mem_cons.1 h with rfl | h
             · exact ⟨by dsimp only; omega, by dsimp only; omega⟩
             · exact bx z (List.mem_of_mem_drop h)
          have hgn := gn.ins (o := (t + T, 1 + D, Q + (1 + V), 1 + W, 1 + B, (P1, P2, P3), P4, P5)) (i := i) ok ⟨by dsimp only; omega, by dsimp only; omega⟩ (by dsimp only; omega) sl (by dsimp only; rw [hQ]; omega) hi hd (fun h0 q => by rw [hu2] at q; have q1 : u.1 = t + T := q.1; have q2 : 1 + D < u.2.1 := q.2; omega)
          have hlen : (l.take i ++ (t + T, 1 + D, Q + (1 + V), 1 + W, 1 + B, (P1, P2, P3), P4, P5) :: l.drop i).length = l.length + 1 := by simp; omega
          have sg : ∀ d, (sq.set (1 + D).toNat (Q + (1 + V))).getD d 0 = if (1 + D).toNat = d then Q + (1 + V) else sq.getD d 0 := fun d => set_at (by omega) d
          refine fin_lp ⟨((s8, a8), l.take i ++ (t + T, 1 + D, Q + (1 + V), 1 + W, 1 + B, (P1, P2, P3), P4, P5) :: l.drop i, sq.set (1 + D).toNat (Q + (1 + V)), t + T, k - 1), p8, ⟨hgn, ?_, ?_, ?_, ?_, fun d => ?_, fun d => ?_, hmm⟩, ?_⟩ ?_ ?_
          · rw [hlen]; dsimp only; omega
          · dsimp only; omega
          · rw [hlen]; dsimp only; omega
          · simp only [List.length_set]; exact sl
          · rw [sg]
            have := s0 d
            split <;> omega
          · rw [sg, hlen]
            have := sb1 d
            split <;> omega
          · dsimp only; omega
          · simp only [go_sem, Prod.eta, Option.isSome_none, Option.isSome_some, Int.toNat_zero, Nat.reduceAdd, Nat.reduceMul, Nat.reduceSub, Nat.reduceEqDiff, Nat.reduceLT, Nat.reduceLeDiff, Nat.reduceShiftRight, Nat.reduceMod, Nat.reduceBEq, reduceCtorEq, reduceIte, reduceDIte, Int.reduceNeg]
            try (first | rfl | exact ⟨rfl, rfl⟩ | (and_intros <;> first | rfl | omega))
          · dsimp only; omega
    · exact ⟨(l, ()), ((s, a), most, n, c, ()), ⟨h1, ⟨gn.okl, (show l.length ≤ 30 by omega), gn.dv, fun o ho => by have := gn.tm o ho; omega, bx⟩⟩, rfl, rfl, rfl⟩)
end Go.Proofs.Ytjhoidgpecgfoaa
