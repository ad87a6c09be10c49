/- Orders: comparisons that answer with a sign; lists in order; the one list in order. -/
import Derived.Test.YtjhoidgpecgfoaaGreatDgKaToSortF
set_option linter.unusedSimpArgs false
set_option linter.unusedVariables false
namespace Go.Ev
open Go.Sort (SWO)

def cmpV (a b : Int) : Int := if a < b then -1 else if a > b then 1 else 0
def orV : List Int → Int
 | [] => 0
 | x :: l => if x = 0 then orV l else x
/-- What a comparison is. -/
structure Cmp {α : Type} (c : α → α → Int) : Prop where
 eq : ∀ a b, c a b = 0 ↔ a = b
 anti : ∀ a b, c a b < 0 ↔ 0 < c b a
 trans : ∀ a b d, c a b < 0 → c b d < 0 → c a d < 0
 unit : ∀ a b, -1 ≤ c a b ∧ c a b ≤ 1
theorem cmpV_cmp : Cmp cmpV := by
 refine ⟨fun a b => ?_, fun a b => ?_, fun a b d => ?_, fun a b => ?_⟩ <;> unfold cmpV
 · split
   · omega
   · split <;> omega
 · (repeat' split) <;> omega
 · intro h1 h2
   have a1 : a < b := by
    apply Classical.byContradiction
    intro h
    rw [if_neg h] at h1
    split at h1 <;> omega
   have a2 : b < d := by
    apply Classical.byContradiction
    intro h
    rw [if_neg h] at h2
    split at h2 <;> omega
   rw [if_pos (by omega)]; omega
 · split
   · omega
   · split <;> omega
def lexC {α β : Type} (c : α → α → Int) (d : β → β → Int) (x y : α × β) : Int := if c x.1 y.1 = 0 then d x.2 y.2 else c x.1 y.1
theorem Cmp.lex {α β : Type} {c : α → α → Int} {d : β → β → Int} (hc : Cmp c) (hd : Cmp d) : Cmp (lexC c d) := by
 have sym : ∀ a b, c a b = 0 → c b a = 0 := fun a b h => (hc.eq b a).2 ((hc.eq a b).1 h).symm
 refine ⟨fun a b => ?_, fun a b => ?_, fun a b e => ?_, fun a b => ?_⟩ <;> unfold lexC
 · by_cases h : c a.1 b.1 = 0
   · rw [if_pos h, hd.eq]
     have := (hc.eq _ _).1 h
     exact ⟨fun k => Prod.ext this k, fun k => by rw [k]⟩
   · rw [if_neg h]
     exact ⟨fun k => absurd k h, fun k => absurd ((hc.eq _ _).2 (by rw [k])) h⟩
 · by_cases h : c a.1 b.1 = 0
   · rw [if_pos h, if_pos (sym _ _ h)]; exact hd.anti _ _
   · rw [if_neg h, if_neg (fun k => h (sym _ _ k))]; exact hc.anti _ _
 · by_cases h : c a.1 b.1 = 0
   · have e1 := (hc.eq _ _).1 h
     rw [if_pos h, e1]
     by_cases h2 : c b.1 e.1 = 0
     · simp only [h2, if_true]; exact hd.trans _ _ _
     · simp only [h2, if_false]; exact fun _ k => k
   · rw [if_neg h]
     by_cases h2 : c b.1 e.1 = 0
     · rw [if_pos h2, ← (hc.eq _ _).1 h2, if_neg h]; exact fun k _ => k
     · rw [if_neg h2]
       intro k1 k2
       have := hc.trans _ _ _ k1 k2
       rw [if_neg (by omega)]; exact this
 · split
   · exact hd.unit _ _
   · exact hc.unit _ _
theorem Cmp.swo {α : Type} {c : α → α → Int} (h : Cmp c) : SWO (fun x y => decide (c x y < 0)) := by
 refine ⟨fun x => ?_, fun x y z h1 h2 => ?_, fun x y z h1 h2 => ?_⟩
 · have := (h.eq x x).2 rfl
   exact decide_eq_false (by omega)
 · exact decide_eq_true (h.trans x y z (of_decide_eq_true h1) (of_decide_eq_true h2))
 · have a1 := of_decide_eq_false h1
   have a2 := of_decide_eq_false h2
   refine decide_eq_false fun k => ?_
   by_cases e : c x y = 0
   · rw [(h.eq _ _).1 e] at k; exact a2 k
   · have := h.anti x y
     have b := h.anti y x
     have e2 : c y x ≠ 0 := fun q => e ((h.eq _ _).2 ((h.eq _ _).1 q).symm)
     have : c y x < 0 := by omega
     exact a2 (h.trans _ _ _ this k)
/-- In the order of a comparison. -/
def sortBy {α : Type} (c : α → α → Int) (l : List α) : List α := l.mergeSort (fun a b => decide (c a b ≤ 0))
theorem sortBy_perm {α : Type} (c : α → α → Int) (l : List α) : (sortBy c l).Perm l := List.mergeSort_perm l _
theorem Cmp.tot {α : Type} {c : α → α → Int} (h : Cmp c) (a b : α) : ¬ c a b ≤ 0 → c b a < 0 := fun k => (h.anti b a).2 (by omega)
theorem sortBy_sorted {α : Type} {c : α → α → Int} (h : Cmp c) (l : List α) : (sortBy c l).Pairwise (fun a b => c a b ≤ 0) := by
 have k := List.pairwise_mergeSort (le := fun a b : α => decide (c a b ≤ 0)) (fun a b d h1 h2 => by
  have h1 := of_decide_eq_true h1
  have h2 := of_decide_eq_true h2
  refine decide_eq_true ?_
  by_cases e1 : c a b = 0
  · rw [(h.eq _ _).1 e1]; exact h2
  · by_cases e2 : c b d = 0
    · rw [← (h.eq _ _).1 e2]; exact h1
    · have := h.trans a b d (by omega) (by omega)
      omega) (fun a b => by
  simp only [Bool.or_eq_true, decide_eq_true_eq]
  by_cases q : c a b ≤ 0
  · exact .inl q
  · have := h.tot _ _ q
    exact .inr (by omega)) l
 exact k.imp (fun h => by simpa using h)
end Go.Ev

/- The order of plates; pieces; the generators of single values. -/
set_option linter.unusedSimpArgs false
set_option linter.unusedVariables false
set_option maxRecDepth 100000
set_option maxHeartbeats 4000000
namespace Go.Proofs.YtjhoidgpecgfoaaGreat
open Go.Ev

abbrev Plt := Int × Int × Int
abbrev Pce := Plt × Int × Int
abbrev Opn := Int × Int × Int × Int × Int × Pce
def Opn.plate (o : Opn) : Plt := o.2.2.2.2.2.1
def Opn.seq (o : Opn) : Int := o.2.2.1
def Opn.kind (o : Opn) : Int := o.2.2.2.1
def Opn.box (o : Opn) : Int := o.2.2.2.2.1
def con135 : Con := { ps := [.d false (.int .i64)], rs := [.d false .bool], pre := fun _ => True, out := fun x => (false, ()), nw := id }
theorem c135 : CtrOk Tryz.prog 135 con135.ctr :=
 con_sound (G := ⟨[], [], [], []⟩) tab_ok EnvOk.nil rfl Tryz.func135 rfl con135 5 (by kernel_rfl) (by decide) (by decide) rfl (by decide) rfl (by
  rintro ⟨(p : Int), _⟩ hpre hwf X hT hG hk hK
  (simp -implicitDefEqProofs only [go_sem, Prod.eta, Option.isSome_none, Option.isSome_some, Int.toNat_zero, Nat.reduceAdd, Nat.reduceMul, Nat.reduceSub, Nat.reduceEqDiff, Nat.reduceLT, Nat.reduceLeDiff, Nat.reduceShiftRight, Nat.reduceMod, Nat.reduceBEq, reduceCtorEq, reduceIte, reduceDIte, Int.reduceNeg, con135, hT, hG, hk, hK, Tryz.results135] at hwf ⊢); (try simp (disch := decide +kernel) only [drawn, true_and, and_true]))
def con84 : Con := { ps := [.d false (.int .i64), .d false (.int .i64)], rs := [.d false (.int .i64)], pre := fun _ => True, out := fun x => (cmpV x.1 x.2.1, ()), nw := id }
theorem c84 : CtrOk Tryz.prog 84 con84.ctr :=
 con_sound (G := ⟨[(135, con135.ctr)], [], [], []⟩) tab_ok (EnvOk.cons c135 has135 EnvOk.nil) rfl Tryz.func84 rfl con84 604275 (by kernel_rfl) (by decide) (by decide) rfl (by decide) rfl (by
  rintro ⟨(a : Int), (b : Int), _⟩ hpre hwf X hT hG hk hK
  (simp -implicitDefEqProofs only [go_sem, Prod.eta, Option.isSome_none, Option.isSome_some, Int.toNat_zero, Nat.reduceAdd, Nat.reduceMul, Nat.reduceSub, Nat.reduceEqDiff, Nat.reduceLT, Nat.reduceLeDiff, Nat.reduceShiftRight, Nat.reduceMod, Nat.reduceBEq, reduceCtorEq, reduceIte, reduceDIte, Int.reduceNeg, con84, con135, hT, hG, hk, hK, Tryz.results84] at hwf ⊢); (try simp (disch := decide +kernel) only [drawn, true_and, and_true])
  unfold cmpV
  refine ⟨fun h => h.elim, fun h => h.elim, fun h => by rw [if_pos h], fun h => ⟨fun k => by rw [if_neg h, if_pos k], fun k => by rw [if_neg h, if_neg k]⟩⟩)
def con106 : Con := { ps := [.d false (.sl (.int .i64))], rs := [.d false (.int .i64)], pre := fun _ => True, out := fun x => (orV x.1, ()), nw := id }
theorem c106 : CtrOk Tryz.prog 106 con106.ctr :=
 con_sound (G := ⟨[], [], [], []⟩) tab_ok EnvOk.nil rfl Tryz.func106 rfl con106 17389 (by kernel_rfl) (by decide) (by decide) rfl (by decide) rfl (by
  rintro ⟨(l : List Int), _⟩ hpre hwf X hT hG hk hK
  (simp -implicitDefEqProofs only [go_sem, Prod.eta, Option.isSome_none, Option.isSome_some, Int.toNat_zero, Nat.reduceAdd, Nat.reduceMul, Nat.reduceSub, Nat.reduceEqDiff, Nat.reduceLT, Nat.reduceLeDiff, Nat.reduceShiftRight, Nat.reduceMod, Nat.reduceBEq, reduceCtorEq, reduceIte, reduceDIte, Int.reduceNeg, Bool.not_eq_true', Bool.not_eq_false', Bool.or_eq_true, Bool.or_eq_false_iff, Bool.and_eq_true, Bool.and_eq_false_iff, decide_eq_true_eq, decide_eq_false_iff_not, Classical.not_not, not_or, maxLen, con106, hT, hG, hk, hK, Tryz.results106] at hwf ⊢); (try simp (disch := decide +kernel) only [drawn, true_and, and_true])
  intro hl
  refine evk_loop ⟨{ i : Nat // i ≤ l.length ∧ orV l = orV (l.drop i) }, 1000, fun i => [(3, .one (.int .i64 0)), (6, .one (.sl (.int .i64) l false)), (7, .one (.int .i64 l.length)), (8, .one (.int .i64 i.1))], fun _ => [], fun i => l.length - i.1⟩ ⟨0, by simp, by simp⟩ ?_ ?_
  · simp only [go_sem, Prod.eta, Option.isSome_none, Option.isSome_some, Int.toNat_zero, Nat.reduceAdd, Nat.reduceMul, Nat.reduceSub, Nat.reduceEqDiff, Nat.reduceLT, Nat.reduceLeDiff, Nat.reduceShiftRight, Nat.reduceMod, Nat.reduceBEq, reduceCtorEq, reduceIte, reduceDIte, Int.reduceNeg]
    rfl
  · rintro ⟨i, (hi : i ≤ l.length), (he : orV l = orV (l.drop i))⟩
    (simp -implicitDefEqProofs only [go_sem, Prod.eta, Option.isSome_none, Option.isSome_some, Int.toNat_zero, Nat.reduceAdd, Nat.reduceMul, Nat.reduceSub, Nat.reduceEqDiff, Nat.reduceLT, Nat.reduceLeDiff, Nat.reduceShiftRight, Nat.reduceMod, Nat.reduceBEq, reduceCtorEq, reduceIte, reduceDIte, Int.reduceNeg, Bool.not_eq_true', Bool.not_eq_false', Bool.or_eq_true, Bool.or_eq_false_iff, Bool.and_eq_true, Bool.and_eq_false_iff, decide_eq_true_eq, decide_eq_false_iff_not, Classical.not_not, not_or, maxLen, con106, hT, hG, hk, hK, Tryz.results106]); (try simp (disch := decide +kernel) only [drawn, true_and, and_true])
    refine ⟨fun hlt => ?_, fun hge => ?_⟩
    · have hi' : i < l.length := by omega
      have ek : l.getD (i : Int).toNat 0 = l[i] := by simp [hi']
      rw [ek]
      have hst : orV l = if l[i] = 0 then orV (l.drop (i + 1)) else l[i] := by
       rw [he, List.drop_eq_getElem_cons hi', orV]
      (repeat' (with_reducible (first | refine And.intro ?_ ?_ | intro _))) <;> (try (first | with_reducible (first | done | assumption | omega | contradiction) | decide))
      all_goals rename_i h
      · first
         | rw [hst, if_neg h]
         | (refine fin_lp ⟨i + 1, by omega, ?_⟩ ?_ ?_
            · rw [hst, if_pos h]
            · simp only [go_sem, Prod.eta, Option.isSome_none, Option.isSome_some, Int.toNat_zero, Nat.reduceAdd, Nat.reduceMul, Nat.reduceSub, Nat.reduceEqDiff, Nat.reduceLT, Nat.reduceLeDiff, Nat.reduceShiftRight, Nat.reduceMod, Nat.reduceBEq, reduceCtorEq, reduceIte, reduceDIte, Int.reduceNeg]
              rfl
            · show l.length - (i + 1) < l.length - i
              omega)
    · rw [he, List.drop_of_length_le (by omega)]
      rfl)
def pltC (a b : Plt) : Int := lexC cmpV (lexC cmpV cmpV) a b
theorem pltC_cmp : Cmp pltC := cmpV_cmp.lex (cmpV_cmp.lex cmpV_cmp)
def con49 : Con := { ps := [.d true yPL, .d true yPL], rs := [.d false (.int .i64)], pre := fun _ => True, out := fun (x : Plt × Plt × Unit) => (pltC x.1 x.2.1, ()), nw := id }
theorem c49 : CtrOk Tryz.prog 49 con49.ctr :=
 con_sound (G := ⟨[(106, con106.ctr), (84, con84.ctr)], [], [], []⟩) tab_ok (EnvOk.cons c106 has106 (EnvOk.cons c84 has84 EnvOk.nil)) rfl Tryz.func49 rfl con49 31 (by kernel_rfl) (by decide) (by decide) rfl (by decide) rfl (by
  rintro ⟨⟨(a1 : Int), (a2 : Int), (a3 : Int)⟩, ⟨(b1 : Int), (b2 : Int), (b3 : Int)⟩, _⟩ hpre hwf X hT hG hk hK
  (simp -implicitDefEqProofs only [go_sem, Prod.eta, Option.isSome_none, Option.isSome_some, Int.toNat_zero, Nat.reduceAdd, Nat.reduceMul, Nat.reduceSub, Nat.reduceEqDiff, Nat.reduceLT, Nat.reduceLeDiff, Nat.reduceShiftRight, Nat.reduceMod, Nat.reduceBEq, reduceCtorEq, reduceIte, reduceDIte, Int.reduceNeg, Bool.not_eq_true', Bool.not_eq_false', Bool.or_eq_true, Bool.or_eq_false_iff, Bool.and_eq_true, Bool.and_eq_false_iff, decide_eq_true_eq, decide_eq_false_iff_not, Classical.not_not, not_or, maxLen, con49, con106, con84, hT, hG, hk, hK, Tryz.results49] at hwf ⊢); (try simp (disch := decide +kernel) only [drawn, true_and, and_true])
  (repeat' (with_reducible (first | refine And.intro ?_ ?_ | intro _))) <;> (try (first | with_reducible (first | done | assumption | omega | contradiction) | decide))
  unfold pltC lexC
  simp only [orV]
  (repeat' split) <;> first | rfl | omega)
def con146 : Con := { ps := [.d false (.int .i64), .d false (.int .i64)], rs := [.d false (.int .i64)], pre := fun _ => True, out := fun x => (cmpV x.1 x.2.1, ()), nw := id }
theorem c146 : CtrOk Tryz.prog 146 con146.ctr :=
 con_sound (G := ⟨[], [], [], []⟩) tab_ok EnvOk.nil rfl Tryz.func146 rfl con146 1171 (by kernel_rfl) (by decide) (by decide) rfl (by decide) rfl (by
  rintro ⟨(a : Int), (b : Int), _⟩ hpre hwf X hT hG hk hK
  (simp -implicitDefEqProofs only [go_sem, Prod.eta, Option.isSome_none, Option.isSome_some, Int.toNat_zero, Nat.reduceAdd, Nat.reduceMul, Nat.reduceSub, Nat.reduceEqDiff, Nat.reduceLT, Nat.reduceLeDiff, Nat.reduceShiftRight, Nat.reduceMod, Nat.reduceBEq, reduceCtorEq, reduceIte, reduceDIte, Int.reduceNeg, Bool.not_eq_true', Bool.not_eq_false', Bool.or_eq_true, Bool.or_eq_false_iff, Bool.and_eq_true, Bool.and_eq_false_iff, decide_eq_true_eq, decide_eq_false_iff_not, Classical.not_not, not_or, maxLen, con146, hT, hG, hk, hK, Tryz.results146] at hwf ⊢); (try simp (disch := decide +kernel) only [drawn, true_and, and_true])
  unfold cmpV
  refine ⟨fun h => by rw [if_pos h], fun h => ⟨fun k => by rw [if_neg h, if_pos k], fun k => by rw [if_neg h, if_neg k]⟩⟩)
def con101 : Con := { ps := [.d true yPL, .d true yPL], rs := [.d false (.int .i64)], pre := fun _ => True, out := fun (x : Plt × Plt × Unit) => (pltC x.1 x.2.1, ()), nw := id }
theorem c101 : CtrOk Tryz.prog 101 con101.ctr :=
 con_sound (G := ⟨[(146, con146.ctr)], [], [], []⟩) tab_ok (EnvOk.cons c146 has146 EnvOk.nil) rfl Tryz.func101 rfl con101 2105471 (by kernel_rfl) (by decide) (by decide) rfl (by decide) rfl (by
  rintro ⟨⟨(a1 : Int), (a2 : Int), (a3 : Int)⟩, ⟨(b1 : Int), (b2 : Int), (b3 : Int)⟩, _⟩ hpre hwf X hT hG hk hK
  (simp -implicitDefEqProofs only [go_sem, Prod.eta, Option.isSome_none, Option.isSome_some, Int.toNat_zero, Nat.reduceAdd, Nat.reduceMul, Nat.reduceSub, Nat.reduceEqDiff, Nat.reduceLT, Nat.reduceLeDiff, Nat.reduceShiftRight, Nat.reduceMod, Nat.reduceBEq, reduceCtorEq, reduceIte, reduceDIte, Int.reduceNeg, Bool.not_eq_true', Bool.not_eq_false', Bool.or_eq_true, Bool.or_eq_false_iff, Bool.and_eq_true, Bool.and_eq_false_iff, decide_eq_true_eq, decide_eq_false_iff_not, Classical.not_not, not_or, maxLen, con101, con146, hT, hG, hk, hK, Tryz.results101] at hwf ⊢); (try simp (disch := decide +kernel) only [drawn, true_and, and_true])
  (repeat' (with_reducible (first | refine And.intro ?_ ?_ | intro _))) <;> (try (first | with_reducible (first | done | assumption | omega | contradiction) | decide))
  all_goals (try unfold pltC lexC)
  all_goals (try dsimp only)
  all_goals (repeat' split)
  all_goals first | rfl | omega | contradiction | skip)
def okPl (p : Plt) : Bool := inV p.1 0 9 && inV p.2.1 1 999 && inV p.2.2 0 999999
def okPc (x : Pce) : Bool := okPl x.1 && inV x.2.1 1 999 && inV x.2.2 0 4
def okOp (o : Opn) : Bool := inV o.1 0 1048576 && inV o.2.1 1 6 && inV o.2.2.1 1 1048576 && (decide (o.2.2.2.1 = 1) || decide (o.2.2.2.1 = 2)) && inV o.2.2.2.2.1 1 999 && okPc o.2.2.2.2.2
def con185 : Con := { ps := [.d false (.int .i64), .d false (.int .i64), .d false (.int .i64)], rs := [.d false .bool], pre := fun _ => True, out := fun x => (inV x.1 x.2.1 x.2.2.1, ()), nw := id }
theorem c185 : CtrOk Tryz.prog 185 con185.ctr :=
 con_sound (G := ⟨[], [], [], []⟩) tab_ok EnvOk.nil rfl Tryz.func185 rfl con185 71 (by kernel_rfl) (by decide) (by decide) rfl (by decide) rfl (by
  rintro ⟨(n : Int), (a : Int), (b : Int), _⟩ hpre hwf X hT hG hk hK
  (simp -implicitDefEqProofs only [go_sem, Prod.eta, Option.isSome_none, Option.isSome_some, Int.toNat_zero, Nat.reduceAdd, Nat.reduceMul, Nat.reduceSub, Nat.reduceEqDiff, Nat.reduceLT, Nat.reduceLeDiff, Nat.reduceShiftRight, Nat.reduceMod, Nat.reduceBEq, reduceCtorEq, reduceIte, reduceDIte, Int.reduceNeg, Bool.not_eq_true', Bool.not_eq_false', Bool.or_eq_true, Bool.or_eq_false_iff, Bool.and_eq_true, Bool.and_eq_false_iff, decide_eq_true_eq, decide_eq_false_iff_not, Classical.not_not, not_or, maxLen, con185, hT, hG, hk, hK, Tryz.results185] at hwf ⊢); (try simp (disch := decide +kernel) only [drawn, true_and, and_true])
  (repeat' (with_reducible (first | refine And.intro ?_ ?_ | intro _))) <;> (try (first | with_reducible (first | done | assumption | omega | contradiction) | decide))
  rfl)
def con128 : Con := { ps := [.d true yPL], rs := [.d false .bool], pre := fun _ => True, out := fun (x : Plt × Unit) => (okPl x.1, ()), nw := id }
theorem c128 : CtrOk Tryz.prog 128 con128.ctr :=
 con_sound (G := ⟨[], [], [], []⟩) tab_ok EnvOk.nil rfl Tryz.func128 rfl con128 7 (by kernel_rfl) (by decide) (by decide) rfl (by decide) rfl (by
  rintro ⟨⟨(a : Int), (b : Int), (c : Int)⟩, _⟩ hpre hwf X hT hG hk hK
  (simp -implicitDefEqProofs only [go_sem, Prod.eta, Option.isSome_none, Option.isSome_some, Int.toNat_zero, Nat.reduceAdd, Nat.reduceMul, Nat.reduceSub, Nat.reduceEqDiff, Nat.reduceLT, Nat.reduceLeDiff, Nat.reduceShiftRight, Nat.reduceMod, Nat.reduceBEq, reduceCtorEq, reduceIte, reduceDIte, Int.reduceNeg, Bool.not_eq_true', Bool.not_eq_false', Bool.or_eq_true, Bool.or_eq_false_iff, Bool.and_eq_true, Bool.and_eq_false_iff, decide_eq_true_eq, decide_eq_false_iff_not, Classical.not_not, not_or, maxLen, con128, hT, hG, hk, hK, Tryz.results128] at hwf ⊢); (try simp (disch := decide +kernel) only [drawn, true_and, and_true])
  unfold okPl inV
  rw [Bool.eq_iff_iff]
  simp only [Bool.and_eq_true, decide_eq_true_eq]
  omega)
def con179 : Con := { ps := [.d true yPL], rs := [.d false .bool], pre := fun _ => True, out := fun (x : Plt × Unit) => (okPl x.1, ()), nw := id }
theorem c179 : CtrOk Tryz.prog 179 con179.ctr :=
 con_sound (G := ⟨[], [], [], []⟩) tab_ok EnvOk.nil rfl Tryz.func179 rfl con179 7 (by kernel_rfl) (by decide) (by decide) rfl (by decide) rfl (by
  rintro ⟨⟨(a : Int), (b : Int), (c : Int)⟩, _⟩ hpre hwf X hT hG hk hK
  (simp -implicitDefEqProofs only [go_sem, Prod.eta, Option.isSome_none, Option.isSome_some, Int.toNat_zero, Nat.reduceAdd, Nat.reduceMul, Nat.reduceSub, Nat.reduceEqDiff, Nat.reduceLT, Nat.reduceLeDiff, Nat.reduceShiftRight, Nat.reduceMod, Nat.reduceBEq, reduceCtorEq, reduceIte, reduceDIte, Int.reduceNeg, Bool.not_eq_true', Bool.not_eq_false', Bool.or_eq_true, Bool.or_eq_false_iff, Bool.and_eq_true, Bool.and_eq_false_iff, decide_eq_true_eq, decide_eq_false_iff_not, Classical.not_not, not_or, maxLen, con179, hT, hG, hk, hK, Tryz.results179] at hwf ⊢); (try simp (disch := decide +kernel) only [drawn, true_and, and_true])
  unfold okPl inV
  rw [Bool.eq_iff_iff]
  simp only [Bool.and_eq_true, decide_eq_true_eq]
  omega)
def con159 : Con := { ps := [.d true yPC], rs := [.d false .bool], pre := fun _ => True, out := fun (x : Pce × Unit) => (okPc x.1, ()), nw := id }
theorem c159 : CtrOk Tryz.prog 159 con159.ctr :=
 con_sound (G := ⟨[(185, con185.ctr), (128, con128.ctr)], [], [], []⟩) tab_ok (EnvOk.cons c185 has185 (EnvOk.cons c128 has128 EnvOk.nil)) rfl Tryz.func159 rfl con159 7 (by kernel_rfl) (by decide) (by decide) rfl (by decide) rfl (by
  rintro ⟨⟨⟨(a : Int), (b : Int), (c : Int)⟩, (d : Int), (e : Int)⟩, _⟩ hpre hwf X hT hG hk hK
  (simp -implicitDefEqProofs only [go_sem, Prod.eta, Option.isSome_none, Option.isSome_some, Int.toNat_zero, Nat.reduceAdd, Nat.reduceMul, Nat.reduceSub, Nat.reduceEqDiff, Nat.reduceLT, Nat.reduceLeDiff, Nat.reduceShiftRight, Nat.reduceMod, Nat.reduceBEq, reduceCtorEq, reduceIte, reduceDIte, Int.reduceNeg, Bool.not_eq_true', Bool.not_eq_false', Bool.or_eq_true, Bool.or_eq_false_iff, Bool.and_eq_true, Bool.and_eq_false_iff, decide_eq_true_eq, decide_eq_false_iff_not, Classical.not_not, not_or, maxLen, con159, con185, con128, hT, hG, hk, hK, Tryz.results159] at hwf ⊢); (try simp (disch := decide +kernel) only [drawn, true_and, and_true])
  unfold okPc
  generalize okPl (a, b, c) = q1
  generalize inV d 1 999 = q2
  generalize inV e 0 4 = q3
  cases q1 <;> cases q2 <;> cases q3 <;> simp)
def con145 : Con := { ps := [.d true yPC], rs := [.d false .bool], pre := fun _ => True, out := fun (x : Pce × Unit) => (okPc x.1, ()), nw := id }
theorem c145 : CtrOk Tryz.prog 145 con145.ctr :=
 con_sound (G := ⟨[(179, con179.ctr)], [], [], []⟩) tab_ok (EnvOk.cons c179 has179 EnvOk.nil) rfl Tryz.func145 rfl con145 7 (by kernel_rfl) (by decide) (by decide) rfl (by decide) rfl (by
  rintro ⟨⟨⟨(a : Int), (b : Int), (c : Int)⟩, (d : Int), (e : Int)⟩, _⟩ hpre hwf X hT hG hk hK
  (simp -implicitDefEqProofs only [go_sem, Prod.eta, Option.isSome_none, Option.isSome_some, Int.toNat_zero, Nat.reduceAdd, Nat.reduceMul, Nat.reduceSub, Nat.reduceEqDiff, Nat.reduceLT, Nat.reduceLeDiff, Nat.reduceShiftRight, Nat.reduceMod, Nat.reduceBEq, reduceCtorEq, reduceIte, reduceDIte, Int.reduceNeg, Bool.not_eq_true', Bool.not_eq_false', Bool.or_eq_true, Bool.or_eq_false_iff, Bool.and_eq_true, Bool.and_eq_false_iff, decide_eq_true_eq, decide_eq_false_iff_not, Classical.not_not, not_or, maxLen, con145, con179, hT, hG, hk, hK, Tryz.results145] at hwf ⊢); (try simp (disch := decide +kernel) only [drawn, true_and, and_true])
  unfold okPc inV
  generalize okPl (a, b, c) = q1
  rw [Bool.eq_iff_iff]
  cases q1 <;> simp only [Bool.and_eq_true, decide_eq_true_eq, Bool.false_eq_true, false_and, true_and] <;> (try omega))
def platesV (i : Int) : Plt := ((goMod i 1000).tdiv 500, 117 + ((goMod i 1000).tdiv 100).tmod 5, 1000 + (goMod i 1000).tmod 100)
def con31 : Con := { ps := [.d false (.int .i64)], rs := [.d true yPL], pre := fun _ => True, out := fun x => (platesV x.1, ()), nw := id }
theorem c31 : CtrOk Tryz.prog 31 con31.ctr :=
 con_sound (G := ⟨[(41, con41.ctr)], [], [], []⟩) tab_ok (EnvOk.cons c41 has41 EnvOk.nil) rfl Tryz.func31 rfl con31 5 (by kernel_rfl) (by decide) (by decide) rfl (by decide) rfl (by
  rintro ⟨(i : Int), _⟩ hpre hwf X hT hG hk hK
  (simp -implicitDefEqProofs only [go_sem, Prod.eta, Option.isSome_none, Option.isSome_some, Int.toNat_zero, Nat.reduceAdd, Nat.reduceMul, Nat.reduceSub, Nat.reduceEqDiff, Nat.reduceLT, Nat.reduceLeDiff, Nat.reduceShiftRight, Nat.reduceMod, Nat.reduceBEq, reduceCtorEq, reduceIte, reduceDIte, Int.reduceNeg, Bool.not_eq_true', Bool.not_eq_false', Bool.or_eq_true, Bool.or_eq_false_iff, Bool.and_eq_true, Bool.and_eq_false_iff, decide_eq_true_eq, decide_eq_false_iff_not, Classical.not_not, not_or, maxLen, con31, con41, hT, hG, hk, hK, Tryz.results31] at hwf ⊢); (try simp (disch := decide +kernel) only [drawn, true_and, and_true])
  have hb := goMod_bd i 1000 (by omega)
  have := tmod_bd ((goMod i 1000).tdiv 100) 5 (by omega)
  have := tmod_bd (goMod i 1000) 100 (by omega)
  have : 0 ≤ (goMod i 1000).tdiv 500 := Int.tdiv_nonneg hb.1 (by omega)
  have : (goMod i 1000).tdiv 500 ≤ goMod i 1000 := Int.tdiv_le_self 500 hb.1
  have : 0 ≤ (goMod i 1000).tdiv 100 := Int.tdiv_nonneg hb.1 (by omega)
  have : (goMod i 1000).tdiv 100 ≤ goMod i 1000 := Int.tdiv_le_self 100 hb.1
  (repeat' (with_reducible (first | refine And.intro ?_ ?_ | intro _))) <;> (try (first | with_reducible (first | done | assumption | omega | contradiction) | decide))
  all_goals rfl)
theorem step_pos {s : Src} (h : 0 ≤ s.2) : 0 ≤ (Src.step s).2 := Src.step_pos s h
def con98 : Con := { ps := [.p 103 ySR, .d false (.int .i64)], rs := [.d true yPL], pre := fun x => 0 ≤ x.1.2, out := fun x => (platesV (goMod (Src.raw x.1) x.2.1), ()), nw := fun x => (Src.step x.1, x.2) }
theorem c98 : CtrOk Tryz.prog 98 con98.ctr :=
 con_sound (G := ⟨[(11, con11.ctr), (31, con31.ctr)], [], [], []⟩) tab_ok (EnvOk.cons c11 has11 (EnvOk.cons c31 has31 EnvOk.nil)) rfl Tryz.func98 rfl con98 19 (by kernel_rfl) (by decide) (by decide) rfl (by decide) rfl (by
  rintro ⟨⟨(s : List Int), (a : Int)⟩, (n : Int), _⟩ hpre hwf X hT hG hk hK
  (simp -implicitDefEqProofs only [go_sem, Prod.eta, Option.isSome_none, Option.isSome_some, Int.toNat_zero, Nat.reduceAdd, Nat.reduceMul, Nat.reduceSub, Nat.reduceEqDiff, Nat.reduceLT, Nat.reduceLeDiff, Nat.reduceShiftRight, Nat.reduceMod, Nat.reduceBEq, reduceCtorEq, reduceIte, reduceDIte, Int.reduceNeg, Bool.not_eq_true', Bool.not_eq_false', Bool.or_eq_true, Bool.or_eq_false_iff, Bool.and_eq_true, Bool.and_eq_false_iff, decide_eq_true_eq, decide_eq_false_iff_not, Classical.not_not, not_or, maxLen, con98, con11, con31, hT, hG, hk, hK, Tryz.results98] at hwf ⊢); (try simp (disch := decide +kernel) only [drawn, true_and, and_true])
  exact hpre)
def con39 : Con := { ps := [.p 103 ySR, .d false (.sl (.int .i64))], rs := [.d false (.int .i64)], pre := fun (x : Src × List Int × Unit) => 0 ≤ x.1.2 ∧ 0 < x.2.1.length, out := fun (x : Src × List Int × Unit) => (x.2.1.getD (goMod (Src.raw x.1) x.2.1.length).toNat 0, ()), nw := fun x => (Src.step x.1, x.2) }
theorem c39 : CtrOk Tryz.prog 39 con39.ctr :=
 con_sound (G := ⟨[(11, con11.ctr)], [], [], []⟩) tab_ok (EnvOk.cons c11 has11 EnvOk.nil) rfl Tryz.func39 rfl con39 19 (by kernel_rfl) (by decide) (by decide) rfl (by decide) rfl (by
  rintro ⟨⟨(s : List Int), (a : Int)⟩, (l : List Int), _⟩ hpre hwf X hT hG hk hK
  (simp -implicitDefEqProofs only [go_sem, Prod.eta, Option.isSome_none, Option.isSome_some, Int.toNat_zero, Nat.reduceAdd, Nat.reduceMul, Nat.reduceSub, Nat.reduceEqDiff, Nat.reduceLT, Nat.reduceLeDiff, Nat.reduceShiftRight, Nat.reduceMod, Nat.reduceBEq, reduceCtorEq, reduceIte, reduceDIte, Int.reduceNeg, Bool.not_eq_true', Bool.not_eq_false', Bool.or_eq_true, Bool.or_eq_false_iff, Bool.and_eq_true, Bool.and_eq_false_iff, decide_eq_true_eq, decide_eq_false_iff_not, Classical.not_not, not_or, maxLen, con39, con11, hT, hG, hk, hK, Tryz.results39] at hwf ⊢); (try simp (disch := decide +kernel) only [drawn, true_and, and_true])
  obtain ⟨h1, h2⟩ : 0 ≤ a ∧ 0 < l.length := hpre
  have hb := goMod_bd (Src.raw (s, a)) l.length (by omega)
  (repeat' (with_reducible (first | refine And.intro ?_ ?_ | intro _))) <;> (try (first | with_reducible (first | done | assumption | omega | contradiction) | decide)))
theorem platesV_ok (i : Int) : okPl (platesV i) = true := by
 have hb := goMod_bd i 1000 (by omega)
 have h1 : 0 ≤ (goMod i 1000).tdiv 100 := Int.tdiv_nonneg hb.1 (by omega)
 have h2 : 0 ≤ ((goMod i 1000).tdiv 100).tmod 5 := Int.tmod_nonneg 5 h1
 have h3 := tmod_bd ((goMod i 1000).tdiv 100) 5 (by omega)
 have h4 : 0 ≤ (goMod i 1000).tmod 100 := Int.tmod_nonneg 100 hb.1
 have h5 := tmod_bd (goMod i 1000) 100 (by omega)
 have h6 : 0 ≤ (goMod i 1000).tdiv 500 := Int.tdiv_nonneg hb.1 (by omega)
 have h7 : (goMod i 1000).tdiv 500 ≤ 9 := by
  rw [Int.tdiv_eq_ediv_of_nonneg hb.1]; omega
 unfold okPl platesV inV
 simp only [Bool.and_eq_true, decide_eq_true_eq]
 omega
def pieceV (s : Src) (n : Int) : Pce := (platesV (goMod (Src.raw s) n), 1 + goMod (Src.raw (Src.step s)) 40, [0, 0, 0, 1, 1, 2, 3, 4].getD (goMod (Src.raw (Src.step (Src.step s))) 8).toNat 0)
theorem pieceV_ok (s : Src) (n : Int) : okPc (pieceV s n) = true := by
 have hA := goMod_bd (Src.raw (Src.step s)) 40 (by omega)
 have hB := goMod_bd (Src.raw (Src.step (Src.step s))) 8 (by omega)
 have hw : ∀ k : Int, 0 ≤ k ∧ k < 8 → 0 ≤ [0, 0, 0, 1, 1, 2, 3, 4].getD k.toNat (0 : Int) ∧ [0, 0, 0, 1, 1, 2, 3, 4].getD k.toNat (0 : Int) ≤ 4 := fun k hk => by
  rcases (by omega : k = 0 ∨ k = 1 ∨ k = 2 ∨ k = 3 ∨ k = 4 ∨ k = 5 ∨ k = 6 ∨ k = 7) with rfl | rfl | rfl | rfl | rfl | rfl | rfl | rfl <;> decide
 have hw := hw _ hB
 unfold okPc inV pieceV
 simp only [platesV_ok, Bool.and_eq_true, decide_eq_true_eq, true_and]
 exact ⟨⟨by omega, by omega⟩, hw.1, hw.2⟩
def con40 : Con := { ps := [.p 103 ySR, .d false (.int .i64)], rs := [.d true yPC], pre := fun (x : Src × Int × Unit) => 0 ≤ x.1.2, out := fun (x : Src × Int × Unit) => (pieceV x.1 x.2.1, ()), nw := fun (x : Src × Int × Unit) => (Src.step (Src.step (Src.step x.1)), x.2) }
theorem c40 : CtrOk Tryz.prog 40 con40.ctr :=
 con_sound (G := ⟨[(11, con11.ctr), (39, con39.ctr), (98, con98.ctr)], [], [], []⟩) tab_ok (EnvOk.cons c11 has11 (EnvOk.cons c39 has39 (EnvOk.cons c98 has98 EnvOk.nil))) rfl Tryz.func40 rfl con40 19 (by kernel_rfl) (by decide) (by decide) rfl (by decide) rfl (by
  rintro ⟨⟨(s : List Int), (a : Int)⟩, (n : Int), _⟩ hpre hwf X hT hG hk hK
  (simp -implicitDefEqProofs only [go_sem, Prod.eta, Option.isSome_none, Option.isSome_some, Int.toNat_zero, Nat.reduceAdd, Nat.reduceMul, Nat.reduceSub, Nat.reduceEqDiff, Nat.reduceLT, Nat.reduceLeDiff, Nat.reduceShiftRight, Nat.reduceMod, Nat.reduceBEq, reduceCtorEq, reduceIte, reduceDIte, Int.reduceNeg, Bool.not_eq_true', Bool.not_eq_false', Bool.or_eq_true, Bool.or_eq_false_iff, Bool.and_eq_true, Bool.and_eq_false_iff, decide_eq_true_eq, decide_eq_false_iff_not, Classical.not_not, not_or, maxLen, con40, con11, con39, con98, hT, hG, hk, hK, Tryz.results40] at hwf ⊢); (try simp (disch := decide +kernel) only [drawn, true_and, and_true])
  have h1 : 0 ≤ a := hpre
  have hs1 : 0 ≤ (Src.step (s, a)).snd := step_pos h1
  have hs2 : 0 ≤ (Src.step (s, a)).step.snd := step_pos hs1
  have hs3 : 0 ≤ (Src.step (s, a)).step.step.snd := step_pos hs2
  have hA := goMod_bd (Src.step (s, a)).raw 40 (by omega)
  (repeat' (with_reducible (first | refine And.intro ?_ ?_ | intro _))) <;> (try (first | with_reducible (first | done | assumption | omega | contradiction) | decide))
  all_goals try rfl)
def con114 : Con := { ps := [.p 103 ySR, .d false (.sl .str)], rs := [.d false .str], pre := fun (x : Src × List ByteArray × Unit) => 0 ≤ x.1.2 ∧ 0 < x.2.1.length, out := fun (x : Src × List ByteArray × Unit) => (x.2.1.getD (goMod x.1.raw x.2.1.length).toNat ByteArray.empty, ()), nw := fun x => (Src.step x.1, x.2) }
theorem c114 : CtrOk Tryz.prog 114 con114.ctr :=
 con_sound (G := ⟨[(11, con11.ctr)], [], [], []⟩) tab_ok (EnvOk.cons c11 has11 EnvOk.nil) rfl Tryz.func114 rfl con114 19 (by kernel_rfl) (by decide) (by decide) rfl (by decide) rfl (by
  rintro ⟨⟨(l : List Int), (a : Int)⟩, (s : List ByteArray), _⟩ hpre hwf X hT hG hk hK
  obtain ⟨h1, h2⟩ : 0 ≤ a ∧ 0 < s.length := hpre
  (simp -implicitDefEqProofs only [go_sem, Prod.eta, Option.isSome_none, Option.isSome_some, Int.toNat_zero, Nat.reduceAdd, Nat.reduceMul, Nat.reduceSub, Nat.reduceEqDiff, Nat.reduceLT, Nat.reduceLeDiff, Nat.reduceShiftRight, Nat.reduceMod, Nat.reduceBEq, reduceCtorEq, reduceIte, reduceDIte, Int.reduceNeg, Bool.not_eq_true', Bool.not_eq_false', Bool.or_eq_true, Bool.or_eq_false_iff, Bool.and_eq_true, Bool.and_eq_false_iff, decide_eq_true_eq, decide_eq_false_iff_not, Classical.not_not, not_or, maxLen, con114, con11, hT, hG, hk, hK, Tryz.results114] at hwf ⊢); (try simp (disch := decide +kernel) only [drawn, true_and, and_true])
  have := goMod_bd (Src.raw (l, a)) s.length (by omega)
  (repeat' (with_reducible (first | refine And.intro ?_ ?_ | intro _))) <;> (try (first | with_reducible (first | done | assumption | omega | contradiction) | decide)))
def strs3 : List ByteArray := [⟨#[66, 65]⟩, ⟨#[76, 72]⟩, ⟨#[83, 75]⟩]
def fltsV (n : Int) : Flt := (strs3.getD (goMod n 27 / 9).toNat ByteArray.empty, 1 + goMod n 27 / 3 % 3, ByteArray.empty, 1 + goMod n 27 % 3)
def con13 : Con := { ps := [.d false (.int .i64)], rs := [.d true yFL], pre := fun _ => True, out := fun x => (fltsV x.1, ()), nw := id }
theorem c13 : CtrOk Tryz.prog 13 con13.ctr :=
 con_sound (G := ⟨[(41, con41.ctr)], [], [], []⟩) tab_ok (EnvOk.cons c41 has41 EnvOk.nil) rfl Tryz.func13 rfl con13 5 (by kernel_rfl) (by decide) (by decide) rfl (by decide) rfl (by
  rintro ⟨(n : Int), _⟩ hpre hwf X hT hG hk hK
  (simp -implicitDefEqProofs only [go_sem, Prod.eta, Option.isSome_none, Option.isSome_some, Int.toNat_zero, Nat.reduceAdd, Nat.reduceMul, Nat.reduceSub, Nat.reduceEqDiff, Nat.reduceLT, Nat.reduceLeDiff, Nat.reduceShiftRight, Nat.reduceMod, Nat.reduceBEq, reduceCtorEq, reduceIte, reduceDIte, Int.reduceNeg, Bool.not_eq_true', Bool.not_eq_false', Bool.or_eq_true, Bool.or_eq_false_iff, Bool.and_eq_true, Bool.and_eq_false_iff, decide_eq_true_eq, decide_eq_false_iff_not, Classical.not_not, not_or, maxLen, con13, con41, hT, hG, hk, hK, Tryz.results13] at hwf ⊢); (try simp (disch := decide +kernel) only [drawn, true_and, and_true])
  have hb := goMod_bd n 27 (by omega)
  have e : fltsV n = (strs3.getD (goMod n 27 / 9).toNat ByteArray.empty, 1 + goMod n 27 / 3 % 3, ByteArray.empty, 1 + goMod n 27 % 3) := rfl
  rw [e]
  generalize goMod n 27 = k at hb ⊢
  have e1 : k.tdiv 9 = k / 9 := Int.tdiv_eq_ediv_of_nonneg hb.1
  have e2 : k.tdiv 3 = k / 3 := Int.tdiv_eq_ediv_of_nonneg hb.1
  have e3 : k.tmod 3 = k % 3 := Int.tmod_eq_emod_of_nonneg hb.1
  have e4 : (k / 3).tmod 3 = k / 3 % 3 := Int.tmod_eq_emod_of_nonneg (by omega)
  simp only [e1, e2, e3, e4]
  (repeat' (with_reducible (first | refine And.intro ?_ ?_ | intro _))) <;> (try (first | with_reducible (first | done | assumption | omega | contradiction) | decide))
  all_goals rfl)
def ports : List ByteArray := [⟨#[67, 80, 72]⟩, ⟨#[76, 72, 82]⟩, ⟨#[70, 82, 65]⟩, ⟨#[79, 83, 76]⟩, ⟨#[65, 82, 78]⟩]
def portV (s : Src) : ByteArray := ports.getD (goMod s.raw 5).toNat ByteArray.empty
def con59 : Con := { ps := [.p 103 ySR], rs := [.d false .str], pre := fun (x : Src × Unit) => 0 ≤ x.1.2, out := fun (x : Src × Unit) => (portV x.1, ()), nw := fun x => (Src.step x.1, x.2) }
theorem c59 : CtrOk Tryz.prog 59 con59.ctr :=
 con_sound (G := ⟨[(114, con114.ctr)], [], [], []⟩) tab_ok (EnvOk.cons c114 has114 EnvOk.nil) rfl Tryz.func59 rfl con59 5 (by kernel_rfl) (by decide) (by decide) rfl (by decide) rfl (by
  rintro ⟨⟨(l : List Int), (a : Int)⟩, _⟩ hpre hwf X hT hG hk hK
  have h1 : 0 ≤ a := hpre
  (simp -implicitDefEqProofs only [go_sem, Prod.eta, Option.isSome_none, Option.isSome_some, Int.toNat_zero, Nat.reduceAdd, Nat.reduceMul, Nat.reduceSub, Nat.reduceEqDiff, Nat.reduceLT, Nat.reduceLeDiff, Nat.reduceShiftRight, Nat.reduceMod, Nat.reduceBEq, reduceCtorEq, reduceIte, reduceDIte, Int.reduceNeg, Bool.not_eq_true', Bool.not_eq_false', Bool.or_eq_true, Bool.or_eq_false_iff, Bool.and_eq_true, Bool.and_eq_false_iff, decide_eq_true_eq, decide_eq_false_iff_not, Classical.not_not, not_or, maxLen, con59, con114, hT, hG, hk, hK, Tryz.results59] at hwf ⊢); (try simp (disch := decide +kernel) only [drawn, true_and, and_true])
  (repeat' (with_reducible (first | refine And.intro ?_ ?_ | intro _))) <;> (try (first | with_reducible (first | done | assumption | omega | contradiction) | decide))
  all_goals rfl)
end Go.Proofs.YtjhoidgpecgfoaaGreat

/- Containers: what is valid, what they hold. -/
set_option linter.unusedSimpArgs false
set_option linter.unusedVariables false
set_option maxRecDepth 100000
set_option maxHeartbeats 4000000
namespace Go.Proofs.YtjhoidgpecgfoaaGreat
open Go.Ev

/-- The first number that is not 0. -/
def fErr (f : Nat → Int) (n : Nat) : Int := (((List.range n).map f).find? (fun e => decide (e ≠ 0))).getD 0
theorem fErr_err {f : Nat → Int} {n i : Nat} (h : ∀ k, k < i → f k = 0) (hi : i < n) (he : f i ≠ 0) : fErr f n = f i := by
 unfold fErr
 have e0 : List.range n = List.range i ++ (i :: (List.range n).drop (i + 1)) :=
  (List.take_append_drop i (List.range n)).symm.trans (by rw [List.take_range, Nat.min_eq_left (by omega), List.drop_eq_getElem_cons (i := i) (by simpa using hi), List.getElem_range])
 obtain ⟨D, hD⟩ : ∃ D, (List.range n).drop (i + 1) = D := ⟨_, rfl⟩
 rw [hD] at e0
 have e : (List.range n).map f = (List.range i).map f ++ (f i :: D.map f) := by
  rw [e0, List.map_append, List.map_cons]
 rw [e, List.find?_append]
 have e2 : ((List.range i).map f).find? (fun e => decide (e ≠ 0)) = none := by
  rw [List.find?_eq_none]
  intro x hx
  obtain ⟨k, hk, rfl⟩ := List.mem_map.1 hx
  rw [h k (List.mem_range.1 hk)]
  simp
 rw [e2]
 simp [he]
theorem fErr_ok {f : Nat → Int} {n : Nat} (h : ∀ k, k < n → f k = 0) : fErr f n = 0 := by
 unfold fErr
 have e2 : ((List.range n).map f).find? (fun e => decide (e ≠ 0)) = none := by
  rw [List.find?_eq_none]
  intro x hx
  obtain ⟨k, hk, rfl⟩ := List.mem_map.1 hx
  rw [h k (List.mem_range.1 hk)]
  simp
 rw [e2]; rfl
theorem fErr_zero {f : Nat → Int} {n : Nat} (h : fErr f n = 0) : ∀ k, k < n → f k = 0 := by
 intro k
 induction k using Nat.strongRecOn with
 | ind k ih =>
   intro hk
   apply Classical.byContradiction
   intro hne
   rw [fErr_err (fun j hj => ih j hj (by omega)) hk hne] at h
   exact hne h
abbrev Cnt := Int × Flt × Int × Int × Int × Int × Int × List Pce
abbrev Cnt.num (c : Cnt) : Int := c.1
abbrev Cnt.flt (c : Cnt) : Flt := c.2.1
abbrev Cnt.cats (c : Cnt) : Int := c.2.2.1
abbrev Cnt.lim (c : Cnt) : Int := c.2.2.2.1
abbrev Cnt.most (c : Cnt) : Int := c.2.2.2.2.1
abbrev Cnt.pos (c : Cnt) : Int := c.2.2.2.2.2.1
abbrev Cnt.arm (c : Cnt) : Int := c.2.2.2.2.2.2.1
abbrev Cnt.pcs (c : Cnt) : List Pce := c.2.2.2.2.2.2.2
def pc0 : Pce := ((0, 0, 0), 0, 0)
def ct0 : Cnt := (0, (ByteArray.empty, 0, ByteArray.empty, 0), 0, 0, 0, 0, 0, [])
def propC (c : Cnt) : Bool := inV c.num 1 999 && fltOk c.flt && inV c.cats 0 31 && inV c.lim 0 20000 && inV c.most 0 60 && inV c.pos 0 24 && inV c.arm (-50) 50
def con158 : Con := { ps := [.d true yCT], rs := [.d false .bool], pre := fun _ => True, out := fun (x : Cnt × Unit) => (propC x.1, ()), nw := id }
theorem c158 : CtrOk Tryz.prog 158 con158.ctr :=
 con_sound (G := ⟨[(185, con185.ctr), (142, con142.ctr)], [], [], []⟩) tab_ok (EnvOk.cons c185 has185 (EnvOk.cons c142 has142 EnvOk.nil)) rfl Tryz.func158 rfl con158 7 (by kernel_rfl) (by decide) (by decide) rfl (by decide) rfl (by
  rintro ⟨⟨(n : Int), ⟨a1, (a2 : Int), a3, (a4 : Int)⟩, (c : Int), (l : Int), (t : Int), (p : Int), (r : Int), (ps : List Pce)⟩, _⟩ hpre hwf X hT hG hk hK
  (simp -implicitDefEqProofs only [go_sem, Prod.eta, Option.isSome_none, Option.isSome_some, Int.toNat_zero, Nat.reduceAdd, Nat.reduceMul, Nat.reduceSub, Nat.reduceEqDiff, Nat.reduceLT, Nat.reduceLeDiff, Nat.reduceShiftRight, Nat.reduceMod, Nat.reduceBEq, reduceCtorEq, reduceIte, reduceDIte, Int.reduceNeg, Bool.not_eq_true', Bool.not_eq_false', Bool.or_eq_true, Bool.or_eq_false_iff, Bool.and_eq_true, Bool.and_eq_false_iff, decide_eq_true_eq, decide_eq_false_iff_not, Classical.not_not, not_or, maxLen, con158, con185, con142, hT, hG, hk, hK, Tryz.results158] at hwf ⊢); (try simp (disch := decide +kernel) only [drawn, true_and, and_true])
  unfold propC
  clear hwf hpre hT hG hk hK
  generalize inV n 1 999 = q1
  generalize fltOk (a1, a2, a3, a4) = q2
  generalize inV c 0 31 = q3
  generalize inV l 0 20000 = q4
  generalize inV t 0 60 = q5
  generalize inV p 0 24 = q6
  generalize inV r (-50) 50 = q7
  cases q1 <;> cases q2 <;> cases q3 <;> cases q4 <;> cases q5 <;> cases q6 <;> cases q7 <;> simp)
def con161 : Con := { ps := [.d true yCT], rs := [.d false .bool], pre := fun _ => True, out := fun (x : Cnt × Unit) => (propC x.1, ()), nw := id }
theorem c161 : CtrOk Tryz.prog 161 con161.ctr :=
 con_sound (G := ⟨[(186, con186.ctr)], [], [], []⟩) tab_ok (EnvOk.cons c186 has186 EnvOk.nil) rfl Tryz.func161 rfl con161 7 (by kernel_rfl) (by decide) (by decide) rfl (by decide) rfl (by
  rintro ⟨⟨(n : Int), ⟨a1, (a2 : Int), a3, (a4 : Int)⟩, (c : Int), (l : Int), (t : Int), (p : Int), (r : Int), (ps : List Pce)⟩, _⟩ hpre hwf X hT hG hk hK
  (simp -implicitDefEqProofs only [go_sem, Prod.eta, Option.isSome_none, Option.isSome_some, Int.toNat_zero, Nat.reduceAdd, Nat.reduceMul, Nat.reduceSub, Nat.reduceEqDiff, Nat.reduceLT, Nat.reduceLeDiff, Nat.reduceShiftRight, Nat.reduceMod, Nat.reduceBEq, reduceCtorEq, reduceIte, reduceDIte, Int.reduceNeg, Bool.not_eq_true', Bool.not_eq_false', Bool.or_eq_true, Bool.or_eq_false_iff, Bool.and_eq_true, Bool.and_eq_false_iff, decide_eq_true_eq, decide_eq_false_iff_not, Classical.not_not, not_or, maxLen, con161, con186, hT, hG, hk, hK, Tryz.results161] at hwf ⊢); (try simp (disch := decide +kernel) only [drawn, true_and, and_true])
  unfold propC inV
  clear hwf hpre hT hG hk hK
  simp only [Cnt.num, Cnt.flt, Cnt.cats, Cnt.lim, Cnt.most, Cnt.pos, Cnt.arm]
  generalize fltOk (a1, a2, a3, a4) = q2
  rw [Bool.eq_iff_iff]
  cases q2 <;> simp only [Bool.and_eq_true, decide_eq_true_eq, Bool.false_eq_true, and_false, false_and, true_and, and_true] <;> (try omega))
def takesV (c : Cnt) (k : Int) : Bool := decide (andV .i64 (c.cats / 2 ^ k.toNat) 1 = 1)
def con112 : Con := { ps := [.d true yCT, .d false (.int .i64)], rs := [.d false .bool], pre := fun (x : Cnt × Int × Unit) => 0 ≤ x.1.cats ∧ 0 ≤ x.2.1 ∧ x.2.1 < 32, out := fun (x : Cnt × Int × Unit) => (takesV x.1 x.2.1, ()), nw := id }
theorem c112 : CtrOk Tryz.prog 112 con112.ctr :=
 con_sound (G := ⟨[], [], [], []⟩) tab_ok EnvOk.nil rfl Tryz.func112 rfl con112 23 (by kernel_rfl) (by decide) (by decide) rfl (by decide) rfl (by
  rintro ⟨⟨(n : Int), ⟨a1, (a2 : Int), a3, (a4 : Int)⟩, (c : Int), (l : Int), (t : Int), (p : Int), (r : Int), (ps : List Pce)⟩, (k : Int), _⟩ hpre hwf X hT hG hk hK
  (simp -implicitDefEqProofs only [go_sem, Prod.eta, Option.isSome_none, Option.isSome_some, Int.toNat_zero, Nat.reduceAdd, Nat.reduceMul, Nat.reduceSub, Nat.reduceEqDiff, Nat.reduceLT, Nat.reduceLeDiff, Nat.reduceShiftRight, Nat.reduceMod, Nat.reduceBEq, reduceCtorEq, reduceIte, reduceDIte, Int.reduceNeg, Bool.not_eq_true', Bool.not_eq_false', Bool.or_eq_true, Bool.or_eq_false_iff, Bool.and_eq_true, Bool.and_eq_false_iff, decide_eq_true_eq, decide_eq_false_iff_not, Classical.not_not, not_or, maxLen, con112, hT, hG, hk, hK, Tryz.results112] at hwf ⊢); (try simp (disch := decide +kernel) only [drawn, true_and, and_true])
  obtain ⟨h1, h2, h3⟩ : 0 ≤ c ∧ 0 ≤ k ∧ k < 32 := hpre
  (repeat' (with_reducible (first | refine And.intro ?_ ?_ | intro _))) <;> (try (first | with_reducible (first | done | assumption | omega | contradiction) | decide))
  all_goals (unfold takesV; first | rfl | simp))
def con118 : Con := { ps := [.d true yCT, .d false (.int .i64)], rs := [.d false .bool], pre := fun (x : Cnt × Int × Unit) => 0 ≤ x.1.cats ∧ 0 ≤ x.2.1 ∧ x.2.1 ≤ 4, out := fun (x : Cnt × Int × Unit) => (takesV x.1 x.2.1, ()), nw := id }
theorem c118 : CtrOk Tryz.prog 118 con118.ctr :=
 con_sound (G := ⟨[], [], [], []⟩) tab_ok EnvOk.nil rfl Tryz.func118 rfl con118 23 (by kernel_rfl) (by decide) (by decide) rfl (by decide) rfl (by
  rintro ⟨⟨(n : Int), ⟨a1, (a2 : Int), a3, (a4 : Int)⟩, (c : Int), (l : Int), (t : Int), (p : Int), (r : Int), (ps : List Pce)⟩, (k : Int), _⟩ hpre hwf X hT hG hk hK
  (simp -implicitDefEqProofs only [go_sem, Prod.eta, Option.isSome_none, Option.isSome_some, Int.toNat_zero, Nat.reduceAdd, Nat.reduceMul, Nat.reduceSub, Nat.reduceEqDiff, Nat.reduceLT, Nat.reduceLeDiff, Nat.reduceShiftRight, Nat.reduceMod, Nat.reduceBEq, reduceCtorEq, reduceIte, reduceDIte, Int.reduceNeg, Bool.not_eq_true', Bool.not_eq_false', Bool.or_eq_true, Bool.or_eq_false_iff, Bool.and_eq_true, Bool.and_eq_false_iff, decide_eq_true_eq, decide_eq_false_iff_not, Classical.not_not, not_or, maxLen, con118, hT, hG, hk, hK, Tryz.results118] at hwf ⊢); (try simp (disch := decide +kernel) only [drawn, true_and, and_true])
  obtain ⟨h1, h2, h3⟩ : 0 ≤ c ∧ 0 ≤ k ∧ k ≤ 4 := hpre
  (repeat' (with_reducible (first | refine And.intro ?_ ?_ | intro _))) <;> (try (first | with_reducible (first | done | assumption | omega | contradiction) | decide))
  all_goals (unfold takesV; first | rfl | simp [h2, h3]))
def pcErr (l : List Pce) (i : Nat) : Int :=
 if okPc (l.getD i pc0) = false then 1 else if i = 0 then 0 else if pltC (l.getD (i - 1) pc0).1 (l.getD i pc0).1 = 0 then 5 else if pltC (l.getD (i - 1) pc0).1 (l.getD i pc0).1 = 1 then 9 else 0
def ctErr (c : Cnt) : Int := if propC c = false then 1 else if 60 < c.pcs.length then 2 else fErr (pcErr c.pcs) c.pcs.length
theorem pcErr_1 {l : List Pce} {i : Nat} (h : okPc (l.getD i pc0) = false) : pcErr l i = 1 := by unfold pcErr; rw [if_pos h]
theorem pcErr_f {l : List Pce} {i : Nat} (h : okPc (l.getD i pc0) = true) (h0 : i = 0) : pcErr l i = 0 := by
 unfold pcErr; rw [if_neg (by rw [h]; simp), if_pos h0]
theorem pcErr_5 {l : List Pce} {i : Nat} (h : okPc (l.getD i pc0) = true) (h0 : ¬ i = 0) (hc : pltC (l.getD (i - 1) pc0).1 (l.getD i pc0).1 = 0) : pcErr l i = 5 := by
 unfold pcErr; rw [if_neg (by rw [h]; simp), if_neg h0, if_pos hc]
theorem pcErr_9 {l : List Pce} {i : Nat} (h : okPc (l.getD i pc0) = true) (h0 : ¬ i = 0) (hc : pltC (l.getD (i - 1) pc0).1 (l.getD i pc0).1 = 1) : pcErr l i = 9 := by
 unfold pcErr; rw [if_neg (by rw [h]; simp), if_neg h0, if_neg (by rw [hc]; decide), if_pos hc]
theorem pcErr_0 {l : List Pce} {i : Nat} (h : okPc (l.getD i pc0) = true) (h0 : ¬ i = 0) (hc : ¬ pltC (l.getD (i - 1) pc0).1 (l.getD i pc0).1 = 0) (hd : ¬ pltC (l.getD (i - 1) pc0).1 (l.getD i pc0).1 = 1) : pcErr l i = 0 := by
 unfold pcErr; rw [if_neg (by rw [h]; simp), if_neg h0, if_neg hc, if_neg hd]
theorem ctErr_zero {c : Cnt} (h : ctErr c = 0) : propC c = true ∧ c.pcs.length ≤ 60 ∧ ∀ i, i < c.pcs.length → okPc (c.pcs.getD i pc0) = true ∧ (0 < i → pltC (c.pcs.getD (i - 1) pc0).1 (c.pcs.getD i pc0).1 < 0) := by
 unfold ctErr at h
 split at h
 · omega
 · rename_i h1
   split at h
   · omega
   · rename_i h2
     refine ⟨by simpa using h1, by omega, fun i hi => ?_⟩
     have := fErr_zero h i hi
     unfold pcErr at this
     split at this
     · omega
     · rename_i h3
       refine ⟨by simpa using h3, fun h0 => ?_⟩
       rw [if_neg (by omega)] at this
       split at this
       · omega
       · split at this
         · omega
         · have := pltC_cmp.unit (c.pcs.getD (i - 1) pc0).1 (c.pcs.getD i pc0).1
           omega
def con111 : Con := { ps := [.d true yCT], rs := [.d false (.int .i64)], pre := fun _ => True, out := fun (x : Cnt × Unit) => (ctErr x.1, ()), nw := id }
theorem c111 : CtrOk Tryz.prog 111 con111.ctr :=
 con_sound (G := ⟨[(158, con158.ctr), (159, con159.ctr), (49, con49.ctr)], [], [], []⟩) tab_ok (EnvOk.cons c158 has158 (EnvOk.cons c159 has159 (EnvOk.cons c49 has49 EnvOk.nil))) rfl Tryz.func111 rfl con111 188999657631 (by kernel_rfl) (by decide) (by decide) rfl (by decide) rfl (by
  rintro ⟨⟨(n : Int), ⟨a1, (a2 : Int), a3, (a4 : Int)⟩, (c : Int), (lm : Int), (t : Int), (p : Int), (r : Int), (l : List Pce)⟩, _⟩ hpre hwf X hT hG hk hK
  (simp -implicitDefEqProofs only [go_sem, Prod.eta, Option.isSome_none, Option.isSome_some, Int.toNat_zero, Nat.reduceAdd, Nat.reduceMul, Nat.reduceSub, Nat.reduceEqDiff, Nat.reduceLT, Nat.reduceLeDiff, Nat.reduceShiftRight, Nat.reduceMod, Nat.reduceBEq, reduceCtorEq, reduceIte, reduceDIte, Int.reduceNeg, Bool.not_eq_true', Bool.not_eq_false', Bool.or_eq_true, Bool.or_eq_false_iff, Bool.and_eq_true, Bool.and_eq_false_iff, decide_eq_true_eq, decide_eq_false_iff_not, Classical.not_not, not_or, maxLen, con111, con158, con159, con49, hT, hG, hk, hK, Tryz.results111] at hwf ⊢); (try simp (disch := decide +kernel) only [drawn, true_and, and_true])
  clear hwf
  refine ⟨fun h => ?_, fun h _ => ⟨fun h2 => ?_, fun h2 _ => ?_⟩⟩
  · unfold ctErr; rw [if_pos h]
  · unfold ctErr; rw [if_neg (by rw [h]; simp), if_pos (by show 60 < l.length; omega)]
  · have e0 : ctErr (n, (a1, a2, a3, a4), c, lm, t, p, r, l) = fErr (pcErr l) l.length := by
     unfold ctErr; rw [if_neg (by rw [h]; simp), if_neg (by show ¬ 60 < l.length; omega)]
    refine evk_loop ⟨{ i : Nat // i ≤ l.length ∧ ∀ k, k < i → pcErr l k = 0 }, 1000, fun q => [(1, .one (.loc 70 0)), (2, .one (.int .i64 0)), (13, .one (.sl yPC l false)), (14, .one (.int .i64 l.length)), (15, .one (.int .i64 q.1))], fun q => [(70, .cells 107 [.int .i64 n, .str a1, .int .i64 a2, .str a3, .int .i64 a4, .int .i64 c, .int .i64 lm, .int .i64 t, .int .i64 p, .int .i64 r, .sl yPC l false])], fun q => l.length - q.1⟩ ⟨0, by omega, fun k hk => by omega⟩ ?_ ?_
    · simp only [go_sem, Prod.eta, Option.isSome_none, Option.isSome_some, Int.toNat_zero, Nat.reduceAdd, Nat.reduceMul, Nat.reduceSub, Nat.reduceEqDiff, Nat.reduceLT, Nat.reduceLeDiff, Nat.reduceShiftRight, Nat.reduceMod, Nat.reduceBEq, reduceCtorEq, reduceIte, reduceDIte, Int.reduceNeg]
      try (first | rfl | exact ⟨rfl, rfl⟩ | (and_intros <;> first | rfl | omega))
    · rintro ⟨i, (hi : i ≤ l.length), (hz : ∀ k, k < i → pcErr l k = 0)⟩
      have he := fErr_err (f := pcErr l) (n := l.length) (i := i) hz
      (simp -implicitDefEqProofs only [go_sem, Prod.eta, Option.isSome_none, Option.isSome_some, Int.toNat_zero, Nat.reduceAdd, Nat.reduceMul, Nat.reduceSub, Nat.reduceEqDiff, Nat.reduceLT, Nat.reduceLeDiff, Nat.reduceShiftRight, Nat.reduceMod, Nat.reduceBEq, reduceCtorEq, reduceIte, reduceDIte, Int.reduceNeg, Bool.not_eq_true', Bool.not_eq_false', Bool.or_eq_true, Bool.or_eq_false_iff, Bool.and_eq_true, Bool.and_eq_false_iff, decide_eq_true_eq, decide_eq_false_iff_not, Classical.not_not, not_or, maxLen, con111, con158, con159, con49, hT, hG, hk, hK, Tryz.results111]); (try simp (disch := decide +kernel) only [drawn, true_and, and_true])
      obtain ⟨o, ho⟩ : ∃ o, l.getD i pc0 = o := ⟨_, rfl⟩
      obtain ⟨u, hu⟩ : ∃ u, l.getD (i - 1) pc0 = u := ⟨_, rfl⟩
      have eo : l.getD (i : Int).toNat ((0, 0, 0), 0, 0) = o := ho
      have eu : l.getD ((i : Int) - 1).toNat ((0, 0, 0), 0, 0) = u := by rw [show ((i : Int) - 1).toNat = i - 1 by omega]; exact hu
      rw [eo, eu]
      have nx : pcErr l i = 0 → ∀ k, k < i + 1 → pcErr l k = 0 := fun h k hk => by
       by_cases e : k = i
       · subst e; exact h
       · exact hz k (by omega)
      (repeat' (with_reducible (first | refine And.intro ?_ ?_ | intro _))) <;> (try (first | with_reducible (first | done | assumption | omega | contradiction) | decide))
      all_goals first
       | (have h1 : okPc o = false := by assumption
          rw [e0, he (by omega) (by rw [pcErr_1 (ho ▸ h1)]; decide), pcErr_1 (ho ▸ h1)]; done)
       | (have h1 : okPc o = true := by assumption
          have h3 : pltC u.1 o.1 = 0 := by assumption
          have e5 := pcErr_5 (ho ▸ h1) (by omega) (by rw [hu, ho]; exact h3)
          rw [e0, he (by omega) (by rw [e5]; decide), e5]; done)
       | (have h1 : okPc o = true := by assumption
          have h3 : pltC u.1 o.1 = 1 := by assumption
          have e5 := pcErr_9 (ho ▸ h1) (by omega) (by rw [hu, ho]; exact h3)
          rw [e0, he (by omega) (by rw [e5]; decide), e5]; done)
       | (have h1 : okPc o = true := by assumption
          have h0 : (i : Int) = 0 := by assumption
          refine fin_lp ⟨i + 1, by omega, nx (pcErr_f (ho ▸ h1) (by omega))⟩ ?_ (by dsimp only; omega)
          simp only [go_sem, Prod.eta, Option.isSome_none, Option.isSome_some, Int.toNat_zero, Nat.reduceAdd, Nat.reduceMul, Nat.reduceSub, Nat.reduceEqDiff, Nat.reduceLT, Nat.reduceLeDiff, Nat.reduceShiftRight, Nat.reduceMod, Nat.reduceBEq, reduceCtorEq, reduceIte, reduceDIte, Int.reduceNeg]
          try (first | rfl | exact ⟨rfl, rfl⟩ | (and_intros <;> first | rfl | omega)))
       | (have h1 : okPc o = true := by assumption
          have h3 : ¬ pltC u.1 o.1 = 0 := by assumption
          have h4 : ¬ pltC u.1 o.1 = 1 := by assumption
          refine fin_lp ⟨i + 1, by omega, nx (pcErr_0 (ho ▸ h1) (by omega) (by rw [hu, ho]; exact h3) (by rw [hu, ho]; exact h4))⟩ ?_ (by dsimp only; omega)
          simp only [go_sem, Prod.eta, Option.isSome_none, Option.isSome_some, Int.toNat_zero, Nat.reduceAdd, Nat.reduceMul, Nat.reduceSub, Nat.reduceEqDiff, Nat.reduceLT, Nat.reduceLeDiff, Nat.reduceShiftRight, Nat.reduceMod, Nat.reduceBEq, reduceCtorEq, reduceIte, reduceDIte, Int.reduceNeg]
          try (first | rfl | exact ⟨rfl, rfl⟩ | (and_intros <;> first | rfl | omega)))
       | (rw [e0, fErr_ok (fun k hk => hz k (by omega))]; done)
       | skip)
end Go.Proofs.YtjhoidgpecgfoaaGreat
