/- The contracts of the functions that the statements about the makeup reach: comparisons, what is valid, what is open. -/
import Derived.Test.YtdmgmdppejopcaaMkA
set_option linter.unusedSimpArgs false
set_option linter.unusedVariables false
set_option maxRecDepth 100000
set_option maxHeartbeats 4000000
namespace Go.Proofs.Ytdmgmdppejopcaa
open Go.Ev

abbrev Flt := ByteArray × Int × ByteArray × Int
abbrev Dep := Flt × ByteArray × Int × Int × Int × Int × Int
abbrev All := Flt × Int
def Dep.opens (d : Dep) : Int := d.2.2.1
def Dep.closes (d : Dep) : Int := d.2.2.2.1
def Dep.state (d : Dep) : Int := d.2.2.2.2.2.2

def con80 : Con := { ps := [.d false (.int .i64)], rs := [.d false .bool], pre := fun _ => True, out := fun x => (false, ()), nw := id }
theorem c80 : CtrOk Try.prog 80 con80.ctr :=
  con_sound (G := ⟨[], [], []⟩) tab_ok EnvOk.nil rfl Try.func80 rfl con80 5 (by kernel_rfl) (by decide) (by decide) rfl (by decide) rfl (by
    rintro ⟨(p : Int), _⟩ hpre hwf X hT hG hk hK
    (simp only [go_sem, Prod.eta, Int.toNat_zero, Nat.reduceAdd, Nat.reduceMul, Nat.reduceSub, Nat.reduceEqDiff, Nat.reduceLT, Nat.reduceLeDiff, Nat.reduceShiftRight, Nat.reduceMod, Nat.reduceBEq, reduceCtorEq, reduceIte, reduceDIte, Int.reduceNeg, con80, hT, hG, hk, hK, Try.results80] at hwf ⊢); (try simp (disch := decide +kernel) only [drawn, true_and, and_true]))
def con93 : Con := { ps := [.d false .str], rs := [.d false .bool], pre := fun _ => True, out := fun x => (false, ()), nw := id }
theorem c93 : CtrOk Try.prog 93 con93.ctr :=
  con_sound (G := ⟨[], [], []⟩) tab_ok EnvOk.nil rfl Try.func93 rfl con93 5 (by kernel_rfl) (by decide) (by decide) rfl (by decide) rfl (by
    rintro ⟨(p : ByteArray), _⟩ hpre hwf X hT hG hk hK
    (simp only [go_sem, Prod.eta, Int.toNat_zero, Nat.reduceAdd, Nat.reduceMul, Nat.reduceSub, Nat.reduceEqDiff, Nat.reduceLT, Nat.reduceLeDiff, Nat.reduceShiftRight, Nat.reduceMod, Nat.reduceBEq, reduceCtorEq, reduceIte, reduceDIte, Int.reduceNeg, con93, hT, hG, hk, hK, Try.results93] at hwf ⊢); (try simp (disch := decide +kernel) only [drawn, true_and, and_true]))
def cmpV (a b : Int) : Int := if a < b then -1 else if a > b then 1 else 0
def con74 : Con := { ps := [.d false (.int .i64), .d false (.int .i64)], rs := [.d false (.int .i64)], pre := fun _ => True, out := fun x => (cmpV x.1 x.2.1, ()), nw := id }
theorem c74 : CtrOk Try.prog 74 con74.ctr :=
  con_sound (G := ⟨[(80, con80.ctr)], [], []⟩) tab_ok (EnvOk.cons c80 has80 EnvOk.nil) rfl Try.func74 rfl con74 604275 (by kernel_rfl) (by decide) (by decide) rfl (by decide) rfl (by
    rintro ⟨(a : Int), (b : Int), _⟩ hpre hwf X hT hG hk hK
    (simp only [go_sem, Prod.eta, Int.toNat_zero, Nat.reduceAdd, Nat.reduceMul, Nat.reduceSub, Nat.reduceEqDiff, Nat.reduceLT, Nat.reduceLeDiff, Nat.reduceShiftRight, Nat.reduceMod, Nat.reduceBEq, reduceCtorEq, reduceIte, reduceDIte, Int.reduceNeg, con74, con80, hT, hG, hk, hK, Try.results74] at hwf ⊢); (try simp (disch := decide +kernel) only [drawn, true_and, and_true])
    unfold cmpV
    refine ⟨fun h => h.elim, fun h => h.elim, fun h => by rw [if_pos h], fun h => ⟨fun k => by rw [if_neg h, if_pos k], fun k => by rw [if_neg h, if_neg k]⟩⟩)
def cmpS (a b : ByteArray) : Int := if strLt a b = true then -1 else if (!(strLt a b || decide (a = b))) = true then 1 else 0
def con73 : Con := { ps := [.d false .str, .d false .str], rs := [.d false (.int .i64)], pre := fun _ => True, out := fun x => (cmpS x.1 x.2.1, ()), nw := id }
theorem c73 : CtrOk Try.prog 73 con73.ctr :=
  con_sound (G := ⟨[(93, con93.ctr)], [], []⟩) tab_ok (EnvOk.cons c93 has93 EnvOk.nil) rfl Try.func73 rfl con73 604275 (by kernel_rfl) (by decide) (by decide) rfl (by decide) rfl (by
    rintro ⟨(a : ByteArray), (b : ByteArray), _⟩ hpre hwf X hT hG hk hK
    (simp only [go_sem, Prod.eta, Int.toNat_zero, Nat.reduceAdd, Nat.reduceMul, Nat.reduceSub, Nat.reduceEqDiff, Nat.reduceLT, Nat.reduceLeDiff, Nat.reduceShiftRight, Nat.reduceMod, Nat.reduceBEq, reduceCtorEq, reduceIte, reduceDIte, Int.reduceNeg, con73, con93, hT, hG, hk, hK, Try.results73] at hwf ⊢); (try simp (disch := decide +kernel) only [drawn, true_and, and_true])
    unfold cmpS
    generalize strLt a b = q
    generalize decide (a = b) = r
    cases q <;> cases r <;> simp)
def orV : List Int → Int
  | [] => 0
  | x :: l => if x = 0 then orV l else x
def con72 : Con := { ps := [.d false (.sl (.int .i64))], rs := [.d false (.int .i64)], pre := fun _ => True, out := fun x => (orV x.1, ()), nw := id }
theorem c72 : CtrOk Try.prog 72 con72.ctr :=
  con_sound (G := ⟨[], [], []⟩) tab_ok EnvOk.nil rfl Try.func72 rfl con72 17389 (by kernel_rfl) (by decide) (by decide) rfl (by decide) rfl (by
    rintro ⟨(l : List Int), _⟩ hpre hwf X hT hG hk hK
    (simp only [go_sem, Prod.eta, Int.toNat_zero, Nat.reduceAdd, Nat.reduceMul, Nat.reduceSub, Nat.reduceEqDiff, Nat.reduceLT, Nat.reduceLeDiff, Nat.reduceShiftRight, Nat.reduceMod, Nat.reduceBEq, reduceCtorEq, reduceIte, reduceDIte, Int.reduceNeg, Bool.not_eq_true', Bool.not_eq_false', Bool.or_eq_true, Bool.or_eq_false_iff, Bool.and_eq_true, Bool.and_eq_false_iff, decide_eq_true_eq, decide_eq_false_iff_not, Classical.not_not, not_or, maxLen, con72, hT, hG, hk, hK, Try.results72] at hwf ⊢); (try simp (disch := decide +kernel) only [drawn, true_and, and_true])
    intro hl
    refine evk_loop ⟨{ i : Nat // i ≤ l.length ∧ orV l = orV (l.drop i) }, 1000, fun i => [(3, .one (.int .i64 0)), (6, .one (.sl (.int .i64) l false)), (7, .one (.int .i64 l.length)), (8, .one (.int .i64 i.1))], fun _ => [], fun i => l.length - i.1⟩ ⟨0, by simp, by simp⟩ ?_ ?_
    · simp only [go_sem, Prod.eta, Int.toNat_zero, Nat.reduceAdd, Nat.reduceMul, Nat.reduceSub, Nat.reduceEqDiff, Nat.reduceLT, Nat.reduceLeDiff, Nat.reduceShiftRight, Nat.reduceMod, Nat.reduceBEq, reduceCtorEq, reduceIte, reduceDIte, Int.reduceNeg]
      rfl
    · rintro ⟨i, (hi : i ≤ l.length), (he : orV l = orV (l.drop i))⟩
      (simp only [go_sem, Prod.eta, Int.toNat_zero, Nat.reduceAdd, Nat.reduceMul, Nat.reduceSub, Nat.reduceEqDiff, Nat.reduceLT, Nat.reduceLeDiff, Nat.reduceShiftRight, Nat.reduceMod, Nat.reduceBEq, reduceCtorEq, reduceIte, reduceDIte, Int.reduceNeg, Bool.not_eq_true', Bool.not_eq_false', Bool.or_eq_true, Bool.or_eq_false_iff, Bool.and_eq_true, Bool.and_eq_false_iff, decide_eq_true_eq, decide_eq_false_iff_not, Classical.not_not, not_or, maxLen, con72, hT, hG, hk, hK, Try.results72]); (try simp (disch := decide +kernel) only [drawn, true_and, and_true])
      refine ⟨fun hlt => ?_, fun hge => ?_⟩
      · have hi' : i < l.length := by omega
        have ek : l.getD (i : Int).toNat 0 = l[i] := by simp [hi']
        rw [ek]
        have hst : orV l = if l[i] = 0 then orV (l.drop (i + 1)) else l[i] := by
          rw [he, List.drop_eq_getElem_cons hi', orV]
        (repeat' (with_reducible (first | refine And.intro ?_ ?_ | intro _))) <;> (try (first | with_reducible (first | done | assumption | omega | contradiction) | decide))
        all_goals rename_i h
        · first
            | rw [hst, if_neg h]
            | (refine fin_lp ⟨i + 1, by omega, ?_⟩ ?_ ?_
               · rw [hst, if_pos h]
               · simp only [go_sem, Prod.eta, Int.toNat_zero, Nat.reduceAdd, Nat.reduceMul, Nat.reduceSub, Nat.reduceEqDiff, Nat.reduceLT, Nat.reduceLeDiff, Nat.reduceShiftRight, Nat.reduceMod, Nat.reduceBEq, reduceCtorEq, reduceIte, reduceDIte, Int.reduceNeg]
                 rfl
               · show l.length - (i + 1) < l.length - i
                 omega)
      · rw [he, List.drop_of_length_le (by omega)]
        rfl)
def fltC (a b : Flt) : Int := orV [cmpS a.1 b.1, cmpV a.2.1 b.2.1, cmpS a.2.2.1 b.2.2.1, cmpV a.2.2.2 b.2.2.2]
def con53 : Con := { ps := [.d true (.pair .str (.pair (.int .i64) (.pair .str (.int .i64)))), .d true (.pair .str (.pair (.int .i64) (.pair .str (.int .i64))))], rs := [.d false (.int .i64)], pre := fun _ => True, out := fun x => (fltC x.1 x.2.1, ()), nw := id }
theorem c53 : CtrOk Try.prog 53 con53.ctr :=
  con_sound (G := ⟨[(72, con72.ctr), (73, con73.ctr), (74, con74.ctr)], [], []⟩) tab_ok (EnvOk.cons c72 has72 (EnvOk.cons c73 has73 (EnvOk.cons c74 has74 EnvOk.nil))) rfl Try.func53 rfl con53 31 (by kernel_rfl) (by decide) (by decide) rfl (by decide) rfl (by
    rintro ⟨⟨a1, (a2 : Int), a3, (a4 : Int)⟩, ⟨b1, (b2 : Int), b3, (b4 : Int)⟩, _⟩ hpre hwf X hT hG hk hK
    (simp only [go_sem, Prod.eta, Int.toNat_zero, Nat.reduceAdd, Nat.reduceMul, Nat.reduceSub, Nat.reduceEqDiff, Nat.reduceLT, Nat.reduceLeDiff, Nat.reduceShiftRight, Nat.reduceMod, Nat.reduceBEq, reduceCtorEq, reduceIte, reduceDIte, Int.reduceNeg, Bool.not_eq_true', Bool.not_eq_false', Bool.or_eq_true, Bool.or_eq_false_iff, Bool.and_eq_true, Bool.and_eq_false_iff, decide_eq_true_eq, decide_eq_false_iff_not, Classical.not_not, not_or, maxLen, con53, con72, con73, con74, hT, hG, hk, hK, Try.results53] at hwf ⊢); (try simp (disch := decide +kernel) only [drawn, true_and, and_true])
    (repeat' (with_reducible (first | refine And.intro ?_ ?_ | intro _))) <;> (try (first | with_reducible (first | done | assumption | omega | contradiction) | decide))
    rfl)
def con52 : Con := { ps := [.d true (.pair (.pair .str (.pair (.int .i64) (.pair .str (.int .i64)))) (.int .i64)), .d true (.pair (.pair .str (.pair (.int .i64) (.pair .str (.int .i64)))) (.int .i64))], rs := [.d false (.int .i64)], pre := fun _ => True, out := fun x => (fltC x.1.1 x.2.1.1, ()), nw := id }
theorem c52 : CtrOk Try.prog 52 con52.ctr :=
  con_sound (G := ⟨[(53, con53.ctr)], [], []⟩) tab_ok (EnvOk.cons c53 has53 EnvOk.nil) rfl Try.func52 rfl con52 31 (by kernel_rfl) (by decide) (by decide) rfl (by decide) rfl (by
    rintro ⟨⟨a, (x : Int)⟩, ⟨b, (y : Int)⟩, _⟩ hpre hwf X hT hG hk hK
    (simp only [go_sem, Prod.eta, Int.toNat_zero, Nat.reduceAdd, Nat.reduceMul, Nat.reduceSub, Nat.reduceEqDiff, Nat.reduceLT, Nat.reduceLeDiff, Nat.reduceShiftRight, Nat.reduceMod, Nat.reduceBEq, reduceCtorEq, reduceIte, reduceDIte, Int.reduceNeg, Bool.not_eq_true', Bool.not_eq_false', Bool.or_eq_true, Bool.or_eq_false_iff, Bool.and_eq_true, Bool.and_eq_false_iff, decide_eq_true_eq, decide_eq_false_iff_not, Classical.not_not, not_or, maxLen, con52, con53, hT, hG, hk, hK, Try.results52] at hwf ⊢); (try simp (disch := decide +kernel) only [drawn, true_and, and_true]))
def overV (a b : Dep) : Bool := decide ((if b.opens > a.opens then b.opens else a.opens) < if b.closes < a.closes then b.closes else a.closes)
def con43 : Con := { ps := [.d true (.pair (.pair .str (.pair (.int .i64) (.pair .str (.int .i64)))) (.pair .str (.pair (.int .i64) (.pair (.int .i64) (.pair (.int .i64) (.pair (.int .i64) (.int .i64))))))), .d true (.pair (.pair .str (.pair (.int .i64) (.pair .str (.int .i64)))) (.pair .str (.pair (.int .i64) (.pair (.int .i64) (.pair (.int .i64) (.pair (.int .i64) (.int .i64)))))))], rs := [.d false .bool], pre := fun _ => True, out := fun x => (overV x.1 x.2.1, ()), nw := id }
theorem c43 : CtrOk Try.prog 43 con43.ctr :=
  con_sound (G := ⟨[], [], []⟩) tab_ok EnvOk.nil rfl Try.func43 rfl con43 31 (by kernel_rfl) (by decide) (by decide) rfl (by decide) rfl (by
    rintro ⟨(a : Dep), (b : Dep), _⟩ hpre hwf X hT hG hk hK
    obtain ⟨a0, a1, (a2 : Int), (a3 : Int), (a4 : Int), (a5 : Int), (a6 : Int)⟩ := a
    obtain ⟨b0, b1, (b2 : Int), (b3 : Int), (b4 : Int), (b5 : Int), (b6 : Int)⟩ := b
    (simp only [go_sem, Prod.eta, Int.toNat_zero, Nat.reduceAdd, Nat.reduceMul, Nat.reduceSub, Nat.reduceEqDiff, Nat.reduceLT, Nat.reduceLeDiff, Nat.reduceShiftRight, Nat.reduceMod, Nat.reduceBEq, reduceCtorEq, reduceIte, reduceDIte, Int.reduceNeg, Bool.not_eq_true', Bool.not_eq_false', Bool.or_eq_true, Bool.or_eq_false_iff, Bool.and_eq_true, Bool.and_eq_false_iff, decide_eq_true_eq, decide_eq_false_iff_not, Classical.not_not, not_or, maxLen, con43, hT, hG, hk, hK, Try.results43] at hwf ⊢); (try simp (disch := decide +kernel) only [drawn, true_and, and_true])
    (repeat' (with_reducible (first | refine And.intro ?_ ?_ | intro _))) <;> (try (first | with_reducible (first | done | assumption | omega | contradiction) | decide))
    rfl)
def isOpenV (d : Dep) (t : Int) : Bool := decide (d.state = 0) && decide (d.opens ≤ t) && decide (t < d.closes)
def con47 : Con := { ps := [.d true (.pair (.pair .str (.pair (.int .i64) (.pair .str (.int .i64)))) (.pair .str (.pair (.int .i64) (.pair (.int .i64) (.pair (.int .i64) (.pair (.int .i64) (.int .i64))))))), .d false (.int .i64)], rs := [.d false .bool], pre := fun _ => True, out := fun x => (isOpenV x.1 x.2.1, ()), nw := id }
theorem c47 : CtrOk Try.prog 47 con47.ctr :=
  con_sound (G := ⟨[], [], []⟩) tab_ok EnvOk.nil rfl Try.func47 rfl con47 23 (by kernel_rfl) (by decide) (by decide) rfl (by decide) rfl (by
    rintro ⟨(a : Dep), (t : Int), _⟩ hpre hwf X hT hG hk hK
    obtain ⟨a0, a1, (a2 : Int), (a3 : Int), (a4 : Int), (a5 : Int), (a6 : Int)⟩ := a
    (simp only [go_sem, Prod.eta, Int.toNat_zero, Nat.reduceAdd, Nat.reduceMul, Nat.reduceSub, Nat.reduceEqDiff, Nat.reduceLT, Nat.reduceLeDiff, Nat.reduceShiftRight, Nat.reduceMod, Nat.reduceBEq, reduceCtorEq, reduceIte, reduceDIte, Int.reduceNeg, Bool.not_eq_true', Bool.not_eq_false', Bool.or_eq_true, Bool.or_eq_false_iff, Bool.and_eq_true, Bool.and_eq_false_iff, decide_eq_true_eq, decide_eq_false_iff_not, Classical.not_not, not_or, maxLen, con47, hT, hG, hk, hK, Try.results47] at hwf ⊢); (try simp (disch := decide +kernel) only [drawn, true_and, and_true])
    (repeat' (with_reducible (first | refine And.intro ?_ ?_ | intro _))) <;> (try (first | with_reducible (first | done | assumption | omega | contradiction) | decide))
    rfl)
def con29 : Con := { ps := [.d true (.pair (.pair .str (.pair (.int .i64) (.pair .str (.int .i64)))) (.pair .str (.pair (.int .i64) (.pair (.int .i64) (.pair (.int .i64) (.pair (.int .i64) (.int .i64))))))), .d false (.int .i64)], rs := [.d false .bool], pre := fun _ => True, out := fun x => (isOpenV x.1 x.2.1, ()), nw := id }
theorem c29 : CtrOk Try.prog 29 con29.ctr :=
  con_sound (G := ⟨[], [], []⟩) tab_ok EnvOk.nil rfl Try.func29 rfl con29 23 (by kernel_rfl) (by decide) (by decide) rfl (by decide) rfl (by
    rintro ⟨(a : Dep), (t : Int), _⟩ hpre hwf X hT hG hk hK
    obtain ⟨a0, a1, (a2 : Int), (a3 : Int), (a4 : Int), (a5 : Int), (a6 : Int)⟩ := a
    (simp only [go_sem, Prod.eta, Int.toNat_zero, Nat.reduceAdd, Nat.reduceMul, Nat.reduceSub, Nat.reduceEqDiff, Nat.reduceLT, Nat.reduceLeDiff, Nat.reduceShiftRight, Nat.reduceMod, Nat.reduceBEq, reduceCtorEq, reduceIte, reduceDIte, Int.reduceNeg, Bool.not_eq_true', Bool.not_eq_false', Bool.or_eq_true, Bool.or_eq_false_iff, Bool.and_eq_true, Bool.and_eq_false_iff, decide_eq_true_eq, decide_eq_false_iff_not, Classical.not_not, not_or, maxLen, con29, hT, hG, hk, hK, Try.results29] at hwf ⊢); (try simp (disch := decide +kernel) only [drawn, true_and, and_true])
    (repeat' (with_reducible (first | refine And.intro ?_ ?_ | intro _))) <;> (try (first | with_reducible (first | done | assumption | omega | contradiction) | decide))
    rfl)
def con49 : Con := { ps := [.d true (.pair (.pair .str (.pair (.int .i64) (.pair .str (.int .i64)))) (.pair .str (.pair (.int .i64) (.pair (.int .i64) (.pair (.int .i64) (.pair (.int .i64) (.int .i64)))))))], rs := [.d false .bool], pre := fun _ => True, out := fun x => (!decide (Dep.state x.1 = 0), ()), nw := id }
theorem c49 : CtrOk Try.prog 49 con49.ctr :=
  con_sound (G := ⟨[], [], []⟩) tab_ok EnvOk.nil rfl Try.func49 rfl con49 7 (by kernel_rfl) (by decide) (by decide) rfl (by decide) rfl (by
    rintro ⟨(a : Dep), _⟩ hpre hwf X hT hG hk hK
    obtain ⟨a0, a1, (a2 : Int), (a3 : Int), (a4 : Int), (a5 : Int), (a6 : Int)⟩ := a
    (simp only [go_sem, Prod.eta, Int.toNat_zero, Nat.reduceAdd, Nat.reduceMul, Nat.reduceSub, Nat.reduceEqDiff, Nat.reduceLT, Nat.reduceLeDiff, Nat.reduceShiftRight, Nat.reduceMod, Nat.reduceBEq, reduceCtorEq, reduceIte, reduceDIte, Int.reduceNeg, Bool.not_eq_true', Bool.not_eq_false', Bool.or_eq_true, Bool.or_eq_false_iff, Bool.and_eq_true, Bool.and_eq_false_iff, decide_eq_true_eq, decide_eq_false_iff_not, Classical.not_not, not_or, maxLen, con49, hT, hG, hk, hK, Try.results49] at hwf ⊢); (try simp (disch := decide +kernel) only [drawn, true_and, and_true])
    (repeat' (with_reducible (first | refine And.intro ?_ ?_ | intro _))) <;> (try (first | with_reducible (first | done | assumption | omega | contradiction) | decide))
    exact decide_not)
def inV (n a b : Int) : Bool := decide (a ≤ n) && decide (n ≤ b)
def con83 : Con := { ps := [.d false (.int .i64), .d false (.int .i64), .d false (.int .i64)], rs := [.d false .bool], pre := fun _ => True, out := fun x => (inV x.1 x.2.1 x.2.2.1, ()), nw := id }
theorem c83 : CtrOk Try.prog 83 con83.ctr :=
  con_sound (G := ⟨[], [], []⟩) tab_ok EnvOk.nil rfl Try.func83 rfl con83 71 (by kernel_rfl) (by decide) (by decide) rfl (by decide) rfl (by
    rintro ⟨(n : Int), (a : Int), (b : Int), _⟩ hpre hwf X hT hG hk hK
    (simp only [go_sem, Prod.eta, Int.toNat_zero, Nat.reduceAdd, Nat.reduceMul, Nat.reduceSub, Nat.reduceEqDiff, Nat.reduceLT, Nat.reduceLeDiff, Nat.reduceShiftRight, Nat.reduceMod, Nat.reduceBEq, reduceCtorEq, reduceIte, reduceDIte, Int.reduceNeg, Bool.not_eq_true', Bool.not_eq_false', Bool.or_eq_true, Bool.or_eq_false_iff, Bool.and_eq_true, Bool.and_eq_false_iff, decide_eq_true_eq, decide_eq_false_iff_not, Classical.not_not, not_or, maxLen, con83, hT, hG, hk, hK, Try.results83] at hwf ⊢); (try simp (disch := decide +kernel) only [drawn, true_and, and_true])
    (repeat' (with_reducible (first | refine And.intro ?_ ?_ | intro _))) <;> (try (first | with_reducible (first | done | assumption | omega | contradiction) | decide))
    rfl)
def letterV (n : Int) : Bool := decide (65 ≤ n) && decide (n ≤ 90)
def con101 : Con := { ps := [.d false (.int .u8)], rs := [.d false .bool], pre := fun _ => True, out := fun x => (letterV x.1, ()), nw := id }
theorem c101 : CtrOk Try.prog 101 con101.ctr :=
  con_sound (G := ⟨[], [], []⟩) tab_ok EnvOk.nil rfl Try.func101 rfl con101 5 (by kernel_rfl) (by decide) (by decide) rfl (by decide) rfl (by
    rintro ⟨(n : Int), _⟩ hpre hwf X hT hG hk hK
    (simp only [go_sem, Prod.eta, Int.toNat_zero, Nat.reduceAdd, Nat.reduceMul, Nat.reduceSub, Nat.reduceEqDiff, Nat.reduceLT, Nat.reduceLeDiff, Nat.reduceShiftRight, Nat.reduceMod, Nat.reduceBEq, reduceCtorEq, reduceIte, reduceDIte, Int.reduceNeg, Bool.not_eq_true', Bool.not_eq_false', Bool.or_eq_true, Bool.or_eq_false_iff, Bool.and_eq_true, Bool.and_eq_false_iff, decide_eq_true_eq, decide_eq_false_iff_not, Classical.not_not, not_or, maxLen, con101, hT, hG, hk, hK, Try.results101] at hwf ⊢); (try simp (disch := decide +kernel) only [drawn, true_and, and_true])
    (repeat' (with_reducible (first | refine And.intro ?_ ?_ | intro _))) <;> (try (first | with_reducible (first | done | assumption | omega | contradiction) | decide))
    rfl)
def digitV (n : Int) : Bool := decide (48 ≤ n) && decide (n ≤ 57)
def con102 : Con := { ps := [.d false (.int .u8)], rs := [.d false .bool], pre := fun _ => True, out := fun x => (digitV x.1, ()), nw := id }
theorem c102 : CtrOk Try.prog 102 con102.ctr :=
  con_sound (G := ⟨[], [], []⟩) tab_ok EnvOk.nil rfl Try.func102 rfl con102 5 (by kernel_rfl) (by decide) (by decide) rfl (by decide) rfl (by
    rintro ⟨(n : Int), _⟩ hpre hwf X hT hG hk hK
    (simp only [go_sem, Prod.eta, Int.toNat_zero, Nat.reduceAdd, Nat.reduceMul, Nat.reduceSub, Nat.reduceEqDiff, Nat.reduceLT, Nat.reduceLeDiff, Nat.reduceShiftRight, Nat.reduceMod, Nat.reduceBEq, reduceCtorEq, reduceIte, reduceDIte, Int.reduceNeg, Bool.not_eq_true', Bool.not_eq_false', Bool.or_eq_true, Bool.or_eq_false_iff, Bool.and_eq_true, Bool.and_eq_false_iff, decide_eq_true_eq, decide_eq_false_iff_not, Classical.not_not, not_or, maxLen, con102, hT, hG, hk, hK, Try.results102] at hwf ⊢); (try simp (disch := decide +kernel) only [drawn, true_and, and_true])
    (repeat' (with_reducible (first | refine And.intro ?_ ?_ | intro _))) <;> (try (first | with_reducible (first | done | assumption | omega | contradiction) | decide))
    rfl)
end Go.Proofs.Ytdmgmdppejopcaa
