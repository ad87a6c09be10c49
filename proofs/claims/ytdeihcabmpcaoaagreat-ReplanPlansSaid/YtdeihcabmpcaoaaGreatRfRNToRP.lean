/- The contracts of replan's functions: the stable sort of at most 19 needs. -/
import Derived.Test.YtdeihcabmpcaoaaGreatRfRHToRM
import Derived.Test.YtdeihcabmpcaoaaGreatEvFun5ToBox
import Derived.Test.YtdeihcabmpcaoaaGreatEvG8ToReg
import Derived.Test.YtdeihcabmpcaoaaGreatEvSimp
set_option linter.unusedSimpArgs false
set_option linter.unusedVariables false
set_option maxRecDepth 100000
set_option maxHeartbeats 4000000
namespace Go.Proofs.YtdeihcabmpcaoaaGreat
open Go.Ev

abbrev Ned := Flt × Int × Int × Int × Bool
def Ned.frm (d : Ned) : Int := d.2.1
def Ned.to (d : Ned) : Int := d.2.2.1
def Ned.home (d : Ned) : Int := d.2.2.2.1
def Ned.fixed (d : Ned) : Bool := d.2.2.2.2
/-- Insertion behind all that are not greater. -/
def insN (x : Ned) : List Ned → List Ned
 | [] => [x]
 | y :: l => if x.frm < y.frm then x :: y :: l else y :: insN x l
def isortN (l : List Ned) : List Ned := l.foldl (fun acc x => insN x acc) []
theorem insN_perm (x : Ned) : ∀ l : List Ned, (insN x l).Perm (x :: l)
 | [] => List.Perm.refl _
 | y :: l => by
   unfold insN
   split
   · exact List.Perm.refl _
   · exact ((insN_perm x l).cons y).trans (List.Perm.swap x y l)
theorem foldl_permN : ∀ (l acc : List Ned), (l.foldl (fun acc x => insN x acc) acc).Perm (acc ++ l)
 | [], acc => by simp
 | x :: l, acc => by
   refine (foldl_permN l _).trans ?_
   refine ((insN_perm x acc).append_right l).trans ?_
   exact List.perm_middle.symm
theorem isortN_perm (l : List Ned) : (isortN l).Perm l := by
 have := foldl_permN l []
 rwa [List.nil_append] at this
theorem isortN_len (l : List Ned) : (isortN l).length = l.length := (isortN_perm l).length_eq
theorem isortN_snoc (l : List Ned) (x : Ned) : isortN (l ++ [x]) = insN x (isortN l) := by simp [isortN]
theorem isortN_sorted (l : List Ned) : (isortN l).Pairwise (fun a b => a.frm ≤ b.frm) := by
 have key : ∀ (l acc : List Ned), acc.Pairwise (fun a b => a.frm ≤ b.frm) → (l.foldl (fun acc x => insN x acc) acc).Pairwise (fun a b => a.frm ≤ b.frm) := by
  intro l
  induction l with
  | nil => intro acc h; exact h
  | cons x l ih =>
    intro acc h
    refine ih _ ?_
    clear ih
    induction acc with
    | nil => simp [insN]
    | cons y acc ih =>
      obtain ⟨h1, h2⟩ := List.pairwise_cons.1 h
      have ih2 := ih h2
      show List.Pairwise _ (if x.frm < y.frm then x :: y :: acc else y :: insN x acc)
      split
      · rename_i hlt
        refine List.pairwise_cons.2 ⟨fun z hz => ?_, h⟩
        rcases List.mem_cons.1 hz with rfl | hz
        · omega
        · have := h1 z hz; omega
      · rename_i hlt
        refine List.pairwise_cons.2 ⟨fun z hz => ?_, ih2⟩
        rcases List.mem_cons.1 ((insN_perm _ _).mem_iff.1 hz) with rfl | hz
        · omega
        · exact h1 z hz
 exact key l [] List.Pairwise.nil
theorem insN_mid (x : Ned) : ∀ (P : List Ned) (j : Nat), j ≤ P.length → P.Pairwise (fun a b => a.frm ≤ b.frm) → (∀ y ∈ P.drop j, x.frm < y.frm) → (0 < j → ∀ h : j - 1 < P.length, ¬ x.frm < (P[j - 1]).frm) → insN x P = P.take j ++ x :: P.drop j
 | [], j, _, _, _, _ => by simp [insN]
 | y :: P, 0, _, _, h, _ => by
   unfold insN
   rw [if_pos (h y (by simp))]
   rfl
 | y :: P, j + 1, hjl, hs, h, hj => by
   obtain ⟨h1, h2⟩ := List.pairwise_cons.1 hs
   have hy : ¬ x.frm < y.frm := by
    have hl : j < (y :: P).length := hjl
    have := hj (by omega) hl
    cases j with
    | zero => exact this
    | succ j =>
      have hjP : j < P.length := by simpa using hl
      have h3 : ¬ x.frm < (P[j]).frm := this
      have hm := h1 P[j] (List.getElem_mem hjP)
      omega
   unfold insN
   rw [if_neg hy, insN_mid x P j (by simpa using hjl) h2 h (fun hj0 hl => by
    obtain ⟨k, rfl⟩ : ∃ k, j = k + 1 := ⟨j - 1, by omega⟩
    exact hj (by omega) hjl)]
   rfl
def inTimeN (d : Ned) : Prop := 0 ≤ d.frm ∧ d.frm ≤ 1048576
def con63 : Con := { ps := [.d true (.pair yFL (.pair (.int .i64) (.pair (.int .i64) (.pair (.int .i64) .bool)))), .d true (.pair yFL (.pair (.int .i64) (.pair (.int .i64) (.pair (.int .i64) .bool))))], rs := [.d false (.int .i64)], pre := fun (x : Ned × Ned × Unit) => inTimeN x.1 ∧ inTimeN x.2.1, out := fun (x : Ned × Ned × Unit) => (x.1.frm - x.2.1.frm, ()), nw := id }
theorem c63 : CtrOk Tryz.prog 63 con63.ctr :=
 con_sound (G := ⟨[], [], [], [], []⟩) tab_ok EnvOk.nil rfl Tryz.func63 rfl con63 31 (by kernel_rfl) (by decide) (by decide) rfl (by decide) rfl (by
  rintro ⟨(a : Ned), (b : Ned), _⟩ hpre hwf X hT hG hk hK
  obtain ⟨⟨h1, h2⟩, h3, h4⟩ : inTimeN a ∧ inTimeN b := hpre
  obtain ⟨a0, (a1 : Int), (a2 : Int), (a3 : Int), a4⟩ := a
  obtain ⟨b0, (b1 : Int), (b2 : Int), (b3 : Int), b4⟩ := b
  simp only [Ned.frm] at h1 h2 h3 h4
  (simp -implicitDefEqProofs (maxSteps := 4000000) only [go_sem, Bool.not_eq_true', Bool.not_eq_false', Bool.or_eq_true, Bool.or_eq_false_iff, Bool.and_eq_true, Bool.and_eq_false_iff, decide_eq_true_eq, decide_eq_false_iff_not, Classical.not_not, not_or, maxLen, con63, hT, hG, hk, hK, Tryz.results63] at hwf ⊢); (try simp (disch := decide +kernel) only [drawn, true_and, and_true])
  (repeat' (with_reducible (first | refine And.intro ?_ ?_ | intro _))) <;> (try (first | with_reducible (first | done | assumption | omega | contradiction) | decide))
  rfl)
def con101 : Con := { ps := [.o 81 (.pair yFL (.pair (.int .i64) (.pair (.int .i64) (.pair (.int .i64) .bool)))), .d false (.int .i64), .d false (.int .i64), .cl 63 []], rs := [], pre := fun (x : List Ned × Int × Int × Unit × Unit) => x.2.1 = 0 ∧ x.2.2.1 = x.1.length ∧ x.1.length ≤ 1000 ∧ ∀ d ∈ x.1, inTimeN d, out := fun x => (), nw := fun x => (isortN x.1, x.2) }
theorem c101 : CtrOk Tryz.prog 101 con101.ctr :=
 con_sound (G := ⟨[(63, con63.ctr)], [], [], [], []⟩) tab_ok (EnvOk.cons c63 has63 EnvOk.nil) rfl Tryz.func101 rfl con101 17179886351 (by kernel_rfl) (by decide) (by decide) rfl (by decide) rfl (by
  rintro ⟨(l : List Ned), (a : Int), (b : Int), _⟩ hpre hwf X hT hG hk hK
  obtain ⟨rfl, rfl, h3, h4⟩ : a = 0 ∧ b = l.length ∧ l.length ≤ 1000 ∧ ∀ k ∈ l, inTimeN k := hpre
  (simp -implicitDefEqProofs (maxSteps := 4000000) only [go_sem, Bool.not_eq_true', Bool.not_eq_false', Bool.or_eq_true, Bool.or_eq_false_iff, Bool.and_eq_true, Bool.and_eq_false_iff, decide_eq_true_eq, decide_eq_false_iff_not, Classical.not_not, not_or, maxLen, con101, con63, hT, hG, hk, hK, Tryz.results101] at hwf ⊢); (try simp (disch := decide +kernel) only [drawn, true_and, and_true])
  (repeat' (with_reducible (first | refine And.intro ?_ ?_ | intro _))) <;> (try (first | with_reducible (first | done | assumption | omega | contradiction) | decide))
  refine evk_loop ⟨{ i : Nat // 1 ≤ i }, 1000,
   fun q => [(0, .one (.row 0)), (1, .one (.int .i64 0)), (2, .one (.int .i64 l.length)), (3, .one (.fn 63 [])), (8, .one (.int .i64 q.1))],
   fun q => [(0, .row 81 (.pair yFL (.pair (.int .i64) (.pair (.int .i64) (.pair (.int .i64) .bool)))) (isortN (l.take q.1) ++ l.drop q.1))], fun q => l.length + 1 - q.1⟩ ⟨1, Nat.le_refl 1⟩ ?_ ?_
  · simp only [go_sem]
    refine ⟨?_, rfl⟩
    cases l with
    | nil => rfl
    | cons x l => rfl
  · rintro ⟨i, (hi : 1 ≤ i)⟩
    (simp -implicitDefEqProofs (maxSteps := 4000000) only [go_sem, Bool.not_eq_true', Bool.not_eq_false', Bool.or_eq_true, Bool.or_eq_false_iff, Bool.and_eq_true, Bool.and_eq_false_iff, decide_eq_true_eq, decide_eq_false_iff_not, Classical.not_not, not_or, maxLen, con101, con63, hT, hG, hk, hK, Tryz.results101]); (try simp (disch := decide +kernel) only [drawn, true_and, and_true])
    refine ⟨fun hlt => ?_, fun hge => ?_⟩
    · have hi' : i < l.length := by omega
      have hP := isortN_len (l.take i)
      have hPm := isortN_perm (l.take i)
      have hPs := isortN_sorted (l.take i)
      have hsn : isortN (l.take (i + 1)) = insN l[i] (isortN (l.take i)) := by rw [List.take_succ_eq_append_getElem hi', isortN_snoc]
      generalize hPe : isortN (l.take i) = P at hP hPm hPs hsn ⊢
      have hPl : P.length = i := by rw [hP, List.length_take]; omega
      refine evk_loop ⟨{ j : Nat // j ≤ i ∧ ∀ y ∈ P.drop j, l[i].frm < Ned.frm y }, 2000,
       fun q => [(0, .one (.row 0)), (1, .one (.int .i64 0)), (2, .one (.int .i64 l.length)), (3, .one (.fn 63 [])), (8, .one (.int .i64 i)), (9, .one (.int .i64 q.1))],
       fun q => [(0, .row 81 (.pair yFL (.pair (.int .i64) (.pair (.int .i64) (.pair (.int .i64) .bool)))) (P.take q.1 ++ l[i] :: (P.drop q.1 ++ l.drop (i + 1))))], fun q => q.1⟩ ⟨i, Nat.le_refl i, by intro y hy; rw [List.drop_of_length_le (by omega)] at hy; cases hy⟩ ?_ ?_
      · simp only [go_sem]
        rw [List.take_of_length_le (by omega), List.drop_of_length_le (by omega : P.length ≤ i), List.nil_append, ← List.drop_eq_getElem_cons hi']
      · rintro ⟨j, (hj' : j ≤ i), (hgt : ∀ y ∈ P.drop j, l[i].frm < Ned.frm y)⟩
        (simp -implicitDefEqProofs (maxSteps := 4000000) only [go_sem, Bool.not_eq_true', Bool.not_eq_false', Bool.or_eq_true, Bool.or_eq_false_iff, Bool.and_eq_true, Bool.and_eq_false_iff, decide_eq_true_eq, decide_eq_false_iff_not, Classical.not_not, not_or, maxLen, con101, con63, hT, hG, hk, hK, Tryz.results101]); (try simp (disch := decide +kernel) only [drawn, true_and, and_true])
        have hML : (P.take j ++ l[i] :: (P.drop j ++ l.drop (i + 1))).length = l.length := by simp; omega
        have hswap := fun h => mid_swap P (l.drop (i + 1)) l[i] j h
        have hg1 := fun z => mid_at z P (l.drop (i + 1)) l[i] j (by omega)
        have hg2 := fun z h => mid_before z P (l.drop (i + 1)) l[i] j h
        have hins := insN_mid l[i] P j (by omega) hPs hgt
        have hx4 := h4 _ (List.getElem_mem hi')
        generalize hM : P.take j ++ l[i] :: (P.drop j ++ l.drop (i + 1)) = M at hML hswap hg1 hg2 ⊢
        simp only [List.length_set, hg1]
        by_cases hj0 : 0 < j
        · have hg2' := fun z => hg2 z ⟨hj0, by omega⟩
          have hsw := hswap ⟨hj0, by omega⟩
          have hp4 : inTimeN (P[j - 1]'(by omega)) := h4 _ (List.mem_of_mem_take (hPm.mem_iff.1 (List.getElem_mem _)))
          simp only [hg2', hsw]
          have hdr : P.drop (j - 1) = P[j - 1]'(by omega) :: P.drop j := by
           have := List.drop_eq_getElem_cons (show j - 1 < P.length by omega)
           rwa [show j - 1 + 1 = j by omega] at this
          generalize hpe : P[j - 1]'(by omega) = p at hp4 hdr ⊢
          have hd1 := hx4.1
          have hd2 := hx4.2
          have hd3 := hp4.1
          have hd4 := hp4.2
          (repeat' (with_reducible (first | refine And.intro ?_ ?_ | intro _))) <;> (try (first | with_reducible (first | done | assumption | omega | contradiction) | decide))
          · have hlt2 : l[i].frm < p.frm := by omega
            refine fin_lp ⟨j - 1, by omega, ?_⟩ ?_ ?_
            · intro y hy
              rw [hdr] at hy
              rcases List.mem_cons.1 hy with rfl | hy
              · exact hlt2
              · exact hgt y hy
            · simp only [go_sem]
              omega
            · dsimp only; omega
          · have hins2 := hins (fun _ h => by rw [hpe]; omega)
            refine fin_lp ⟨i + 1, by omega⟩ ?_ ?_
            · simp only [go_sem]
              refine ⟨?_, by omega⟩
              rw [hsn, hins2, ← hM]
              simp
            · dsimp only; omega
        · obtain rfl : j = 0 := by omega
          have hz : ¬ (((0 : Nat) : Int) > 0) := by omega
          have hins2 := hins (fun h => absurd h (by omega))
          (repeat' (with_reducible (first | refine And.intro ?_ ?_ | intro _))) <;> (try (first | with_reducible (first | done | assumption | omega | contradiction) | decide))
          refine fin_lp ⟨i + 1, by omega⟩ ?_ ?_
          · simp only [go_sem]
            refine ⟨?_, by omega⟩
            rw [hsn, hins2, ← hM]
            simp
          · dsimp only; omega
    · rw [List.take_of_length_le (by omega), List.drop_of_length_le (by omega), List.append_nil])
/-- A function that is not called. -/
structure NoC2 where
 ctr : Ctr
def con102 : NoC2 := ⟨fun _ _ _ => ⟨False, .one .undef, [], True⟩⟩
theorem c102 : CtrOk Tryz.prog 102 con102.ctr := by
 intro D gv hD cx hcx σ N m w fr avs vs _ _ _ h
 exact h.elim
def con75 : Con := { ps := [.o 81 (.pair yFL (.pair (.int .i64) (.pair (.int .i64) (.pair (.int .i64) .bool)))), .d false (.int .i64), .cl 63 []], rs := [], pre := fun (x : List Ned × Int × Unit × Unit) => x.2.1 = x.1.length ∧ x.1.length ≤ 19 ∧ ∀ k ∈ x.1, inTimeN k, out := fun x => (), nw := fun x => (isortN x.1, x.2) }
theorem c75 : CtrOk Tryz.prog 75 con75.ctr :=
 con_sound (G := ⟨[(101, con101.ctr), (102, con102.ctr)], [], [], [], []⟩) tab_ok (EnvOk.cons c101 has101 (EnvOk.cons c102 has102 EnvOk.nil)) rfl Tryz.func75 rfl con75 18014433942971335 (by kernel_rfl) (by decide) (by decide) rfl (by decide) rfl (by
  rintro ⟨(l : List Ned), (n : Int), _⟩ hpre hwf X hT hG hk hK
  obtain ⟨rfl, h3, h4⟩ : n = l.length ∧ l.length ≤ 19 ∧ ∀ k ∈ l, inTimeN k := hpre
  (simp -implicitDefEqProofs (maxSteps := 4000000) only [go_sem, Bool.not_eq_true', Bool.not_eq_false', Bool.or_eq_true, Bool.or_eq_false_iff, Bool.and_eq_true, Bool.and_eq_false_iff, decide_eq_true_eq, decide_eq_false_iff_not, Classical.not_not, not_or, maxLen, con75, con101, con102, hT, hG, hk, hK, Tryz.results75] at hwf ⊢); (try simp (disch := decide +kernel) only [drawn, true_and, and_true])
  refine evk_loop ⟨Unit, 1000,
   fun q => [(0, .one (.row 0)), (1, .one (.int .i64 l.length)), (2, .one (.fn 63 [])), (6, .one (.int .i64 20)), (7, .one (.int .i64 0)), (8, .one (.int .i64 20))],
   fun q => [(0, .row 81 (.pair yFL (.pair (.int .i64) (.pair (.int .i64) (.pair (.int .i64) .bool)))) l)], fun q => 0⟩ () ?_ ?_
  · simp only [go_sem]
  · rintro ⟨⟩
    (simp -implicitDefEqProofs (maxSteps := 4000000) only [go_sem, Bool.not_eq_true', Bool.not_eq_false', Bool.or_eq_true, Bool.or_eq_false_iff, Bool.and_eq_true, Bool.and_eq_false_iff, decide_eq_true_eq, decide_eq_false_iff_not, Classical.not_not, not_or, maxLen, con75, con101, con102, hT, hG, hk, hK, Tryz.results75]); (try simp (disch := decide +kernel) only [drawn, true_and, and_true])
    refine ⟨fun h => absurd h (by omega), fun _ => ⟨⟨by omega, h4⟩, ?_⟩⟩
    refine evk_loop ⟨Unit, 2000,
     fun q => [(0, .one (.row 0)), (1, .one (.int .i64 l.length)), (2, .one (.fn 63 [])), (6, .one (.int .i64 20)), (7, .one (.int .i64 0)), (8, .one (.int .i64 20))],
     fun q => [(0, .row 81 (.pair yFL (.pair (.int .i64) (.pair (.int .i64) (.pair (.int .i64) .bool)))) (isortN l))], fun q => 0⟩ () ?_ ?_
    · simp only [go_sem]
    · rintro ⟨⟩
      (simp -implicitDefEqProofs (maxSteps := 4000000) only [go_sem, Bool.not_eq_true', Bool.not_eq_false', Bool.or_eq_true, Bool.or_eq_false_iff, Bool.and_eq_true, Bool.and_eq_false_iff, decide_eq_true_eq, decide_eq_false_iff_not, Classical.not_not, not_or, maxLen, con75, con101, con102, hT, hG, hk, hK, Tryz.results75]); (try simp (disch := decide +kernel) only [drawn, true_and, and_true])
      exact fun h => absurd h (by omega))
def con62 : Con := { ps := [.o 81 (.pair yFL (.pair (.int .i64) (.pair (.int .i64) (.pair (.int .i64) .bool)))), .cl 63 []], rs := [], pre := fun (x : List Ned × Unit × Unit) => x.1.length ≤ 19 ∧ ∀ k ∈ x.1, inTimeN k, out := fun x => (), nw := fun x => (isortN x.1, x.2) }
theorem c62 : CtrOk Tryz.prog 62 con62.ctr :=
 con_sound (G := ⟨[(75, con75.ctr)], [], [], [], []⟩) tab_ok (EnvOk.cons c75 has75 EnvOk.nil) rfl Tryz.func62 rfl con62 3 (by kernel_rfl) (by decide) (by decide) rfl (by decide) rfl (by
  rintro ⟨(l : List Ned), _⟩ hpre hwf X hT hG hk hK
  obtain ⟨h3, h4⟩ : l.length ≤ 19 ∧ ∀ k ∈ l, inTimeN k := hpre
  (simp -implicitDefEqProofs (maxSteps := 4000000) only [go_sem, Bool.not_eq_true', Bool.not_eq_false', Bool.or_eq_true, Bool.or_eq_false_iff, Bool.and_eq_true, Bool.and_eq_false_iff, decide_eq_true_eq, decide_eq_false_iff_not, Classical.not_not, not_or, maxLen, con62, con75, hT, hG, hk, hK, Tryz.results62] at hwf ⊢); (try simp (disch := decide +kernel) only [drawn, true_and, and_true])
  (repeat' (with_reducible (first | refine And.intro ?_ ?_ | intro _))) <;> (try (first | with_reducible (first | done | assumption | omega | contradiction) | decide))
  all_goals exact h4 _ (by assumption))
end Go.Proofs.YtdeihcabmpcaoaaGreat

/- The contracts of replan's functions: arguments, what is fixed, what has moved. -/
set_option linter.unusedSimpArgs false
set_option linter.unusedVariables false
set_option maxRecDepth 100000
set_option maxHeartbeats 4000000
namespace Go.Proofs.YtdeihcabmpcaoaaGreat
open Go.Ev

def closedV (d : Dep) (t : Int) : Bool := !decide (d.state = 0) || decide (t ≥ d.closes)
def con59 : Con := { ps := [.d true yDP, .d false (.int .i64)], rs := [.d false .bool], pre := fun _ => True, out := fun x => (closedV x.1 x.2.1, ()), nw := id }
theorem c59 : CtrOk Tryz.prog 59 con59.ctr :=
 con_sound (G := ⟨[], [], [], [], []⟩) tab_ok EnvOk.nil rfl Tryz.func59 rfl con59 23 (by kernel_rfl) (by decide) (by decide) rfl (by decide) rfl (by
  rintro ⟨(a : Dep), (t : Int), _⟩ hpre hwf X hT hG hk hK
  obtain ⟨a0, a1, (a2 : Int), (a3 : Int), (a4 : Int), (a5 : Int), (a6 : Int)⟩ := a
  (simp -implicitDefEqProofs (maxSteps := 4000000) only [go_sem, Bool.not_eq_true', Bool.not_eq_false', Bool.or_eq_true, Bool.or_eq_false_iff, Bool.and_eq_true, Bool.and_eq_false_iff, decide_eq_true_eq, decide_eq_false_iff_not, Classical.not_not, not_or, maxLen, con59, hT, hG, hk, hK, Tryz.results59] at hwf ⊢); (try simp (disch := decide +kernel) only [drawn, true_and, and_true])
  unfold closedV
  simp only [Dep.state, Dep.closes]
  (repeat' (with_reducible (first | refine And.intro ?_ ?_ | intro _))) <;> (try (first | with_reducible (first | done | assumption | omega | contradiction) | decide))
  by_cases h : a6 = 0 <;> simp [h])
def minV : List Int → Int
 | [] => 0
 | x :: l => l.foldl (fun m y => if y < m then y else m) x
theorem minV_snoc {l : List Int} (h : 0 < l.length) (y : Int) : minV (l ++ [y]) = if y < minV l then y else minV l := by
 cases l with
 | nil => simp at h
 | cons x l => simp only [minV, List.cons_append, List.foldl_append, List.foldl_cons, List.foldl_nil]; rfl
theorem minV_lt : ∀ {l : List Int}, 0 < l.length → (minV l < 0 ↔ l.all (fun c => decide (0 ≤ c)) = false) := by
 have key : ∀ (l : List Int) (x : Int), l.foldl (fun m y => if y < m then y else m) x < 0 ↔ (x :: l).all (fun c => decide (0 ≤ c)) = false := by
  intro l
  induction l with
  | nil => intro x; simp
  | cons y l ih =>
    intro x
    simp only [List.foldl_cons]
    rw [ih]
    simp only [List.all_cons, Bool.and_eq_false_iff, decide_eq_false_iff_not]
    split <;> constructor <;> intro h <;> (rcases h with h | h <;> (try rcases h with h | h) <;> (first | (left; omega) | (right; left; omega) | (right; right; exact h) | (right; exact h)))
 intro l h
 cases l with
 | nil => simp at h
 | cons x l => exact key l x
def con60 : Con := { ps := [.d false (.sl (.int .i64))], rs := [.d false (.int .i64)], pre := fun (x : List Int × Unit) => 0 < x.1.length, out := fun x => (minV x.1, ()), nw := id }
theorem c60 : CtrOk Tryz.prog 60 con60.ctr :=
 con_sound (G := ⟨[], [], [], [], []⟩) tab_ok EnvOk.nil rfl Tryz.func60 rfl con60 32925 (by kernel_rfl) (by decide) (by decide) rfl (by decide) rfl (by
  rintro ⟨(l : List Int), _⟩ hpre hwf X hT hG hk hK
  have hl : 0 < l.length := hpre
  (simp -implicitDefEqProofs (maxSteps := 4000000) only [go_sem, Bool.not_eq_true', Bool.not_eq_false', Bool.or_eq_true, Bool.or_eq_false_iff, Bool.and_eq_true, Bool.and_eq_false_iff, decide_eq_true_eq, decide_eq_false_iff_not, Classical.not_not, not_or, maxLen, con60, hT, hG, hk, hK, Tryz.results60] at hwf ⊢); (try simp (disch := decide +kernel) only [drawn, true_and, and_true])
  refine fun hlm => ⟨fun h => absurd h (by omega), fun _ => ⟨by omega, fun _ _ => ?_⟩⟩
  refine evk_loop ⟨{ i : Nat // i + 1 ≤ l.length }, 1000, fun i => [(0, .one (.sl (.int .i64) l false)), (3, .one (.int .i64 (minV (l.take (i.1 + 1))))), (4, .one (.int .i64 (i.1 + 1)))], fun i => [], fun i => l.length - i.1⟩ ⟨0, hl⟩ ?_ ?_
  · simp only [go_sem]
    cases l with
    | nil => simp at hl
    | cons x l => simp [minV]
  · rintro ⟨i, (hi : i + 1 ≤ l.length)⟩
    (simp -implicitDefEqProofs (maxSteps := 4000000) only [go_sem, Bool.not_eq_true', Bool.not_eq_false', Bool.or_eq_true, Bool.or_eq_false_iff, Bool.and_eq_true, Bool.and_eq_false_iff, decide_eq_true_eq, decide_eq_false_iff_not, Classical.not_not, not_or, maxLen, con60, hT, hG, hk, hK, Tryz.results60]); (try simp (disch := decide +kernel) only [drawn, true_and, and_true])
    refine fun _ => ⟨fun hlt => ?_, fun hge => ?_⟩
    · have hi' : i + 1 < l.length := by omega
      have ek : ∀ z, l.getD ((i : Int) + 1).toNat z = l[i + 1] := fun z => by rw [show ((i : Int) + 1).toNat = i + 1 by omega]; simp [hi']
      simp only [ek]
      have hst : minV (l.take (i + 1 + 1)) = if l[i + 1] < minV (l.take (i + 1)) then l[i + 1] else minV (l.take (i + 1)) := by
       rw [List.take_succ_eq_append_getElem hi', minV_snoc (by rw [List.length_take]; omega)]
      (repeat' (with_reducible (first | refine And.intro ?_ ?_ | intro _))) <;> (try (first | with_reducible (first | done | assumption | omega | contradiction) | decide))
      refine fin_lp ⟨i + 1, by omega⟩ ?_ ?_
      · simp only [go_sem]
        rw [hst]
        exact ⟨by omega, rfl⟩
      · dsimp only; omega
    · rw [List.take_of_length_le (by omega)])
/-- How many departures are not closed. -/
def actN (l : List Dep) (t : Int) : Nat := l.countP (fun d => !closedV d t)
theorem actN_snoc (l : List Dep) (t : Int) (d : Dep) : actN (l ++ [d]) t = if (!closedV d t) = true then actN l t + 1 else actN l t := by
 unfold actN
 rw [List.countP_append]
 simp only [List.countP_cons, List.countP_nil]
 cases closedV d t <;> simp
theorem actN_le (l : List Dep) (t : Int) : actN l t ≤ l.length := List.countP_le_length
def argR (l : List Dep) (cs : List Int) (t : Int) : Int :=
 if validateV l ≠ 0 then validateV l else if (actN l t : Int) > 16 ∨ (cs.length : Int) > 6 then 2 else if cs.all (fun c => decide (0 ≤ c)) = false then 1 else if ascI cs = false then 9 else 0
def con32 : Con := { ps := [.d false (.sl yDP), .d false (.sl (.int .i64)), .d false (.int .i64)], rs := [.d false (.int .i64)], pre := fun (x : List Dep × List Int × Int × Unit) => x.1.length ≤ 1048576, out := fun (x : List Dep × List Int × Int × Unit) => (argR x.1 x.2.1 x.2.2.1, ()), nw := id }
theorem c32 : CtrOk Tryz.prog 32 con32.ctr :=
 con_sound (G := ⟨[(51, con51.ctr), (59, con59.ctr), (60, con60.ctr)], [], [], [], []⟩) tab_ok (EnvOk.cons c51 has51 (EnvOk.cons c59 has59 (EnvOk.cons c60 has60 EnvOk.nil))) rfl Tryz.func32 rfl con32 1153220640558190023 (by kernel_rfl) (by decide) (by decide) rfl (by decide) rfl (by
  rintro ⟨(l : List Dep), (cs : List Int), (t : Int), _⟩ hpre hwf X hT hG hk hK
  have hl : l.length ≤ 1048576 := hpre
  (simp -implicitDefEqProofs (maxSteps := 4000000) only [go_sem, Bool.not_eq_true', Bool.not_eq_false', Bool.or_eq_true, Bool.or_eq_false_iff, Bool.and_eq_true, Bool.and_eq_false_iff, decide_eq_true_eq, decide_eq_false_iff_not, Classical.not_not, not_or, maxLen, con32, con51, con59, con60, hT, hG, hk, hK, Tryz.results32] at hwf ⊢); (try simp (disch := decide +kernel) only [drawn, true_and, and_true])
  clear hwf
  refine fun _ => ⟨fun h => ?_, fun h0 hlm => ?_⟩
  · unfold argR; rw [if_pos h]
  refine evk_loop ⟨{ i : Nat // i ≤ l.length }, 1000, fun i => [(0, .one (.sl yDP l false)), (1, .one (.sl (.int .i64) cs false)), (2, .one (.int .i64 t)), (8, .one (.int .i64 (actN (l.take i.1) t))), (17, .one (.sl yDP l false)), (18, .one (.int .i64 l.length)), (19, .one (.int .i64 i.1))], fun i => [], fun i => l.length - i.1⟩ ⟨0, Nat.zero_le _⟩ ?_ ?_
  · simp only [go_sem]
    exact ⟨rfl, rfl⟩
  · rintro ⟨i, (hi : i ≤ l.length)⟩
    (simp -implicitDefEqProofs (maxSteps := 4000000) only [go_sem, Bool.not_eq_true', Bool.not_eq_false', Bool.or_eq_true, Bool.or_eq_false_iff, Bool.and_eq_true, Bool.and_eq_false_iff, decide_eq_true_eq, decide_eq_false_iff_not, Classical.not_not, not_or, maxLen, con32, con51, con59, con60, hT, hG, hk, hK, Tryz.results32]); (try simp (disch := decide +kernel) only [drawn, true_and, and_true])
    refine ⟨fun hlt => ?_, fun hge => ?_⟩
    · have hi' : i < l.length := by omega
      have ek : ∀ z, l.getD (i : Int).toNat z = l[i] := fun z => by simp [hi']
      simp only [ek]
      have hst : actN (l.take (i + 1)) t = if (!closedV l[i] t) = true then actN (l.take i) t + 1 else actN (l.take i) t := by
       rw [List.take_succ_eq_append_getElem hi', actN_snoc]
      have hlen := actN_le (l.take i) t
      rw [List.length_take] at hlen
      (repeat' (with_reducible (first | refine And.intro ?_ ?_ | intro _))) <;> (try (first | with_reducible (first | done | assumption | omega | contradiction) | decide))
      · have h : closedV l[i] t = false := by assumption
        refine fin_lp ⟨i + 1, by omega⟩ ?_ ?_
        · simp only [go_sem]
          rw [hst, if_pos (by rw [h]; rfl)]
          exact ⟨by omega, by omega⟩
        · dsimp only; omega
      · have h : closedV l[i] t = true := by assumption
        refine fin_lp ⟨i + 1, by omega⟩ ?_ ?_
        · simp only [go_sem]
          rw [hst, if_neg (by rw [h]; simp)]
          exact ⟨rfl, by omega⟩
        · dsimp only; omega
    · rw [List.take_of_length_le (by omega)]
      have e0 : argR l cs t = if (actN l t : Int) > 16 ∨ (cs.length : Int) > 6 then 2 else if cs.all (fun c => decide (0 ≤ c)) = false then 1 else if ascI cs = false then 9 else 0 := by
       unfold argR; rw [if_neg (by omega)]
      refine fun _ => ⟨fun h => by rw [e0, if_pos h], fun hn hlc => ?_⟩
      rw [if_neg (by omega)] at e0
      refine ⟨fun h => by omega, fun _ => ⟨fun h => ?_, fun hr => ?_⟩⟩
      · rw [e0, if_pos ((minV_lt (by omega)).1 h.2)]
      have hr2 : ¬ cs.all (fun c => decide (0 ≤ c)) = false := fun h => by
       rcases hr with hr | hr
       · have : cs = [] := List.eq_nil_of_length_eq_zero (by omega)
         rw [this] at h; simp at h
       · have : 0 < cs.length := by
          cases cs with
          | nil => simp at h
          | cons a l => simp
         exact hr ((minV_lt this).2 h)
      rw [if_neg hr2] at e0
      refine evk_loop ⟨{ i : Nat // (i ≤ cs.length ∨ i = 0) ∧ ascI cs = ascI (cs.drop i) }, 2000, fun i => [(1, .one (.sl (.int .i64) cs false)), (11, .one (.int .i64 (i.1 + 1)))], fun _ => [], fun i => cs.length - i.1⟩ ⟨0, by simp, by simp⟩ ?_ ?_
      · simp only [go_sem]
        rfl
      · rintro ⟨i, (hi : i ≤ cs.length ∨ i = 0), (he : ascI cs = ascI (cs.drop i))⟩
        (simp -implicitDefEqProofs (maxSteps := 4000000) only [go_sem, Bool.not_eq_true', Bool.not_eq_false', Bool.or_eq_true, Bool.or_eq_false_iff, Bool.and_eq_true, Bool.and_eq_false_iff, decide_eq_true_eq, decide_eq_false_iff_not, Classical.not_not, not_or, maxLen, con32, con51, con59, con60, hT, hG, hk, hK, Tryz.results32]); (try simp (disch := decide +kernel) only [drawn, true_and, and_true])
        refine fun _ => ⟨fun hlt => ?_, fun hge => ?_⟩
        · have hi' : i < cs.length := by omega
          have hi2 : i + 1 < cs.length := by omega
          have ek : ∀ z, cs.getD ((i : Int) + 1).toNat z = cs[i + 1] := fun z => by
           rw [show ((i : Int) + 1).toNat = i + 1 by omega]; simp [hi2]
          have ek2 : ∀ z, cs.getD ((i : Int) + 1 - 1).toNat z = cs[i] := fun z => by
           rw [show ((i : Int) + 1 - 1).toNat = i by omega]; simp [hi']
          simp only [ek, ek2]
          have hst : ascI cs = (decide (cs[i] < cs[i + 1]) && ascI (cs.drop (i + 1))) := by
           rw [he, List.drop_eq_getElem_cons hi', List.drop_eq_getElem_cons hi2, ascI]
          (repeat' (with_reducible (first | refine And.intro ?_ ?_ | intro _))) <;> (try (first | with_reducible (first | done | assumption | omega | contradiction) | decide))
          · rename_i h
            rw [e0, hst, decide_eq_false (by omega)]
            rfl
          · rename_i h
            refine fin_lp ⟨i + 1, by omega, by rw [hst, decide_eq_true (by omega)]; rfl⟩ (by simp only [go_sem]; first | rfl | ((repeat' apply And.intro) <;> first | rfl | assumption | omega)) (by dsimp only; omega)
        · have ha : ascI cs = true := by
           rw [he]
           rcases h : cs.drop i with _ | ⟨a, _ | ⟨b, q⟩⟩
           · rfl
           · rfl
           · have := congrArg List.length h
             rw [List.length_drop] at this
             simp only [List.length_cons] at this
             omega
          rw [e0, if_neg (by rw [ha]; simp)])
def inC (cs : List Int) (c : Int) : Bool := decide (idxF (fun y : Int => decide (c = y)) cs 0 ≥ 0)
def fixB (cs : List Int) (old : List All) (t : Int) (d : Dep) : Bool := (chV old d.1).2 && isOpenV d t && inC cs (chV old d.1).1
def fixV (l : List Dep) (cs : List Int) (old : List All) (t : Int) : List All := (l.filter (fixB cs old t)).map (fun d => (d.1, (chV old d.1).1))
theorem fixV_snoc (l : List Dep) (cs : List Int) (old : List All) (t : Int) (d : Dep) : fixV (l ++ [d]) cs old t = if fixB cs old t d = true then fixV l cs old t ++ [(d.1, (chV old d.1).1)] else fixV l cs old t := by
 unfold fixV
 rw [List.filter_append]
 cases h : fixB cs old t d <;> simp [h]
theorem fixV_len (l : List Dep) (cs : List Int) (old : List All) (t : Int) : (fixV l cs old t).length ≤ l.length := by
 unfold fixV; rw [List.length_map]; exact List.length_filter_le _ _
def con33 : Con := { ps := [.d false (.sl yDP), .d false (.sl (.int .i64)), .d false (.sl (.pair yFL (.int .i64))), .d false (.int .i64)], rs := [.o 46 (.pair yFL (.int .i64))], pre := fun (x : List Dep × List Int × List All × Int × Unit) => x.1.length ≤ 1048576, out := fun (x : List Dep × List Int × List All × Int × Unit) => (fixV x.1 x.2.1 x.2.2.1 x.2.2.2.1, ()), nw := id }
theorem c33 : CtrOk Tryz.prog 33 con33.ctr :=
 con_sound (G := ⟨[(58, con58.ctr), (53, con53.ctr), (48, con48.ctr)], [], [], [], []⟩) tab_ok (EnvOk.cons c58 has58 (EnvOk.cons c53 has53 (EnvOk.cons c48 has48 EnvOk.nil))) rfl Tryz.func33 rfl con33 137439214351 (by kernel_rfl) (by decide) (by decide) rfl (by decide) rfl (by
  rintro ⟨(l : List Dep), (cs : List Int), (old : List All), (t : Int), _⟩ hpre hwf X hT hG hk hK
  have hl : l.length ≤ 1048576 := hpre
  (simp -implicitDefEqProofs (maxSteps := 4000000) only [go_sem, Bool.not_eq_true', Bool.not_eq_false', Bool.or_eq_true, Bool.or_eq_false_iff, Bool.and_eq_true, Bool.and_eq_false_iff, decide_eq_true_eq, decide_eq_false_iff_not, Classical.not_not, not_or, maxLen, con33, con58, con53, con48, hT, hG, hk, hK, Tryz.results33] at hwf ⊢); (try simp (disch := decide +kernel) only [drawn, true_and, and_true])
  clear hwf
  refine fun hlm => ?_
  refine evk_loop ⟨{ i : Nat // i ≤ l.length }, 1000, fun i => [(0, .one (.sl yDP l false)), (1, .one (.sl (.int .i64) cs false)), (2, .one (.sl (.pair yFL (.int .i64)) old false)), (3, .one (.int .i64 t)), (9, .one (.row 64)), (14, .one (.sl yDP l false)), (15, .one (.int .i64 l.length)), (16, .one (.int .i64 i.1))], fun i => [(64, .row 46 (.pair yFL (.int .i64)) (fixV (l.take i.1) cs old t))], fun i => l.length - i.1⟩ ⟨0, Nat.zero_le _⟩ ?_ ?_
  · simp only [go_sem]
    exact ⟨rfl, rfl⟩
  · rintro ⟨i, (hi : i ≤ l.length)⟩
    (simp -implicitDefEqProofs (maxSteps := 4000000) only [go_sem, Bool.not_eq_true', Bool.not_eq_false', Bool.or_eq_true, Bool.or_eq_false_iff, Bool.and_eq_true, Bool.and_eq_false_iff, decide_eq_true_eq, decide_eq_false_iff_not, Classical.not_not, not_or, maxLen, con33, con58, con53, con48, hT, hG, hk, hK, Tryz.results33]); (try simp (disch := decide +kernel) only [drawn, true_and, and_true])
    refine ⟨fun hlt => ?_, fun hge => ?_⟩
    · have hi' : i < l.length := by omega
      have ek : ∀ z, l.getD (i : Int).toNat z = l[i] := fun z => by simp [hi']
      simp only [ek]
      have hst := fixV_snoc (l.take i) cs old t l[i]
      rw [← List.take_succ_eq_append_getElem hi'] at hst
      have hlen := fixV_len (l.take i) cs old t
      rw [List.length_take] at hlen
      unfold fixB inC at hst
      refine ⟨by omega, fun _ _ _ => ⟨fun h => ⟨by omega, by omega, ?_⟩, fun h => ⟨by omega, ?_⟩⟩⟩
      · refine fin_lp ⟨i + 1, by omega⟩ ?_ ?_
        · simp only [go_sem]
          rw [hst, if_pos (by simp only [Bool.and_eq_true, decide_eq_true_eq]; exact h)]
          exact ⟨rfl, by omega⟩
        · dsimp only; omega
      · refine fin_lp ⟨i + 1, by omega⟩ ?_ ?_
        · simp only [go_sem]
          rw [hst, if_neg (by
           simp only [Bool.and_eq_true, decide_eq_true_eq]
           intro hb
           rcases h with (h | h) | h
           · rw [hb.1.1] at h; cases h
           · rw [hb.1.2] at h; cases h
           · exact h hb.2)]
          exact ⟨rfl, by omega⟩
        · dsimp only; omega
    · rw [List.take_of_length_le (by omega)])
def movB (cs : List Int) (old : List All) (a : All) : Bool := (chV old a.1).2 && !decide ((chV old a.1).1 = a.2) && inC cs (chV old a.1).1
def movV (cs : List Int) (old p : List All) : List Flt := (p.filter (movB cs old)).map (fun a => a.1)
theorem movV_snoc (cs : List Int) (old p : List All) (a : All) : movV cs old (p ++ [a]) = if movB cs old a = true then movV cs old p ++ [a.1] else movV cs old p := by
 unfold movV
 rw [List.filter_append]
 cases h : movB cs old a <;> simp [h]
theorem movV_len (cs : List Int) (old p : List All) : (movV cs old p).length ≤ p.length := by
 unfold movV; rw [List.length_map]; exact List.length_filter_le _ _
def con30 : Con := { ps := [.d false (.sl (.int .i64)), .d false (.sl (.pair yFL (.int .i64))), .d false (.sl (.pair yFL (.int .i64)))], rs := [.o 44 yFL], pre := fun (x : List Int × List All × List All × Unit) => x.2.2.1.length ≤ 1048576, out := fun (x : List Int × List All × List All × Unit) => (movV x.1 x.2.1 x.2.2.1, ()), nw := id }
theorem c30 : CtrOk Tryz.prog 30 con30.ctr :=
 con_sound (G := ⟨[(58, con58.ctr), (48, con48.ctr)], [], [], [], []⟩) tab_ok (EnvOk.cons c58 has58 (EnvOk.cons c48 has48 EnvOk.nil)) rfl Tryz.func30 rfl con30 68719541959 (by kernel_rfl) (by decide) (by decide) rfl (by decide) rfl (by
  rintro ⟨(cs : List Int), (old : List All), (l : List All), _⟩ hpre hwf X hT hG hk hK
  have hl : l.length ≤ 1048576 := hpre
  (simp -implicitDefEqProofs (maxSteps := 4000000) only [go_sem, Bool.not_eq_true', Bool.not_eq_false', Bool.or_eq_true, Bool.or_eq_false_iff, Bool.and_eq_true, Bool.and_eq_false_iff, decide_eq_true_eq, decide_eq_false_iff_not, Classical.not_not, not_or, maxLen, con30, con58, con48, hT, hG, hk, hK, Tryz.results30] at hwf ⊢); (try simp (disch := decide +kernel) only [drawn, true_and, and_true])
  clear hwf
  refine fun hlm => ?_
  refine evk_loop ⟨{ i : Nat // i ≤ l.length }, 1000, fun i => [(0, .one (.sl (.int .i64) cs false)), (1, .one (.sl (.pair yFL (.int .i64)) old false)), (7, .one (.row 64)), (12, .one (.sl (.pair yFL (.int .i64)) l false)), (13, .one (.int .i64 l.length)), (14, .one (.int .i64 i.1))], fun i => [(64, .row 44 yFL (movV cs old (l.take i.1)))], fun i => l.length - i.1⟩ ⟨0, Nat.zero_le _⟩ ?_ ?_
  · simp only [go_sem]
    exact ⟨rfl, rfl⟩
  · rintro ⟨i, (hi : i ≤ l.length)⟩
    (simp -implicitDefEqProofs (maxSteps := 4000000) only [go_sem, Bool.not_eq_true', Bool.not_eq_false', Bool.or_eq_true, Bool.or_eq_false_iff, Bool.and_eq_true, Bool.and_eq_false_iff, decide_eq_true_eq, decide_eq_false_iff_not, Classical.not_not, not_or, maxLen, con30, con58, con48, hT, hG, hk, hK, Tryz.results30]); (try simp (disch := decide +kernel) only [drawn, true_and, and_true])
    refine ⟨fun hlt => ?_, fun hge => ?_⟩
    · have hi' : i < l.length := by omega
      have ek : ∀ z, l.getD (i : Int).toNat z = l[i] := fun z => by simp [hi']
      simp only [ek]
      have hst := movV_snoc cs old (l.take i) l[i]
      rw [← List.take_succ_eq_append_getElem hi'] at hst
      have hlen := movV_len cs old (l.take i)
      rw [List.length_take] at hlen
      unfold movB inC at hst
      refine ⟨by omega, fun _ _ _ => ⟨fun h => ⟨by omega, by omega, ?_⟩, fun h => ⟨by omega, ?_⟩⟩⟩
      · refine fin_lp ⟨i + 1, by omega⟩ ?_ ?_
        · simp only [go_sem]
          rw [hst, if_pos (by simp only [Bool.and_eq_true, decide_eq_true_eq, Bool.not_eq_true', decide_eq_false_iff_not]; exact h)]
          exact ⟨rfl, by omega⟩
        · dsimp only; omega
      · refine fin_lp ⟨i + 1, by omega⟩ ?_ ?_
        · simp only [go_sem]
          rw [hst, if_neg (by
           simp only [Bool.and_eq_true, decide_eq_true_eq, Bool.not_eq_true', decide_eq_false_iff_not]
           intro hb
           rcases h with (h | h) | h
           · rw [hb.1.1] at h; cases h
           · exact hb.1.2 h
           · exact h hb.2)]
          exact ⟨rfl, by omega⟩
        · dsimp only; omega
    · rw [List.take_of_length_le (by omega)])
end Go.Proofs.YtdeihcabmpcaoaaGreat

/- A contract whose first argument is a pointer to a struct that nobody changes any more: the struct's cells are sealed ahead of the call. -/
set_option linter.unusedSimpArgs false
set_option linter.unusedVariables false
namespace Go.Ev

def scU (id : Nat) : Blk → Option (Heap × List C1)
 | .cells _ cs => some ([(id, .scell cs)], cs)
 | .scell cs => some ([], cs)
 | _ => none
def Eff.addU (u : Heap) (E : Eff) : Eff := ⟨E.pre, E.r, u ++ E.u, E.asm⟩
theorem Eff.addU_mk {u : Heap} {p : Prop} {r : AV} {v : Heap} {q : Prop} : Eff.addU u ⟨p, r, v, q⟩ = ⟨p, r, u ++ v, q⟩ := rfl
def scQ (C : Ctr) (r : List AV) (m : Mem) (fr : Nat) : Option (Heap × List C1) → Eff
 | some (u, cs) => Eff.addU u (C (.one (.sp cs 0) :: r) (updM m u) fr)
 | none => bad
def scB (C : Ctr) : Ctr := fun avs m fr => match avs with
 | .one (.loc id 0) :: r => scQ C r m fr (scU id (m id))
 | _ => bad

section
variable {cx : Cx} {σ : Nat → Value} {N : Nat → Prop} {m : Mem} {w : World} {fr : Nat} {P : Program}
theorem sc_here (h : RepM cx σ N m w) {id : Nat} {e : TypeId} {cs : List C1} (hm : m id = .cells e cs) :
 RepM cx σ N (updM m [(id, .scell cs)]) w ∧ Rx.Keeps (rx cx σ N m w) (rx cx σ N (updM m [(id, .scell cs)]) w) := by
 have hb := h.blk id
 rw [hm] at hb
 obtain ⟨b, vs, e1, e2, k, k1⟩ := hb
 simp only [rx] at e1 e2
 have oid : own (m id) = true := by rw [hm]; rfl
 have hbid : hb (σ id) b := by rw [e1, hb_ptr]; rfl
 have m1 : updM m [(id, .scell cs)] id = .scell cs := by simp [updM]
 have m2 : ∀ i, i ≠ id → updM m [(id, .scell cs)] i = m i := fun i hi => by
  simp only [updM]; rw [if_neg (fun k => hi k.symm)]
 have hno : ¬ Owned cx σ (updM m [(id, .scell cs)]) b := by
  rintro (hf | ⟨i, ho, hbi⟩)
  · exact h.notF id b oid hbid hf
  · by_cases hi : i = id
    · rw [hi, m1] at ho; cases ho
    · rw [m2 i hi] at ho
      exact hi (h.inj i id b ho oid hbi hbid)
 exact h.stepD (σ' := σ) (N' := N) (m' := updM m [(id, .scell cs)]) (w' := w) (fun i => i = id) (fun _ k => k)
  (fun i k => by
    by_cases hi : i = id
    · have := h.fresh i k
      rw [hi, hm] at this; cases this
    · rw [m2 i hi]; exact h.fresh i k)
  (fun i k => ⟨m2 i k, rfl⟩) (fun _ _ => rfl) (fun _ _ _ => rfl) ⟨Nat.le_refl _, fun _ => Nat.le_refl _⟩ rfl rfl rfl
  (fun i b' hi ho hbb => by rw [hi, m1] at ho; cases ho)
  (fun i i' b' hi hi' ho => by rw [hi, m1] at ho; cases ho)
  (fun i hi => h.hone i)
  (fun hk i hi => by
    rw [hi, m1]
    exact ⟨b, vs, e1, repCs_keep hk cs vs k, fun j u hu => ⟨hno, by
     show w.cell? _ = _
     rw [cell_at e2, Nat.zero_add]; exact hu⟩⟩)

theorem sc_arg (h : RepM cx σ N m w) {id : Nat} {cs : List C1} (hm : m id = .scell cs) {v : Value} (hv : repC (rx cx σ N m w) (.loc id 0) v) :
 repC (rx cx σ N m w) (.sp cs 0) v := by
 have hb := h.blk id
 rw [hm] at hb
 obtain ⟨b, vs, e1, k, k1⟩ := hb
 unfold repC at hv ⊢
 obtain ⟨_, b', e3, e4⟩ := hv
 rw [e1] at e3
 simp at e3; subst e3
 exact ⟨b, vs, e4, k, k1⟩

theorem scB_ok {f : FuncId} {C : Ctr} (hC : CtrOk P f C) : CtrOk P f (scB C) := by
 intro D gv hD cx hcx σ N m w fr avs vs h hfr hr hp
 unfold scB at hp ⊢
 split at hp
 · rename_i id r
   unfold repAs at hr
   obtain ⟨v, vs', rfl, g1, g2⟩ := hr
   have g3 : repC (rx cx σ N m w) (.loc id 0) v := by unfold repA at g1; exact g1
   cases hm : scU id (m id) with
   | none => simp only [hm] at hp; exact hp.elim
   | some p =>
     obtain ⟨u, cs⟩ := p
     simp only [hm] at hp ⊢
     have key : RepM cx σ N (updM m u) w ∧ Rx.Keeps (rx cx σ N m w) (rx cx σ N (updM m u) w) ∧ updM m u id = .scell cs := by
      unfold scU at hm
      split at hm
      · rename_i e cs' hc
        cases hm
        obtain ⟨k1, k2⟩ := sc_here h hc
        exact ⟨k1, k2, by simp [updM]⟩
      · rename_i cs' hc
        cases hm
        exact ⟨h, ⟨.refl _ _, fun _ _ => rfl, fun _ k => k⟩, hc⟩
      · cases hm
     obtain ⟨k1, k2, k3⟩ := key
     have hargs : repAs (rx cx σ N (updM m u) w) (.one (.sp cs 0) :: r) (v :: vs') := by
      unfold repAs
      refine ⟨v, vs', rfl, ?_, repAs_keep k2 _ _ g2⟩
      unfold repA
      exact sc_arg k1 k3 (repC_keep k2 _ _ g3)
     refine (hC D gv hD cx hcx σ N (updM m u) w fr _ _ k1 hfr hargs hp).mono fun e w' he => ?_
     obtain ⟨v', rfl, σ', q1, q2, q3, q4⟩ := he
     refine ⟨v', rfl, σ', ?_, ?_, ?_, q4⟩
     · simp only [scQ, Eff.addU]; rw [updM_append]; exact q1
     · simp only [scQ, Eff.addU]; rw [updM_append]; exact ⟨k2.k.trans q2.k (Nat.le_refl _), fun id hn => (q2.σ id hn).trans (k2.σ id hn), fun id hn => k2.N id (q2.N id hn)⟩
     · simp only [scQ, Eff.addU]; rw [updM_append]; exact q3
 · exact hp.elim
end
attribute [go_sem] scB scU scQ Eff.addU_mk opA_nil_sp
end Go.Ev

/- The contracts of replan's functions: a step of the search. -/
set_option linter.unusedSimpArgs false
set_option linter.unusedVariables false
set_option maxRecDepth 100000
set_option maxHeartbeats 8000000
namespace Go.Proofs.YtdeihcabmpcaoaaGreat
open Go.Ev

def possN (n : Ned) (c f : Int) : Bool := decide (f ≤ n.frm) && (!n.fixed || decide (c = n.home))
def priceN (n : Ned) (c : Int) : Int := if 0 ≤ n.home ∧ ¬ n.home = c then 1 else 0
def con36 : Con := { ps := [.d true (.pair yFL (.pair (.int .i64) (.pair (.int .i64) (.pair (.int .i64) .bool)))), .d false (.int .i64), .d false (.int .i64)], rs := [.d false .bool], pre := fun _ => True, out := fun (x : Ned × Int × Int × Unit) => (possN x.1 x.2.1 x.2.2.1, ()), nw := id }
theorem c36 : CtrOk Tryz.prog 36 con36.ctr :=
 con_sound (G := ⟨[], [], [], [], []⟩) tab_ok EnvOk.nil rfl Tryz.func36 rfl con36 79 (by kernel_rfl) (by decide) (by decide) rfl (by decide) rfl (by
  rintro ⟨⟨f, (a : Int), (b : Int), (h : Int), q⟩, (c : Int), (fr : Int), _⟩ hpre hwf X hT hG hk hK
  (simp -implicitDefEqProofs (maxSteps := 4000000) only [go_sem, Bool.not_eq_true', Bool.not_eq_false', Bool.or_eq_true, Bool.or_eq_false_iff, Bool.and_eq_true, Bool.and_eq_false_iff, decide_eq_true_eq, decide_eq_false_iff_not, Classical.not_not, not_or, maxLen, con36, hT, hG, hk, hK, Tryz.results36] at hwf ⊢); (try simp (disch := decide +kernel) only [drawn, true_and, and_true])
  unfold possN
  simp only [Ned.frm, Ned.to, Ned.home, Ned.fixed]
  (repeat' (with_reducible (first | refine And.intro ?_ ?_ | intro _))) <;> (try (first | with_reducible (first | done | assumption | omega | contradiction) | decide))
  all_goals (cases q <;> simp <;> rfl))
def con38 : Con := { ps := [.d true (.pair yFL (.pair (.int .i64) (.pair (.int .i64) (.pair (.int .i64) .bool)))), .d false (.int .i64)], rs := [.d false (.int .i64)], pre := fun _ => True, out := fun (x : Ned × Int × Unit) => (priceN x.1 x.2.1, ()), nw := id }
theorem c38 : CtrOk Tryz.prog 38 con38.ctr :=
 con_sound (G := ⟨[], [], [], [], []⟩) tab_ok EnvOk.nil rfl Tryz.func38 rfl con38 8215 (by kernel_rfl) (by decide) (by decide) rfl (by decide) rfl (by
  rintro ⟨⟨f, (a : Int), (b : Int), (h : Int), q⟩, (c : Int), _⟩ hpre hwf X hT hG hk hK
  (simp -implicitDefEqProofs (maxSteps := 4000000) only [go_sem, Bool.not_eq_true', Bool.not_eq_false', Bool.or_eq_true, Bool.or_eq_false_iff, Bool.and_eq_true, Bool.and_eq_false_iff, decide_eq_true_eq, decide_eq_false_iff_not, Classical.not_not, not_or, maxLen, con38, hT, hG, hk, hK, Tryz.results38] at hwf ⊢); (try simp (disch := decide +kernel) only [drawn, true_and, and_true])
  unfold priceN
  simp only [Ned.frm, Ned.to, Ned.home, Ned.fixed]
  exact ⟨fun k => (if_pos (show 0 ≤ h ∧ ¬ h = c from k)).symm, fun k => (if_neg (show ¬ (0 ≤ h ∧ ¬ h = c) by omega)).symm⟩)
abbrev Fre := Int × Int × Int × Int × Int × Int
abbrev Sst := Int × Fre
abbrev Mem6 := List (Sst × Int)
def Fre.get (f : Fre) (k : Int) : Int := if k = 0 then f.1 else if k = 1 then f.2.1 else if k = 2 then f.2.2.1 else if k = 3 then f.2.2.2.1 else if k = 4 then f.2.2.2.2.1 else f.2.2.2.2.2
def Fre.put (f : Fre) (k v : Int) : Fre := (if k = 0 then v else f.1, if k = 1 then v else f.2.1, if k = 2 then v else f.2.2.1, if k = 3 then v else f.2.2.2.1, if k = 4 then v else f.2.2.2.2.1, if k = 5 then v else f.2.2.2.2.2)
def low (t v : Int) : Int := if v ≤ t then 0 else v
def lowK (k j t v : Int) : Int := if j < k then low t v else v
def Fre.map (f : Fre) (k t : Int) : Fre := (lowK k 0 t f.1, lowK k 1 t f.2.1, lowK k 2 t f.2.2.1, lowK k 3 t f.2.2.2.1, lowK k 4 t f.2.2.2.2.1, lowK k 5 t f.2.2.2.2.2)
def nedAt (ds : List Ned) (i : Int) : Ned := ds.getD i.toNat ((ByteArray.empty, 0, ByteArray.empty, 0), 0, 0, 0, false)
def aftV (ds : List Ned) (x : Sst) (c : Int) : Sst := (x.1 + 1, (x.2.put c (nedAt ds x.1).to).map 6 (nedAt ds x.1).frm)
def con37 : Con := { ps := [.pm (.pair (.sl (.pair yFL (.pair (.int .i64) (.pair (.int .i64) (.pair (.int .i64) .bool))))) (.int .i64)) (.pair (.int .i64) (.pair (.int .i64) yBR)) (.int .i64) true false, .d true (.pair (.int .i64) (.pair (.int .i64) yBR)), .d false (.int .i64)], rs := [.d true (.pair (.int .i64) (.pair (.int .i64) yBR))], pre := fun (x : ((List Ned × Int) × Mem6) × Sst × Int × Unit) => 0 ≤ x.2.1.1 ∧ x.2.1.1 < x.1.1.1.length ∧ x.1.1.1.length ≤ 1048576 ∧ 0 ≤ x.2.2.1 ∧ x.2.2.1 < 6, out := fun (x : ((List Ned × Int) × Mem6) × Sst × Int × Unit) => (aftV x.1.1.1 x.2.1 x.2.2.1, ()), nw := id }
theorem c37 : CtrOk Tryz.prog 37 con37.ctr :=
 con_sound (G := ⟨[], [], [], [], []⟩) tab_ok EnvOk.nil rfl Tryz.func37 rfl con37 34561065431 (by kernel_rfl) (by decide) (by decide) rfl (by decide) rfl (by
  rintro ⟨⟨⟨(ds : List Ned), (n : Int)⟩, (mm : Mem6)⟩, ⟨(i : Int), (a0 : Int), (a1 : Int), (a2 : Int), (a3 : Int), (a4 : Int), (a5 : Int)⟩, (c : Int), _⟩ hpre hwf X hT hG hk hK
  obtain ⟨h1, h2, h3, h4, h5⟩ : 0 ≤ i ∧ i < ds.length ∧ ds.length ≤ 1048576 ∧ 0 ≤ c ∧ c < 6 := hpre
  have hc : c = 0 ∨ c = 1 ∨ c = 2 ∨ c = 3 ∨ c = 4 ∨ c = 5 := by omega
  obtain ⟨F, hF⟩ : ∃ F : Fre, (Fre.put (a0, a1, a2, a3, a4, a5) c (nedAt ds i).to) = F := ⟨_, rfl⟩
  obtain ⟨t, ht⟩ : ∃ t : Int, (nedAt ds i).frm = t := ⟨_, rfl⟩
  have hA : aftV ds (i, a0, a1, a2, a3, a4, a5) c = (i + 1, F.map 6 t) := by unfold aftV; rw [← hF, ← ht]
  obtain ⟨b0, b1, b2, b3, b4, b5⟩ := F
  obtain ⟨NA, hNA⟩ : ∃ NA : Ned, nedAt ds i = NA := ⟨_, rfl⟩
  rw [hNA] at hF ht
  obtain ⟨nf, (na : Int), (nb : Int), (nh : Int), nq⟩ := NA
  simp only [Ned.frm, Ned.to] at hF ht
  subst ht
  unfold nedAt at hNA
  rcases hc with rfl | rfl | rfl | rfl | rfl | rfl
  all_goals (
   (simp -implicitDefEqProofs (maxSteps := 4000000) only [go_sem, Bool.not_eq_true', Bool.not_eq_false', Bool.or_eq_true, Bool.or_eq_false_iff, Bool.and_eq_true, Bool.and_eq_false_iff, decide_eq_true_eq, decide_eq_false_iff_not, Classical.not_not, not_or, maxLen, con37, hT, hG, hk, hK, Tryz.results37, Int.cast_ofNat_Int, Int.reduceLE, Int.reduceLT, and_self, Int.le_refl, Int.reduceToNat, Ty.dflt, hNA] at hwf ⊢); (try simp (disch := decide +kernel) only [drawn, true_and, and_true])
   clear hwf
   refine ⟨⟨h1, h2⟩, fun _ _ => ⟨by omega, ?_⟩⟩
   simp only [Fre.put, reduceIte, Int.reduceEq, Prod.mk.injEq] at hF
   refine evk_loop ⟨{ k : Int // 0 ≤ k ∧ k ≤ 6 }, 1000, fun k => [(4, .one (.loc 64 0)), (6, .one (.loc 65 0)), (7, .one (.loc 66 0)), (26, .one (.int .i64 k.1))],
    fun k => [(0, .mapb (.pair (.int .i64) (.pair (.int .i64) yBR)) (.int .i64) true false mm), (64, .cells 78 [.int .i64 (i + 1), .int .i64 (lowK k.1 0 na b0), .int .i64 (lowK k.1 1 na b1), .int .i64 (lowK k.1 2 na b2), .int .i64 (lowK k.1 3 na b3), .int .i64 (lowK k.1 4 na b4), .int .i64 (lowK k.1 5 na b5)]), (65, .cells 78 [.int .i64 0, .int .i64 0, .int .i64 0, .int .i64 0, .int .i64 0, .int .i64 0, .int .i64 0]), (66, .cells 81 (expl (.pair yFL (.pair (.int .i64) (.pair (.int .i64) (.pair (.int .i64) .bool)))) (nf, na, nb, nh, nq)))], fun k => (6 - k.1).toNat⟩ ⟨0, Int.le_refl 0, by decide⟩ ?_ ?_
   · simp only [go_sem]
     simp only [lowK, Int.reduceLT, reduceIte]
     exact ⟨hF.2.2.2.2.2, hF.2.2.2.2.1, hF.2.2.2.1, hF.2.2.1, hF.2.1, hF.1⟩
   · rintro ⟨k, (hk0 : 0 ≤ k), (hk6 : k ≤ 6)⟩
     have hk' : k = 0 ∨ k = 1 ∨ k = 2 ∨ k = 3 ∨ k = 4 ∨ k = 5 ∨ k = 6 := by omega
     rcases hk' with rfl | rfl | rfl | rfl | rfl | rfl | rfl
     · (simp -implicitDefEqProofs (maxSteps := 4000000) only [go_sem, Bool.not_eq_true', Bool.not_eq_false', Bool.or_eq_true, Bool.or_eq_false_iff, Bool.and_eq_true, Bool.and_eq_false_iff, decide_eq_true_eq, decide_eq_false_iff_not, Classical.not_not, not_or, maxLen, con37, hT, hG, hk, hK, Tryz.results37, Int.cast_ofNat_Int, Int.reduceLE, Int.reduceLT, and_self, Int.le_refl, Int.reduceToNat, Ty.dflt, lowK, Int.reduceAdd]); (try simp (disch := decide +kernel) only [drawn, true_and, and_true])
       (repeat' (with_reducible (first | refine And.intro ?_ ?_ | intro _))) <;> first
         | contradiction
         | (rename_i hh
            refine fin_lp ⟨1, by decide, by decide⟩ ?_ (by dsimp only; decide)
            simp only [go_sem]
            simp only [Int.reduceLT, reduceIte, low]
            first
             | (rw [if_pos hh]; (repeat' apply And.intro) <;> first | trivial | rfl)
             | (rw [if_neg hh]; (repeat' apply And.intro) <;> first | trivial | rfl)
             | fail)
     · (simp -implicitDefEqProofs (maxSteps := 4000000) only [go_sem, Bool.not_eq_true', Bool.not_eq_false', Bool.or_eq_true, Bool.or_eq_false_iff, Bool.and_eq_true, Bool.and_eq_false_iff, decide_eq_true_eq, decide_eq_false_iff_not, Classical.not_not, not_or, maxLen, con37, hT, hG, hk, hK, Tryz.results37, Int.cast_ofNat_Int, Int.reduceLE, Int.reduceLT, and_self, Int.le_refl, Int.reduceToNat, Ty.dflt, lowK, Int.reduceAdd]); (try simp (disch := decide +kernel) only [drawn, true_and, and_true])
       (repeat' (with_reducible (first | refine And.intro ?_ ?_ | intro _))) <;> first
         | contradiction
         | (rename_i hh
            refine fin_lp ⟨2, by decide, by decide⟩ ?_ (by dsimp only; decide)
            simp only [go_sem]
            simp only [Int.reduceLT, reduceIte, low]
            first
             | (rw [if_pos hh]; (repeat' apply And.intro) <;> first | trivial | rfl)
             | (rw [if_neg hh]; (repeat' apply And.intro) <;> first | trivial | rfl)
             | fail)
     · (simp -implicitDefEqProofs (maxSteps := 4000000) only [go_sem, Bool.not_eq_true', Bool.not_eq_false', Bool.or_eq_true, Bool.or_eq_false_iff, Bool.and_eq_true, Bool.and_eq_false_iff, decide_eq_true_eq, decide_eq_false_iff_not, Classical.not_not, not_or, maxLen, con37, hT, hG, hk, hK, Tryz.results37, Int.cast_ofNat_Int, Int.reduceLE, Int.reduceLT, and_self, Int.le_refl, Int.reduceToNat, Ty.dflt, lowK, Int.reduceAdd]); (try simp (disch := decide +kernel) only [drawn, true_and, and_true])
       (repeat' (with_reducible (first | refine And.intro ?_ ?_ | intro _))) <;> first
         | contradiction
         | (rename_i hh
            refine fin_lp ⟨3, by decide, by decide⟩ ?_ (by dsimp only; decide)
            simp only [go_sem]
            simp only [Int.reduceLT, reduceIte, low]
            first
             | (rw [if_pos hh]; (repeat' apply And.intro) <;> first | trivial | rfl)
             | (rw [if_neg hh]; (repeat' apply And.intro) <;> first | trivial | rfl)
             | fail)
     · (simp -implicitDefEqProofs (maxSteps := 4000000) only [go_sem, Bool.not_eq_true', Bool.not_eq_false', Bool.or_eq_true, Bool.or_eq_false_iff, Bool.and_eq_true, Bool.and_eq_false_iff, decide_eq_true_eq, decide_eq_false_iff_not, Classical.not_not, not_or, maxLen, con37, hT, hG, hk, hK, Tryz.results37, Int.cast_ofNat_Int, Int.reduceLE, Int.reduceLT, and_self, Int.le_refl, Int.reduceToNat, Ty.dflt, lowK, Int.reduceAdd]); (try simp (disch := decide +kernel) only [drawn, true_and, and_true])
       (repeat' (with_reducible (first | refine And.intro ?_ ?_ | intro _))) <;> first
         | contradiction
         | (rename_i hh
            refine fin_lp ⟨4, by decide, by decide⟩ ?_ (by dsimp only; decide)
            simp only [go_sem]
            simp only [Int.reduceLT, reduceIte, low]
            first
             | (rw [if_pos hh]; (repeat' apply And.intro) <;> first | trivial | rfl)
             | (rw [if_neg hh]; (repeat' apply And.intro) <;> first | trivial | rfl)
             | fail)
     · (simp -implicitDefEqProofs (maxSteps := 4000000) only [go_sem, Bool.not_eq_true', Bool.not_eq_false', Bool.or_eq_true, Bool.or_eq_false_iff, Bool.and_eq_true, Bool.and_eq_false_iff, decide_eq_true_eq, decide_eq_false_iff_not, Classical.not_not, not_or, maxLen, con37, hT, hG, hk, hK, Tryz.results37, Int.cast_ofNat_Int, Int.reduceLE, Int.reduceLT, and_self, Int.le_refl, Int.reduceToNat, Ty.dflt, lowK, Int.reduceAdd]); (try simp (disch := decide +kernel) only [drawn, true_and, and_true])
       (repeat' (with_reducible (first | refine And.intro ?_ ?_ | intro _))) <;> first
         | contradiction
         | (rename_i hh
            refine fin_lp ⟨5, by decide, by decide⟩ ?_ (by dsimp only; decide)
            simp only [go_sem]
            simp only [Int.reduceLT, reduceIte, low]
            first
             | (rw [if_pos hh]; (repeat' apply And.intro) <;> first | trivial | rfl)
             | (rw [if_neg hh]; (repeat' apply And.intro) <;> first | trivial | rfl)
             | fail)
     · (simp -implicitDefEqProofs (maxSteps := 4000000) only [go_sem, Bool.not_eq_true', Bool.not_eq_false', Bool.or_eq_true, Bool.or_eq_false_iff, Bool.and_eq_true, Bool.and_eq_false_iff, decide_eq_true_eq, decide_eq_false_iff_not, Classical.not_not, not_or, maxLen, con37, hT, hG, hk, hK, Tryz.results37, Int.cast_ofNat_Int, Int.reduceLE, Int.reduceLT, and_self, Int.le_refl, Int.reduceToNat, Ty.dflt, lowK, Int.reduceAdd]); (try simp (disch := decide +kernel) only [drawn, true_and, and_true])
       (repeat' (with_reducible (first | refine And.intro ?_ ?_ | intro _))) <;> first
         | contradiction
         | (rename_i hh
            refine fin_lp ⟨6, by decide, by decide⟩ ?_ (by dsimp only; decide)
            simp only [go_sem]
            simp only [Int.reduceLT, reduceIte, low]
            first
             | (rw [if_pos hh]; (repeat' apply And.intro) <;> first | trivial | rfl)
             | (rw [if_neg hh]; (repeat' apply And.intro) <;> first | trivial | rfl)
             | fail)
     · (simp -implicitDefEqProofs (maxSteps := 4000000) only [go_sem, Bool.not_eq_true', Bool.not_eq_false', Bool.or_eq_true, Bool.or_eq_false_iff, Bool.and_eq_true, Bool.and_eq_false_iff, decide_eq_true_eq, decide_eq_false_iff_not, Classical.not_not, not_or, maxLen, con37, hT, hG, hk, hK, Tryz.results37, Int.cast_ofNat_Int, Int.reduceLE, Int.reduceLT, and_self, Int.le_refl, Int.reduceToNat, Ty.dflt, lowK, Int.reduceAdd]); (try simp (disch := decide +kernel) only [drawn, true_and, and_true])
       refine ⟨fun h => h.elim, ?_⟩
       rw [hA]
       exact ⟨rfl, rfl, rfl, rfl, rfl, rfl, rfl⟩))
end Go.Proofs.YtdeihcabmpcaoaaGreat
