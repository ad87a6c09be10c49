/- The contracts of replan's functions: arguments, what is fixed, what has moved. -/
import Derived.Test.YtfaoonbnbdlgaaaRlRWToRN
import Derived.Test.YtfaoonbnbdlgaaaEvFun5ToBox
import Derived.Test.YtfaoonbnbdlgaaaEvG8ToReg
import Derived.Test.YtfaoonbnbdlgaaaEvSimp
set_option linter.unusedSimpArgs false
set_option linter.unusedVariables false
set_option maxRecDepth 100000
set_option maxHeartbeats 4000000
namespace Go.Proofs.Ytfaoonbnbdlgaaa
open Go.Ev

def closedV (d : Dep) (t : Int) : Bool := !decide (d.state = 0) || decide (t ≥ d.closes)
def con52 : Con := { ps := [.d true yDP, .d false (.int .i64)], rs := [.d false .bool], pre := fun _ => True, out := fun x => (closedV x.1 x.2.1, ()), nw := id }
theorem c52 : CtrOk Try.prog 52 con52.ctr :=
 con_sound (G := ⟨[], [], [], [], []⟩) tab_ok EnvOk.nil rfl Try.func52 rfl con52 23 (by kernel_rfl) (by decide) (by decide) rfl (by decide) rfl (by
  rintro ⟨(a : Dep), (t : Int), _⟩ hpre hwf X hT hG hk hK
  obtain ⟨a0, a1, (a2 : Int), (a3 : Int), (a4 : Int), (a5 : Int), (a6 : Int)⟩ := a
  (simp -implicitDefEqProofs (maxSteps := 4000000) only [go_sem, Bool.not_eq_true', Bool.not_eq_false', Bool.or_eq_true, Bool.or_eq_false_iff, Bool.and_eq_true, Bool.and_eq_false_iff, decide_eq_true_eq, decide_eq_false_iff_not, Classical.not_not, not_or, maxLen, con52, hT, hG, hk, hK, Try.results52] at hwf ⊢); (try simp (disch := decide +kernel) only [drawn, true_and, and_true])
  unfold closedV
  simp only [Dep.state, Dep.closes]
  (repeat' (with_reducible (first | refine And.intro ?_ ?_ | intro _))) <;> (try (first | with_reducible (first | done | assumption | omega | contradiction) | decide))
  by_cases h : a6 = 0 <;> simp [h])
def con41 : Con := { ps := [.d true yDP, .d false (.int .i64)], rs := [.d false .bool], pre := fun _ => True, out := fun x => (closedV x.1 x.2.1, ()), nw := id }
theorem c41 : CtrOk Try.prog 41 con41.ctr :=
 con_sound (G := ⟨[], [], [], [], []⟩) tab_ok EnvOk.nil rfl Try.func41 rfl con41 23 (by kernel_rfl) (by decide) (by decide) rfl (by decide) rfl (by
  rintro ⟨(a : Dep), (t : Int), _⟩ hpre hwf X hT hG hk hK
  obtain ⟨a0, a1, (a2 : Int), (a3 : Int), (a4 : Int), (a5 : Int), (a6 : Int)⟩ := a
  (simp -implicitDefEqProofs (maxSteps := 4000000) only [go_sem, Bool.not_eq_true', Bool.not_eq_false', Bool.or_eq_true, Bool.or_eq_false_iff, Bool.and_eq_true, Bool.and_eq_false_iff, decide_eq_true_eq, decide_eq_false_iff_not, Classical.not_not, not_or, maxLen, con41, hT, hG, hk, hK, Try.results41] at hwf ⊢); (try simp (disch := decide +kernel) only [drawn, true_and, and_true])
  unfold closedV
  simp only [Dep.state, Dep.closes]
  (repeat' (with_reducible (first | refine And.intro ?_ ?_ | intro _))) <;> (try (first | with_reducible (first | done | assumption | omega | contradiction) | decide))
  by_cases h : a6 = 0 <;> simp [h])
def minV : List Int → Int
 | [] => 0
 | x :: l => l.foldl (fun m y => if y < m then y else m) x
theorem minV_snoc {l : List Int} (h : 0 < l.length) (y : Int) : minV (l ++ [y]) = if y < minV l then y else minV l := by
 cases l with
 | nil => simp at h
 | cons x l => simp only [minV, List.cons_append, List.foldl_append, List.foldl_cons, List.foldl_nil]; rfl
theorem minV_lt : ∀ {l : List Int}, 0 < l.length → (minV l < 0 ↔ l.all (fun c => decide (0 ≤ c)) = false) := by
 have key : ∀ (l : List Int) (x : Int), l.foldl (fun m y => if y < m then y else m) x < 0 ↔ (x :: l).all (fun c => decide (0 ≤ c)) = false := by
  intro l
  induction l with
  | nil => intro x; simp
  | cons y l ih =>
    intro x
    simp only [List.foldl_cons]
    rw [ih]
    simp only [List.all_cons, Bool.and_eq_false_iff, decide_eq_false_iff_not]
    split <;> constructor <;> intro h <;> (rcases h with h | h <;> (try rcases h with h | h) <;> (first | (left; omega) | (right; left; omega) | (right; right; exact h) | (right; exact h)))
 intro l h
 cases l with
 | nil => simp at h
 | cons x l => exact key l x
def con53 : Con := { ps := [.d false (.sl (.int .i64))], rs := [.d false (.int .i64)], pre := fun (x : List Int × Unit) => 0 < x.1.length, out := fun x => (minV x.1, ()), nw := id }
theorem c53 : CtrOk Try.prog 53 con53.ctr :=
 con_sound (G := ⟨[], [], [], [], []⟩) tab_ok EnvOk.nil rfl Try.func53 rfl con53 32925 (by kernel_rfl) (by decide) (by decide) rfl (by decide) rfl (by
  rintro ⟨(l : List Int), _⟩ hpre hwf X hT hG hk hK
  have hl : 0 < l.length := hpre
  (simp -implicitDefEqProofs (maxSteps := 4000000) only [go_sem, Bool.not_eq_true', Bool.not_eq_false', Bool.or_eq_true, Bool.or_eq_false_iff, Bool.and_eq_true, Bool.and_eq_false_iff, decide_eq_true_eq, decide_eq_false_iff_not, Classical.not_not, not_or, maxLen, con53, hT, hG, hk, hK, Try.results53] at hwf ⊢); (try simp (disch := decide +kernel) only [drawn, true_and, and_true])
  refine fun hlm => ⟨fun h => absurd h (by omega), fun _ => ⟨by omega, fun _ _ => ?_⟩⟩
  refine evk_loop ⟨{ i : Nat // i + 1 ≤ l.length }, 1000, fun i => [(0, .one (.sl (.int .i64) l false)), (3, .one (.int .i64 (minV (l.take (i.1 + 1))))), (4, .one (.int .i64 (i.1 + 1)))], fun i => [], fun i => l.length - i.1⟩ ⟨0, hl⟩ ?_ ?_
  · simp only [go_sem]
    cases l with
    | nil => simp at hl
    | cons x l => simp [minV]
  · rintro ⟨i, (hi : i + 1 ≤ l.length)⟩
    (simp -implicitDefEqProofs (maxSteps := 4000000) only [go_sem, Bool.not_eq_true', Bool.not_eq_false', Bool.or_eq_true, Bool.or_eq_false_iff, Bool.and_eq_true, Bool.and_eq_false_iff, decide_eq_true_eq, decide_eq_false_iff_not, Classical.not_not, not_or, maxLen, con53, hT, hG, hk, hK, Try.results53]); (try simp (disch := decide +kernel) only [drawn, true_and, and_true])
    refine fun _ => ⟨fun hlt => ?_, fun hge => ?_⟩
    · have hi' : i + 1 < l.length := by omega
      have ek : ∀ z, l.getD ((i : Int) + 1).toNat z = l[i + 1] := fun z => by rw [show ((i : Int) + 1).toNat = i + 1 by omega]; simp [hi']
      simp only [ek]
      have hst : minV (l.take (i + 1 + 1)) = if l[i + 1] < minV (l.take (i + 1)) then l[i + 1] else minV (l.take (i + 1)) := by
       rw [List.take_succ_eq_append_getElem hi', minV_snoc (by rw [List.length_take]; omega)]
      (repeat' (with_reducible (first | refine And.intro ?_ ?_ | intro _))) <;> (try (first | with_reducible (first | done | assumption | omega | contradiction) | decide))
      refine fin_lp ⟨i + 1, by omega⟩ ?_ ?_
      · simp only [go_sem]
        rw [hst]
        exact ⟨by omega, rfl⟩
      · dsimp only; omega
    · rw [List.take_of_length_le (by omega)])
/-- How many departures are not closed. -/
def actN (l : List Dep) (t : Int) : Nat := l.countP (fun d => !closedV d t)
theorem actN_snoc (l : List Dep) (t : Int) (d : Dep) : actN (l ++ [d]) t = if (!closedV d t) = true then actN l t + 1 else actN l t := by
 unfold actN
 rw [List.countP_append]
 simp only [List.countP_cons, List.countP_nil]
 cases closedV d t <;> simp
theorem actN_le (l : List Dep) (t : Int) : actN l t ≤ l.length := List.countP_le_length
def argR (l : List Dep) (cs : List Int) (t : Int) : Int :=
 if validateV l ≠ 0 then validateV l else if (actN l t : Int) > 16 ∨ (cs.length : Int) > 6 then 2 else if cs.all (fun c => decide (0 ≤ c)) = false then 1 else if ascI cs = false then 9 else 0
def con26 : Con := { ps := [.d false (.sl yDP), .d false (.sl (.int .i64)), .d false (.int .i64)], rs := [.d false (.int .i64)], pre := fun (x : List Dep × List Int × Int × Unit) => x.1.length ≤ 1048576, out := fun (x : List Dep × List Int × Int × Unit) => (argR x.1 x.2.1 x.2.2.1, ()), nw := id }
theorem c26 : CtrOk Try.prog 26 con26.ctr :=
 con_sound (G := ⟨[(51, con51.ctr), (52, con52.ctr), (53, con53.ctr)], [], [], [], []⟩) tab_ok (EnvOk.cons c51 has51 (EnvOk.cons c52 has52 (EnvOk.cons c53 has53 EnvOk.nil))) rfl Try.func26 rfl con26 1153220640558190023 (by kernel_rfl) (by decide) (by decide) rfl (by decide) rfl (by
  rintro ⟨(l : List Dep), (cs : List Int), (t : Int), _⟩ hpre hwf X hT hG hk hK
  have hl : l.length ≤ 1048576 := hpre
  (simp -implicitDefEqProofs (maxSteps := 4000000) only [go_sem, Bool.not_eq_true', Bool.not_eq_false', Bool.or_eq_true, Bool.or_eq_false_iff, Bool.and_eq_true, Bool.and_eq_false_iff, decide_eq_true_eq, decide_eq_false_iff_not, Classical.not_not, not_or, maxLen, con26, con51, con52, con53, hT, hG, hk, hK, Try.results26] at hwf ⊢); (try simp (disch := decide +kernel) only [drawn, true_and, and_true])
  clear hwf
  refine fun _ => ⟨fun h => ?_, fun h0 hlm => ?_⟩
  · unfold argR; rw [if_pos h]
  refine evk_loop ⟨{ i : Nat // i ≤ l.length }, 1000, fun i => [(0, .one (.sl yDP l false)), (1, .one (.sl (.int .i64) cs false)), (2, .one (.int .i64 t)), (8, .one (.int .i64 (actN (l.take i.1) t))), (17, .one (.sl yDP l false)), (18, .one (.int .i64 l.length)), (19, .one (.int .i64 i.1))], fun i => [], fun i => l.length - i.1⟩ ⟨0, Nat.zero_le _⟩ ?_ ?_
  · simp only [go_sem]
    exact ⟨rfl, rfl⟩
  · rintro ⟨i, (hi : i ≤ l.length)⟩
    (simp -implicitDefEqProofs (maxSteps := 4000000) only [go_sem, Bool.not_eq_true', Bool.not_eq_false', Bool.or_eq_true, Bool.or_eq_false_iff, Bool.and_eq_true, Bool.and_eq_false_iff, decide_eq_true_eq, decide_eq_false_iff_not, Classical.not_not, not_or, maxLen, con26, con51, con52, con53, hT, hG, hk, hK, Try.results26]); (try simp (disch := decide +kernel) only [drawn, true_and, and_true])
    refine ⟨fun hlt => ?_, fun hge => ?_⟩
    · have hi' : i < l.length := by omega
      have ek : ∀ z, l.getD (i : Int).toNat z = l[i] := fun z => by simp [hi']
      simp only [ek]
      have hst : actN (l.take (i + 1)) t = if (!closedV l[i] t) = true then actN (l.take i) t + 1 else actN (l.take i) t := by
       rw [List.take_succ_eq_append_getElem hi', actN_snoc]
      have hlen := actN_le (l.take i) t
      rw [List.length_take] at hlen
      (repeat' (with_reducible (first | refine And.intro ?_ ?_ | intro _))) <;> (try (first | with_reducible (first | done | assumption | omega | contradiction) | decide))
      · have h : closedV l[i] t = false := by assumption
        refine fin_lp ⟨i + 1, by omega⟩ ?_ ?_
        · simp only [go_sem]
          rw [hst, if_pos (by rw [h]; rfl)]
          exact ⟨by omega, by omega⟩
        · dsimp only; omega
      · have h : closedV l[i] t = true := by assumption
        refine fin_lp ⟨i + 1, by omega⟩ ?_ ?_
        · simp only [go_sem]
          rw [hst, if_neg (by rw [h]; simp)]
          exact ⟨rfl, by omega⟩
        · dsimp only; omega
    · rw [List.take_of_length_le (by omega)]
      have e0 : argR l cs t = if (actN l t : Int) > 16 ∨ (cs.length : Int) > 6 then 2 else if cs.all (fun c => decide (0 ≤ c)) = false then 1 else if ascI cs = false then 9 else 0 := by
       unfold argR; rw [if_neg (by omega)]
      refine fun _ => ⟨fun h => by rw [e0, if_pos h], fun hn hlc => ?_⟩
      rw [if_neg (by omega)] at e0
      refine ⟨fun h => by omega, fun _ => ⟨fun h => ?_, fun hr => ?_⟩⟩
      · rw [e0, if_pos ((minV_lt (by omega)).1 h.2)]
      have hr2 : ¬ cs.all (fun c => decide (0 ≤ c)) = false := fun h => by
       rcases hr with hr | hr
       · have : cs = [] := List.eq_nil_of_length_eq_zero (by omega)
         rw [this] at h; simp at h
       · have : 0 < cs.length := by
          cases cs with
          | nil => simp at h
          | cons a l => simp
         exact hr ((minV_lt this).2 h)
      rw [if_neg hr2] at e0
      refine evk_loop ⟨{ i : Nat // (i ≤ cs.length ∨ i = 0) ∧ ascI cs = ascI (cs.drop i) }, 2000, fun i => [(1, .one (.sl (.int .i64) cs false)), (11, .one (.int .i64 (i.1 + 1)))], fun _ => [], fun i => cs.length - i.1⟩ ⟨0, by simp, by simp⟩ ?_ ?_
      · simp only [go_sem]
        rfl
      · rintro ⟨i, (hi : i ≤ cs.length ∨ i = 0), (he : ascI cs = ascI (cs.drop i))⟩
        (simp -implicitDefEqProofs (maxSteps := 4000000) only [go_sem, Bool.not_eq_true', Bool.not_eq_false', Bool.or_eq_true, Bool.or_eq_false_iff, Bool.and_eq_true, Bool.and_eq_false_iff, decide_eq_true_eq, decide_eq_false_iff_not, Classical.not_not, not_or, maxLen, con26, con51, con52, con53, hT, hG, hk, hK, Try.results26]); (try simp (disch := decide +kernel) only [drawn, true_and, and_true])
        refine fun _ => ⟨fun hlt => ?_, fun hge => ?_⟩
        · have hi' : i < cs.length := by omega
          have hi2 : i + 1 < cs.length := by omega
          have ek : ∀ z, cs.getD ((i : Int) + 1).toNat z = cs[i + 1] := fun z => by
           rw [show ((i : Int) + 1).toNat = i + 1 by omega]; simp [hi2]
          have ek2 : ∀ z, cs.getD ((i : Int) + 1 - 1).toNat z = cs[i] := fun z => by
           rw [show ((i : Int) + 1 - 1).toNat = i by omega]; simp [hi']
          simp only [ek, ek2]
          have hst : ascI cs = (decide (cs[i] < cs[i + 1]) && ascI (cs.drop (i + 1))) := by
           rw [he, List.drop_eq_getElem_cons hi', List.drop_eq_getElem_cons hi2, ascI]
          (repeat' (with_reducible (first | refine And.intro ?_ ?_ | intro _))) <;> (try (first | with_reducible (first | done | assumption | omega | contradiction) | decide))
          · rename_i h
            rw [e0, hst, decide_eq_false (by omega)]
            rfl
          · rename_i h
            refine fin_lp ⟨i + 1, by omega, by rw [hst, decide_eq_true (by omega)]; rfl⟩ (by simp only [go_sem]; first | rfl | ((repeat' apply And.intro) <;> first | rfl | assumption | omega)) (by dsimp only; omega)
        · have ha : ascI cs = true := by
           rw [he]
           rcases h : cs.drop i with _ | ⟨a, _ | ⟨b, q⟩⟩
           · rfl
           · rfl
           · have := congrArg List.length h
             rw [List.length_drop] at this
             simp only [List.length_cons] at this
             omega
          rw [e0, if_neg (by rw [ha]; simp)])
def inC (cs : List Int) (c : Int) : Bool := decide (idxF (fun y : Int => decide (c = y)) cs 0 ≥ 0)
def fixB (cs : List Int) (old : List All) (t : Int) (d : Dep) : Bool := (chV old d.1).2 && isOpenV d t && inC cs (chV old d.1).1
def fixV (l : List Dep) (cs : List Int) (old : List All) (t : Int) : List All := (l.filter (fixB cs old t)).map (fun d => (d.1, (chV old d.1).1))
theorem fixV_snoc (l : List Dep) (cs : List Int) (old : List All) (t : Int) (d : Dep) : fixV (l ++ [d]) cs old t = if fixB cs old t d = true then fixV l cs old t ++ [(d.1, (chV old d.1).1)] else fixV l cs old t := by
 unfold fixV
 rw [List.filter_append]
 cases h : fixB cs old t d <;> simp [h]
theorem fixV_len (l : List Dep) (cs : List Int) (old : List All) (t : Int) : (fixV l cs old t).length ≤ l.length := by
 unfold fixV; rw [List.length_map]; exact List.length_filter_le _ _
def con27 : Con := { ps := [.d false (.sl yDP), .d false (.sl (.int .i64)), .d false (.sl (.pair yFL (.int .i64))), .d false (.int .i64)], rs := [.o 44 (.pair yFL (.int .i64))], pre := fun (x : List Dep × List Int × List All × Int × Unit) => x.1.length ≤ 1048576, out := fun (x : List Dep × List Int × List All × Int × Unit) => (fixV x.1 x.2.1 x.2.2.1 x.2.2.2.1, ()), nw := id }
theorem c27 : CtrOk Try.prog 27 con27.ctr :=
 con_sound (G := ⟨[(45, con45.ctr), (54, con54.ctr), (46, con46.ctr)], [], [], [], []⟩) tab_ok (EnvOk.cons c45 has45 (EnvOk.cons c54 has54 (EnvOk.cons c46 has46 EnvOk.nil))) rfl Try.func27 rfl con27 137439214351 (by kernel_rfl) (by decide) (by decide) rfl (by decide) rfl (by
  rintro ⟨(l : List Dep), (cs : List Int), (old : List All), (t : Int), _⟩ hpre hwf X hT hG hk hK
  have hl : l.length ≤ 1048576 := hpre
  (simp -implicitDefEqProofs (maxSteps := 4000000) only [go_sem, Bool.not_eq_true', Bool.not_eq_false', Bool.or_eq_true, Bool.or_eq_false_iff, Bool.and_eq_true, Bool.and_eq_false_iff, decide_eq_true_eq, decide_eq_false_iff_not, Classical.not_not, not_or, maxLen, con27, con45, con54, con46, hT, hG, hk, hK, Try.results27] at hwf ⊢); (try simp (disch := decide +kernel) only [drawn, true_and, and_true])
  clear hwf
  refine fun hlm => ?_
  refine evk_loop ⟨{ i : Nat // i ≤ l.length }, 1000, fun i => [(0, .one (.sl yDP l false)), (1, .one (.sl (.int .i64) cs false)), (2, .one (.sl (.pair yFL (.int .i64)) old false)), (3, .one (.int .i64 t)), (9, .one (.row 64)), (14, .one (.sl yDP l false)), (15, .one (.int .i64 l.length)), (16, .one (.int .i64 i.1))], fun i => [(64, .row 44 (.pair yFL (.int .i64)) (fixV (l.take i.1) cs old t))], fun i => l.length - i.1⟩ ⟨0, Nat.zero_le _⟩ ?_ ?_
  · simp only [go_sem]
    exact ⟨rfl, rfl⟩
  · rintro ⟨i, (hi : i ≤ l.length)⟩
    (simp -implicitDefEqProofs (maxSteps := 4000000) only [go_sem, Bool.not_eq_true', Bool.not_eq_false', Bool.or_eq_true, Bool.or_eq_false_iff, Bool.and_eq_true, Bool.and_eq_false_iff, decide_eq_true_eq, decide_eq_false_iff_not, Classical.not_not, not_or, maxLen, con27, con45, con54, con46, hT, hG, hk, hK, Try.results27]); (try simp (disch := decide +kernel) only [drawn, true_and, and_true])
    refine ⟨fun hlt => ?_, fun hge => ?_⟩
    · have hi' : i < l.length := by omega
      have ek : ∀ z, l.getD (i : Int).toNat z = l[i] := fun z => by simp [hi']
      simp only [ek]
      have hst := fixV_snoc (l.take i) cs old t l[i]
      rw [← List.take_succ_eq_append_getElem hi'] at hst
      have hlen := fixV_len (l.take i) cs old t
      rw [List.length_take] at hlen
      unfold fixB inC at hst
      refine ⟨by omega, fun _ _ _ => ⟨fun h => ⟨by omega, by omega, ?_⟩, fun h => ⟨by omega, ?_⟩⟩⟩
      · refine fin_lp ⟨i + 1, by omega⟩ ?_ ?_
        · simp only [go_sem]
          rw [hst, if_pos (by simp only [Bool.and_eq_true, decide_eq_true_eq]; exact h)]
          exact ⟨rfl, by omega⟩
        · dsimp only; omega
      · refine fin_lp ⟨i + 1, by omega⟩ ?_ ?_
        · simp only [go_sem]
          rw [hst, if_neg (by
           simp only [Bool.and_eq_true, decide_eq_true_eq]
           intro hb
           rcases h with (h | h) | h
           · rw [hb.1.1] at h; cases h
           · rw [hb.1.2] at h; cases h
           · exact h hb.2)]
          exact ⟨rfl, by omega⟩
        · dsimp only; omega
    · rw [List.take_of_length_le (by omega)])
def movB (cs : List Int) (old : List All) (a : All) : Bool := (chV old a.1).2 && !decide ((chV old a.1).1 = a.2) && inC cs (chV old a.1).1
def movV (cs : List Int) (old p : List All) : List Flt := (p.filter (movB cs old)).map (fun a => a.1)
theorem movV_snoc (cs : List Int) (old p : List All) (a : All) : movV cs old (p ++ [a]) = if movB cs old a = true then movV cs old p ++ [a.1] else movV cs old p := by
 unfold movV
 rw [List.filter_append]
 cases h : movB cs old a <;> simp [h]
theorem movV_len (cs : List Int) (old p : List All) : (movV cs old p).length ≤ p.length := by
 unfold movV; rw [List.length_map]; exact List.length_filter_le _ _
def con18 : Con := { ps := [.d false (.sl (.int .i64)), .d false (.sl (.pair yFL (.int .i64))), .d false (.sl (.pair yFL (.int .i64)))], rs := [.o 40 yFL], pre := fun (x : List Int × List All × List All × Unit) => x.2.2.1.length ≤ 1048576, out := fun (x : List Int × List All × List All × Unit) => (movV x.1 x.2.1 x.2.2.1, ()), nw := id }
theorem c18 : CtrOk Try.prog 18 con18.ctr :=
 con_sound (G := ⟨[(45, con45.ctr), (46, con46.ctr)], [], [], [], []⟩) tab_ok (EnvOk.cons c45 has45 (EnvOk.cons c46 has46 EnvOk.nil)) rfl Try.func18 rfl con18 68719541959 (by kernel_rfl) (by decide) (by decide) rfl (by decide) rfl (by
  rintro ⟨(cs : List Int), (old : List All), (l : List All), _⟩ hpre hwf X hT hG hk hK
  have hl : l.length ≤ 1048576 := hpre
  (simp -implicitDefEqProofs (maxSteps := 4000000) only [go_sem, Bool.not_eq_true', Bool.not_eq_false', Bool.or_eq_true, Bool.or_eq_false_iff, Bool.and_eq_true, Bool.and_eq_false_iff, decide_eq_true_eq, decide_eq_false_iff_not, Classical.not_not, not_or, maxLen, con18, con45, con46, hT, hG, hk, hK, Try.results18] at hwf ⊢); (try simp (disch := decide +kernel) only [drawn, true_and, and_true])
  clear hwf
  refine fun hlm => ?_
  refine evk_loop ⟨{ i : Nat // i ≤ l.length }, 1000, fun i => [(0, .one (.sl (.int .i64) cs false)), (1, .one (.sl (.pair yFL (.int .i64)) old false)), (7, .one (.row 64)), (12, .one (.sl (.pair yFL (.int .i64)) l false)), (13, .one (.int .i64 l.length)), (14, .one (.int .i64 i.1))], fun i => [(64, .row 40 yFL (movV cs old (l.take i.1)))], fun i => l.length - i.1⟩ ⟨0, Nat.zero_le _⟩ ?_ ?_
  · simp only [go_sem]
    exact ⟨rfl, rfl⟩
  · rintro ⟨i, (hi : i ≤ l.length)⟩
    (simp -implicitDefEqProofs (maxSteps := 4000000) only [go_sem, Bool.not_eq_true', Bool.not_eq_false', Bool.or_eq_true, Bool.or_eq_false_iff, Bool.and_eq_true, Bool.and_eq_false_iff, decide_eq_true_eq, decide_eq_false_iff_not, Classical.not_not, not_or, maxLen, con18, con45, con46, hT, hG, hk, hK, Try.results18]); (try simp (disch := decide +kernel) only [drawn, true_and, and_true])
    refine ⟨fun hlt => ?_, fun hge => ?_⟩
    · have hi' : i < l.length := by omega
      have ek : ∀ z, l.getD (i : Int).toNat z = l[i] := fun z => by simp [hi']
      simp only [ek]
      have hst := movV_snoc cs old (l.take i) l[i]
      rw [← List.take_succ_eq_append_getElem hi'] at hst
      have hlen := movV_len cs old (l.take i)
      rw [List.length_take] at hlen
      unfold movB inC at hst
      refine ⟨by omega, fun _ _ _ => ⟨fun h => ⟨by omega, by omega, ?_⟩, fun h => ⟨by omega, ?_⟩⟩⟩
      · refine fin_lp ⟨i + 1, by omega⟩ ?_ ?_
        · simp only [go_sem]
          rw [hst, if_pos (by simp only [Bool.and_eq_true, decide_eq_true_eq, Bool.not_eq_true', decide_eq_false_iff_not]; exact h)]
          exact ⟨rfl, by omega⟩
        · dsimp only; omega
      · refine fin_lp ⟨i + 1, by omega⟩ ?_ ?_
        · simp only [go_sem]
          rw [hst, if_neg (by
           simp only [Bool.and_eq_true, decide_eq_true_eq, Bool.not_eq_true', decide_eq_false_iff_not]
           intro hb
           rcases h with (h | h) | h
           · rw [hb.1.1] at h; cases h
           · exact hb.1.2 h
           · exact h hb.2)]
          exact ⟨rfl, by omega⟩
        · dsimp only; omega
    · rw [List.take_of_length_le (by omega)])
end Go.Proofs.Ytfaoonbnbdlgaaa

/- A contract whose first argument is a pointer to a struct that nobody changes any more: the struct's cells are sealed ahead of the call. -/
set_option linter.unusedSimpArgs false
set_option linter.unusedVariables false
namespace Go.Ev

def scU (id : Nat) : Blk → Option (Heap × List C1)
 | .cells _ cs => some ([(id, .scell cs)], cs)
 | .scell cs => some ([], cs)
 | _ => none
def Eff.addU (u : Heap) (E : Eff) : Eff := ⟨E.pre, E.r, u ++ E.u, E.asm⟩
theorem Eff.addU_mk {u : Heap} {p : Prop} {r : AV} {v : Heap} {q : Prop} : Eff.addU u ⟨p, r, v, q⟩ = ⟨p, r, u ++ v, q⟩ := rfl
def scQ (C : Ctr) (r : List AV) (m : Mem) (fr : Nat) : Option (Heap × List C1) → Eff
 | some (u, cs) => Eff.addU u (C (.one (.sp cs 0) :: r) (updM m u) fr)
 | none => bad
def scB (C : Ctr) : Ctr := fun avs m fr => match avs with
 | .one (.loc id 0) :: r => scQ C r m fr (scU id (m id))
 | _ => bad

section
variable {cx : Cx} {σ : Nat → Value} {N : Nat → Prop} {m : Mem} {w : World} {fr : Nat} {P : Program}
theorem sc_here (h : RepM cx σ N m w) {id : Nat} {e : TypeId} {cs : List C1} (hm : m id = .cells e cs) :
 RepM cx σ N (updM m [(id, .scell cs)]) w ∧ Rx.Keeps (rx cx σ N m w) (rx cx σ N (updM m [(id, .scell cs)]) w) := by
 have hb := h.blk id
 rw [hm] at hb
 obtain ⟨b, vs, e1, e2, k, k1⟩ := hb
 simp only [rx] at e1 e2
 have oid : own (m id) = true := by rw [hm]; rfl
 have hbid : hb (σ id) b := by rw [e1, hb_ptr]; rfl
 have m1 : updM m [(id, .scell cs)] id = .scell cs := by simp [updM]
 have m2 : ∀ i, i ≠ id → updM m [(id, .scell cs)] i = m i := fun i hi => by
  simp only [updM]; rw [if_neg (fun k => hi k.symm)]
 have hno : ¬ Owned cx σ (updM m [(id, .scell cs)]) b := by
  rintro (hf | ⟨i, ho, hbi⟩)
  · exact h.notF id b oid hbid hf
  · by_cases hi : i = id
    · rw [hi, m1] at ho; cases ho
    · rw [m2 i hi] at ho
      exact hi (h.inj i id b ho oid hbi hbid)
 exact h.stepD (σ' := σ) (N' := N) (m' := updM m [(id, .scell cs)]) (w' := w) (fun i => i = id) (fun _ k => k)
  (fun i k => by
    by_cases hi : i = id
    · have := h.fresh i k
      rw [hi, hm] at this; cases this
    · rw [m2 i hi]; exact h.fresh i k)
  (fun i k => ⟨m2 i k, rfl⟩) (fun _ _ => rfl) (fun _ _ _ => rfl) ⟨Nat.le_refl _, fun _ => Nat.le_refl _⟩ rfl rfl rfl
  (fun i b' hi ho hbb => by rw [hi, m1] at ho; cases ho)
  (fun i i' b' hi hi' ho => by rw [hi, m1] at ho; cases ho)
  (fun i hi => h.hone i)
  (fun hk i hi => by
    rw [hi, m1]
    exact ⟨b, vs, e1, repCs_keep hk cs vs k, fun j u hu => ⟨hno, by
     show w.cell? _ = _
     rw [cell_at e2, Nat.zero_add]; exact hu⟩⟩)

theorem sc_arg (h : RepM cx σ N m w) {id : Nat} {cs : List C1} (hm : m id = .scell cs) {v : Value} (hv : repC (rx cx σ N m w) (.loc id 0) v) :
 repC (rx cx σ N m w) (.sp cs 0) v := by
 have hb := h.blk id
 rw [hm] at hb
 obtain ⟨b, vs, e1, k, k1⟩ := hb
 unfold repC at hv ⊢
 obtain ⟨_, b', e3, e4⟩ := hv
 rw [e1] at e3
 simp at e3; subst e3
 exact ⟨b, vs, e4, k, k1⟩

theorem scB_ok {f : FuncId} {C : Ctr} (hC : CtrOk P f C) : CtrOk P f (scB C) := by
 intro D gv hD cx hcx σ N m w fr avs vs h hfr hr hp
 unfold scB at hp ⊢
 split at hp
 · rename_i id r
   unfold repAs at hr
   obtain ⟨v, vs', rfl, g1, g2⟩ := hr
   have g3 : repC (rx cx σ N m w) (.loc id 0) v := by unfold repA at g1; exact g1
   cases hm : scU id (m id) with
   | none => simp only [hm] at hp; exact hp.elim
   | some p =>
     obtain ⟨u, cs⟩ := p
     simp only [hm] at hp ⊢
     have key : RepM cx σ N (updM m u) w ∧ Rx.Keeps (rx cx σ N m w) (rx cx σ N (updM m u) w) ∧ updM m u id = .scell cs := by
      unfold scU at hm
      split at hm
      · rename_i e cs' hc
        cases hm
        obtain ⟨k1, k2⟩ := sc_here h hc
        exact ⟨k1, k2, by simp [updM]⟩
      · rename_i cs' hc
        cases hm
        exact ⟨h, ⟨.refl _ _, fun _ _ => rfl, fun _ k => k⟩, hc⟩
      · cases hm
     obtain ⟨k1, k2, k3⟩ := key
     have hargs : repAs (rx cx σ N (updM m u) w) (.one (.sp cs 0) :: r) (v :: vs') := by
      unfold repAs
      refine ⟨v, vs', rfl, ?_, repAs_keep k2 _ _ g2⟩
      unfold repA
      exact sc_arg k1 k3 (repC_keep k2 _ _ g3)
     refine (hC D gv hD cx hcx σ N (updM m u) w fr _ _ k1 hfr hargs hp).mono fun e w' he => ?_
     obtain ⟨v', rfl, σ', q1, q2, q3, q4⟩ := he
     refine ⟨v', rfl, σ', ?_, ?_, ?_, q4⟩
     · simp only [scQ, Eff.addU]; rw [updM_append]; exact q1
     · simp only [scQ, Eff.addU]; rw [updM_append]; exact ⟨k2.k.trans q2.k (Nat.le_refl _), fun id hn => (q2.σ id hn).trans (k2.σ id hn), fun id hn => k2.N id (q2.N id hn)⟩
     · simp only [scQ, Eff.addU]; rw [updM_append]; exact q3
 · exact hp.elim
end
attribute [go_sem] scB scU scQ Eff.addU_mk opA_nil_sp
end Go.Ev

/- The contracts of replan's functions: a step of the search. -/
set_option linter.unusedSimpArgs false
set_option linter.unusedVariables false
set_option maxRecDepth 100000
set_option maxHeartbeats 8000000
namespace Go.Proofs.Ytfaoonbnbdlgaaa
open Go.Ev

def possN (n : Ned) (c f : Int) : Bool := decide (f ≤ n.frm) && (!n.fixed || decide (c = n.home))
def priceN (n : Ned) (c : Int) : Int := if 0 ≤ n.home ∧ ¬ n.home = c then 1 else 0
def con30 : Con := { ps := [.d true (.pair yFL (.pair (.int .i64) (.pair (.int .i64) (.pair (.int .i64) .bool)))), .d false (.int .i64), .d false (.int .i64)], rs := [.d false .bool], pre := fun _ => True, out := fun (x : Ned × Int × Int × Unit) => (possN x.1 x.2.1 x.2.2.1, ()), nw := id }
theorem c30 : CtrOk Try.prog 30 con30.ctr :=
 con_sound (G := ⟨[], [], [], [], []⟩) tab_ok EnvOk.nil rfl Try.func30 rfl con30 79 (by kernel_rfl) (by decide) (by decide) rfl (by decide) rfl (by
  rintro ⟨⟨f, (a : Int), (b : Int), (h : Int), q⟩, (c : Int), (fr : Int), _⟩ hpre hwf X hT hG hk hK
  (simp -implicitDefEqProofs (maxSteps := 4000000) only [go_sem, Bool.not_eq_true', Bool.not_eq_false', Bool.or_eq_true, Bool.or_eq_false_iff, Bool.and_eq_true, Bool.and_eq_false_iff, decide_eq_true_eq, decide_eq_false_iff_not, Classical.not_not, not_or, maxLen, con30, hT, hG, hk, hK, Try.results30] at hwf ⊢); (try simp (disch := decide +kernel) only [drawn, true_and, and_true])
  unfold possN
  simp only [Ned.frm, Ned.to, Ned.home, Ned.fixed]
  (repeat' (with_reducible (first | refine And.intro ?_ ?_ | intro _))) <;> (try (first | with_reducible (first | done | assumption | omega | contradiction) | decide))
  all_goals (cases q <;> simp <;> rfl))
def con32 : Con := { ps := [.d true (.pair yFL (.pair (.int .i64) (.pair (.int .i64) (.pair (.int .i64) .bool)))), .d false (.int .i64)], rs := [.d false (.int .i64)], pre := fun _ => True, out := fun (x : Ned × Int × Unit) => (priceN x.1 x.2.1, ()), nw := id }
theorem c32 : CtrOk Try.prog 32 con32.ctr :=
 con_sound (G := ⟨[], [], [], [], []⟩) tab_ok EnvOk.nil rfl Try.func32 rfl con32 8215 (by kernel_rfl) (by decide) (by decide) rfl (by decide) rfl (by
  rintro ⟨⟨f, (a : Int), (b : Int), (h : Int), q⟩, (c : Int), _⟩ hpre hwf X hT hG hk hK
  (simp -implicitDefEqProofs (maxSteps := 4000000) only [go_sem, Bool.not_eq_true', Bool.not_eq_false', Bool.or_eq_true, Bool.or_eq_false_iff, Bool.and_eq_true, Bool.and_eq_false_iff, decide_eq_true_eq, decide_eq_false_iff_not, Classical.not_not, not_or, maxLen, con32, hT, hG, hk, hK, Try.results32] at hwf ⊢); (try simp (disch := decide +kernel) only [drawn, true_and, and_true])
  unfold priceN
  simp only [Ned.frm, Ned.to, Ned.home, Ned.fixed]
  exact ⟨fun k => (if_pos (show 0 ≤ h ∧ ¬ h = c from k)).symm, fun k => (if_neg (show ¬ (0 ≤ h ∧ ¬ h = c) by omega)).symm⟩)
abbrev Fre := Int × Int × Int × Int × Int × Int
abbrev Sst := Int × Fre
abbrev Mem6 := List (Sst × Int)
def Fre.get (f : Fre) (k : Int) : Int := if k = 0 then f.1 else if k = 1 then f.2.1 else if k = 2 then f.2.2.1 else if k = 3 then f.2.2.2.1 else if k = 4 then f.2.2.2.2.1 else f.2.2.2.2.2
def Fre.put (f : Fre) (k v : Int) : Fre := (if k = 0 then v else f.1, if k = 1 then v else f.2.1, if k = 2 then v else f.2.2.1, if k = 3 then v else f.2.2.2.1, if k = 4 then v else f.2.2.2.2.1, if k = 5 then v else f.2.2.2.2.2)
def low (t v : Int) : Int := if v ≤ t then 0 else v
def lowK (k j t v : Int) : Int := if j < k then low t v else v
def Fre.map (f : Fre) (k t : Int) : Fre := (lowK k 0 t f.1, lowK k 1 t f.2.1, lowK k 2 t f.2.2.1, lowK k 3 t f.2.2.2.1, lowK k 4 t f.2.2.2.2.1, lowK k 5 t f.2.2.2.2.2)
def nedAt (ds : List Ned) (i : Int) : Ned := ds.getD i.toNat ((ByteArray.empty, 0, ByteArray.empty, 0), 0, 0, 0, false)
def aftV (ds : List Ned) (x : Sst) (c : Int) : Sst := (x.1 + 1, (x.2.put c (nedAt ds x.1).to).map 6 (nedAt ds x.1).frm)
def con31 : Con := { ps := [.pm (.pair (.sl (.pair yFL (.pair (.int .i64) (.pair (.int .i64) (.pair (.int .i64) .bool))))) (.int .i64)) (.pair (.int .i64) (.pair (.int .i64) yBR)) (.int .i64) true false, .d true (.pair (.int .i64) (.pair (.int .i64) yBR)), .d false (.int .i64)], rs := [.d true (.pair (.int .i64) (.pair (.int .i64) yBR))], pre := fun (x : ((List Ned × Int) × Mem6) × Sst × Int × Unit) => 0 ≤ x.2.1.1 ∧ x.2.1.1 < x.1.1.1.length ∧ x.1.1.1.length ≤ 1048576 ∧ 0 ≤ x.2.2.1 ∧ x.2.2.1 < 6, out := fun (x : ((List Ned × Int) × Mem6) × Sst × Int × Unit) => (aftV x.1.1.1 x.2.1 x.2.2.1, ()), nw := id }
theorem c31 : CtrOk Try.prog 31 con31.ctr :=
 con_sound (G := ⟨[], [], [], [], []⟩) tab_ok EnvOk.nil rfl Try.func31 rfl con31 34561065431 (by kernel_rfl) (by decide) (by decide) rfl (by decide) rfl (by
  rintro ⟨⟨⟨(ds : List Ned), (n : Int)⟩, (mm : Mem6)⟩, ⟨(i : Int), (a0 : Int), (a1 : Int), (a2 : Int), (a3 : Int), (a4 : Int), (a5 : Int)⟩, (c : Int), _⟩ hpre hwf X hT hG hk hK
  obtain ⟨h1, h2, h3, h4, h5⟩ : 0 ≤ i ∧ i < ds.length ∧ ds.length ≤ 1048576 ∧ 0 ≤ c ∧ c < 6 := hpre
  have hc : c = 0 ∨ c = 1 ∨ c = 2 ∨ c = 3 ∨ c = 4 ∨ c = 5 := by omega
  obtain ⟨F, hF⟩ : ∃ F : Fre, (Fre.put (a0, a1, a2, a3, a4, a5) c (nedAt ds i).to) = F := ⟨_, rfl⟩
  obtain ⟨t, ht⟩ : ∃ t : Int, (nedAt ds i).frm = t := ⟨_, rfl⟩
  have hA : aftV ds (i, a0, a1, a2, a3, a4, a5) c = (i + 1, F.map 6 t) := by unfold aftV; rw [← hF, ← ht]
  obtain ⟨b0, b1, b2, b3, b4, b5⟩ := F
  obtain ⟨NA, hNA⟩ : ∃ NA : Ned, nedAt ds i = NA := ⟨_, rfl⟩
  rw [hNA] at hF ht
  obtain ⟨nf, (na : Int), (nb : Int), (nh : Int), nq⟩ := NA
  simp only [Ned.frm, Ned.to] at hF ht
  subst ht
  unfold nedAt at hNA
  rcases hc with rfl | rfl | rfl | rfl | rfl | rfl
  all_goals (
   (simp -implicitDefEqProofs (maxSteps := 4000000) only [go_sem, Bool.not_eq_true', Bool.not_eq_false', Bool.or_eq_true, Bool.or_eq_false_iff, Bool.and_eq_true, Bool.and_eq_false_iff, decide_eq_true_eq, decide_eq_false_iff_not, Classical.not_not, not_or, maxLen, con31, hT, hG, hk, hK, Try.results31, Int.cast_ofNat_Int, Int.reduceLE, Int.reduceLT, and_self, Int.le_refl, Int.reduceToNat, Ty.dflt, hNA] at hwf ⊢); (try simp (disch := decide +kernel) only [drawn, true_and, and_true])
   clear hwf
   refine ⟨⟨h1, h2⟩, fun _ _ => ⟨by omega, ?_⟩⟩
   simp only [Fre.put, reduceIte, Int.reduceEq, Prod.mk.injEq] at hF
   refine evk_loop ⟨{ k : Int // 0 ≤ k ∧ k ≤ 6 }, 1000, fun k => [(4, .one (.loc 64 0)), (6, .one (.loc 65 0)), (7, .one (.loc 66 0)), (26, .one (.int .i64 k.1))],
    fun k => [(0, .mapb (.pair (.int .i64) (.pair (.int .i64) yBR)) (.int .i64) true false mm), (64, .cells 72 [.int .i64 (i + 1), .int .i64 (lowK k.1 0 na b0), .int .i64 (lowK k.1 1 na b1), .int .i64 (lowK k.1 2 na b2), .int .i64 (lowK k.1 3 na b3), .int .i64 (lowK k.1 4 na b4), .int .i64 (lowK k.1 5 na b5)]), (65, .cells 72 [.int .i64 0, .int .i64 0, .int .i64 0, .int .i64 0, .int .i64 0, .int .i64 0, .int .i64 0]), (66, .cells 75 (expl (.pair yFL (.pair (.int .i64) (.pair (.int .i64) (.pair (.int .i64) .bool)))) (nf, na, nb, nh, nq)))], fun k => (6 - k.1).toNat⟩ ⟨0, Int.le_refl 0, by decide⟩ ?_ ?_
   · simp only [go_sem]
     simp only [lowK, Int.reduceLT, reduceIte]
     exact ⟨hF.2.2.2.2.2, hF.2.2.2.2.1, hF.2.2.2.1, hF.2.2.1, hF.2.1, hF.1⟩
   · rintro ⟨k, (hk0 : 0 ≤ k), (hk6 : k ≤ 6)⟩
     have hk' : k = 0 ∨ k = 1 ∨ k = 2 ∨ k = 3 ∨ k = 4 ∨ k = 5 ∨ k = 6 := by omega
     rcases hk' with rfl | rfl | rfl | rfl | rfl | rfl | rfl
     · (simp -implicitDefEqProofs (maxSteps := 4000000) only [go_sem, Bool.not_eq_true', Bool.not_eq_false', Bool.or_eq_true, Bool.or_eq_false_iff, Bool.and_eq_true, Bool.and_eq_false_iff, decide_eq_true_eq, decide_eq_false_iff_not, Classical.not_not, not_or, maxLen, con31, hT, hG, hk, hK, Try.results31, Int.cast_ofNat_Int, Int.reduceLE, Int.reduceLT, and_self, Int.le_refl, Int.reduceToNat, Ty.dflt, lowK, Int.reduceAdd]); (try simp (disch := decide +kernel) only [drawn, true_and, and_true])
       (repeat' (with_reducible (first | refine And.intro ?_ ?_ | intro _))) <;> first
         | contradiction
         | (rename_i hh
            refine fin_lp ⟨1, by decide, by decide⟩ ?_ (by dsimp only; decide)
            simp only [go_sem]
            simp only [Int.reduceLT, reduceIte, low]
            first
             | (rw [if_pos hh]; (repeat' apply And.intro) <;> first | trivial | rfl)
             | (rw [if_neg hh]; (repeat' apply And.intro) <;> first | trivial | rfl)
             | fail)
     · (simp -implicitDefEqProofs (maxSteps := 4000000) only [go_sem, Bool.not_eq_true', Bool.not_eq_false', Bool.or_eq_true, Bool.or_eq_false_iff, Bool.and_eq_true, Bool.and_eq_false_iff, decide_eq_true_eq, decide_eq_false_iff_not, Classical.not_not, not_or, maxLen, con31, hT, hG, hk, hK, Try.results31, Int.cast_ofNat_Int, Int.reduceLE, Int.reduceLT, and_self, Int.le_refl, Int.reduceToNat, Ty.dflt, lowK, Int.reduceAdd]); (try simp (disch := decide +kernel) only [drawn, true_and, and_true])
       (repeat' (with_reducible (first | refine And.intro ?_ ?_ | intro _))) <;> first
         | contradiction
         | (rename_i hh
            refine fin_lp ⟨2, by decide, by decide⟩ ?_ (by dsimp only; decide)
            simp only [go_sem]
            simp only [Int.reduceLT, reduceIte, low]
            first
             | (rw [if_pos hh]; (repeat' apply And.intro) <;> first | trivial | rfl)
             | (rw [if_neg hh]; (repeat' apply And.intro) <;> first | trivial | rfl)
             | fail)
     · (simp -implicitDefEqProofs (maxSteps := 4000000) only [go_sem, Bool.not_eq_true', Bool.not_eq_false', Bool.or_eq_true, Bool.or_eq_false_iff, Bool.and_eq_true, Bool.and_eq_false_iff, decide_eq_true_eq, decide_eq_false_iff_not, Classical.not_not, not_or, maxLen, con31, hT, hG, hk, hK, Try.results31, Int.cast_ofNat_Int, Int.reduceLE, Int.reduceLT, and_self, Int.le_refl, Int.reduceToNat, Ty.dflt, lowK, Int.reduceAdd]); (try simp (disch := decide +kernel) only [drawn, true_and, and_true])
       (repeat' (with_reducible (first | refine And.intro ?_ ?_ | intro _))) <;> first
         | contradiction
         | (rename_i hh
            refine fin_lp ⟨3, by decide, by decide⟩ ?_ (by dsimp only; decide)
            simp only [go_sem]
            simp only [Int.reduceLT, reduceIte, low]
            first
             | (rw [if_pos hh]; (repeat' apply And.intro) <;> first | trivial | rfl)
             | (rw [if_neg hh]; (repeat' apply And.intro) <;> first | trivial | rfl)
             | fail)
     · (simp -implicitDefEqProofs (maxSteps := 4000000) only [go_sem, Bool.not_eq_true', Bool.not_eq_false', Bool.or_eq_true, Bool.or_eq_false_iff, Bool.and_eq_true, Bool.and_eq_false_iff, decide_eq_true_eq, decide_eq_false_iff_not, Classical.not_not, not_or, maxLen, con31, hT, hG, hk, hK, Try.results31, Int.cast_ofNat_Int, Int.reduceLE, Int.reduceLT, and_self, Int.le_refl, Int.reduceToNat, Ty.dflt, lowK, Int.reduceAdd]); (try simp (disch := decide +kernel) only [drawn, true_and, and_true])
       (repeat' (with_reducible (first | refine And.intro ?_ ?_ | intro _))) <;> first
         | contradiction
         | (rename_i hh
            refine fin_lp ⟨4, by decide, by decide⟩ ?_ (by dsimp only; decide)
            simp only [go_sem]
            simp only [Int.reduceLT, reduceIte, low]
            first
             | (rw [if_pos hh]; (repeat' apply And.intro) <;> first | trivial | rfl)
             | (rw [if_neg hh]; (repeat' apply And.intro) <;> first | trivial | rfl)
             | fail)
     · (simp -implicitDefEqProofs (maxSteps := 4000000) only [go_sem, Bool.not_eq_true', Bool.not_eq_false', Bool.or_eq_true, Bool.or_eq_false_iff, Bool.and_eq_true, Bool.and_eq_false_iff, decide_eq_true_eq, decide_eq_false_iff_not, Classical.not_not, not_or, maxLen, con31, hT, hG, hk, hK, Try.results31, Int.cast_ofNat_Int, Int.reduceLE, Int.reduceLT, and_self, Int.le_refl, Int.reduceToNat, Ty.dflt, lowK, Int.reduceAdd]); (try simp (disch := decide +kernel) only [drawn, true_and, and_true])
       (repeat' (with_reducible (first | refine And.intro ?_ ?_ | intro _))) <;> first
         | contradiction
         | (rename_i hh
            refine fin_lp ⟨5, by decide, by decide⟩ ?_ (by dsimp only; decide)
            simp only [go_sem]
            simp only [Int.reduceLT, reduceIte, low]
            first
             | (rw [if_pos hh]; (repeat' apply And.intro) <;> first | trivial | rfl)
             | (rw [if_neg hh]; (repeat' apply And.intro) <;> first | trivial | rfl)
             | fail)
     · (simp -implicitDefEqProofs (maxSteps := 4000000) only [go_sem, Bool.not_eq_true', Bool.not_eq_false', Bool.or_eq_true, Bool.or_eq_false_iff, Bool.and_eq_true, Bool.and_eq_false_iff, decide_eq_true_eq, decide_eq_false_iff_not, Classical.not_not, not_or, maxLen, con31, hT, hG, hk, hK, Try.results31, Int.cast_ofNat_Int, Int.reduceLE, Int.reduceLT, and_self, Int.le_refl, Int.reduceToNat, Ty.dflt, lowK, Int.reduceAdd]); (try simp (disch := decide +kernel) only [drawn, true_and, and_true])
       (repeat' (with_reducible (first | refine And.intro ?_ ?_ | intro _))) <;> first
         | contradiction
         | (rename_i hh
            refine fin_lp ⟨6, by decide, by decide⟩ ?_ (by dsimp only; decide)
            simp only [go_sem]
            simp only [Int.reduceLT, reduceIte, low]
            first
             | (rw [if_pos hh]; (repeat' apply And.intro) <;> first | trivial | rfl)
             | (rw [if_neg hh]; (repeat' apply And.intro) <;> first | trivial | rfl)
             | fail)
     · (simp -implicitDefEqProofs (maxSteps := 4000000) only [go_sem, Bool.not_eq_true', Bool.not_eq_false', Bool.or_eq_true, Bool.or_eq_false_iff, Bool.and_eq_true, Bool.and_eq_false_iff, decide_eq_true_eq, decide_eq_false_iff_not, Classical.not_not, not_or, maxLen, con31, hT, hG, hk, hK, Try.results31, Int.cast_ofNat_Int, Int.reduceLE, Int.reduceLT, and_self, Int.le_refl, Int.reduceToNat, Ty.dflt, lowK, Int.reduceAdd]); (try simp (disch := decide +kernel) only [drawn, true_and, and_true])
       refine ⟨fun h => h.elim, ?_⟩
       rw [hA]
       exact ⟨rfl, rfl, rfl, rfl, rfl, rfl, rfl⟩))
end Go.Proofs.Ytfaoonbnbdlgaaa

/- The contracts of replan's functions: the needs. -/
set_option linter.unusedSimpArgs false
set_option linter.unusedVariables false
set_option maxRecDepth 100000
set_option maxHeartbeats 8000000
namespace Go.Proofs.Ytfaoonbnbdlgaaa
open Go.Ev

def homeV (cs : List Int) (old : List All) (f : Flt) : Int := if (chV old f).2 = true then idxF (fun y : Int => decide ((chV old f).1 = y)) cs 0 else -1
def ndOf (cs : List Int) (old fx : List All) (t : Int) (d : Dep) : Ned := (d.1, (if t > d.opens then t else d.opens), d.closes, homeV cs old d.1, (chV fx d.1).2)
def rawN (l : List Dep) (cs : List Int) (old fx : List All) (t : Int) : List Ned := (l.filter (fun d => !closedV d t)).map (ndOf cs old fx t)
theorem rawN_snoc (l : List Dep) (cs : List Int) (old fx : List All) (t : Int) (d : Dep) : rawN (l ++ [d]) cs old fx t = if closedV d t = true then rawN l cs old fx t else rawN l cs old fx t ++ [ndOf cs old fx t d] := by
 unfold rawN
 rw [List.filter_append]
 cases h : closedV d t <;> simp [h]
theorem rawN_len (l : List Dep) (cs : List Int) (old fx : List All) (t : Int) : (rawN l cs old fx t).length = actN l t := by
 unfold rawN actN
 rw [List.length_map, List.countP_eq_length_filter]
theorem closed_not {d : Dep} {t : Int} (h : closedV d t = false) : d.state = 0 ∧ t < d.closes := by
 unfold closedV at h
 simp only [Bool.or_eq_false_iff, Bool.not_eq_false', decide_eq_true_eq, decide_eq_false_iff_not] at h
 omega
theorem rawN_time {l : List Dep} {cs : List Int} {old fx : List All} {t : Int} (hv : ∀ d ∈ l, validV d = true) : ∀ n ∈ rawN l cs old fx t, inTimeN n := by
 intro n hn
 unfold rawN at hn
 obtain ⟨d, hd, rfl⟩ := List.mem_map.1 hn
 obtain ⟨h1, h2⟩ := List.mem_filter.1 hd
 have h3 := validV_times (hv d h1)
 have h4 := closed_not (d := d) (t := t) (by simpa using h2)
 unfold inTimeN ndOf Ned.frm
 dsimp only
 split <;> omega
def needV (l : List Dep) (cs : List Int) (old fx : List All) (t : Int) : List Ned := isortN (rawN l cs old fx t)
def con28 : Con := { ps := [.d false (.sl yDP), .d false (.sl (.int .i64)), .d false (.sl (.pair yFL (.int .i64))), .d false (.sl (.pair yFL (.int .i64))), .d false (.int .i64)], rs := [.o 75 (.pair yFL (.pair (.int .i64) (.pair (.int .i64) (.pair (.int .i64) .bool))))], pre := fun (x : List Dep × List Int × List All × List All × Int × Unit) => x.1.length ≤ 1048576 ∧ (∀ d ∈ x.1, validV d = true) ∧ actN x.1 x.2.2.2.2.1 ≤ 16, out := fun (x : List Dep × List Int × List All × List All × Int × Unit) => (needV x.1 x.2.1 x.2.2.1 x.2.2.2.1 x.2.2.2.2.1, ()), nw := id }
theorem c28 : CtrOk Try.prog 28 con28.ctr :=
 con_sound (G := ⟨[(52, con52.ctr), (45, con45.ctr), (55, con55.ctr), (56, con56.ctr)], [], [], [], []⟩) tab_ok (EnvOk.cons c52 has52 (EnvOk.cons c45 has45 (EnvOk.cons c55 has55 (EnvOk.cons c56 has56 EnvOk.nil)))) rfl Try.func28 rfl con28 4398082157599 (by kernel_rfl) (by decide) (by decide) rfl (by decide) rfl (by
  rintro ⟨(l : List Dep), (cs : List Int), (old : List All), (fx : List All), (t : Int), _⟩ hpre hwf X hT hG hk hK
  obtain ⟨hl, hv, ha⟩ : l.length ≤ 1048576 ∧ (∀ d ∈ l, validV d = true) ∧ actN l t ≤ 16 := hpre
  (simp -implicitDefEqProofs (maxSteps := 4000000) only [go_sem, Bool.not_eq_true', Bool.not_eq_false', Bool.or_eq_true, Bool.or_eq_false_iff, Bool.and_eq_true, Bool.and_eq_false_iff, decide_eq_true_eq, decide_eq_false_iff_not, Classical.not_not, not_or, maxLen, con28, con52, con45, con55, con56, hT, hG, hk, hK, Try.results28] at hwf ⊢); (try simp (disch := decide +kernel) only [drawn, true_and, and_true])
  clear hwf
  refine fun hlm => ?_
  refine evk_loop ⟨{ i : Nat // i ≤ l.length }, 1000, fun i => [(0, .one (.sl yDP l false)), (1, .one (.sl (.int .i64) cs false)), (2, .one (.sl (.pair yFL (.int .i64)) old false)), (3, .one (.sl (.pair yFL (.int .i64)) fx false)), (4, .one (.int .i64 t)), (11, .one (.row 64)), (17, .one (.sl yDP l false)), (18, .one (.int .i64 l.length)), (19, .one (.int .i64 i.1))], fun i => [(64, .row 75 (.pair yFL (.pair (.int .i64) (.pair (.int .i64) (.pair (.int .i64) .bool)))) (rawN (l.take i.1) cs old fx t))], fun i => l.length - i.1⟩ ⟨0, Nat.zero_le _⟩ ?_ ?_
  · simp only [go_sem]
    exact ⟨rfl, rfl⟩
  · rintro ⟨i, (hi : i ≤ l.length)⟩
    (simp -implicitDefEqProofs (maxSteps := 4000000) only [go_sem, Bool.not_eq_true', Bool.not_eq_false', Bool.or_eq_true, Bool.or_eq_false_iff, Bool.and_eq_true, Bool.and_eq_false_iff, decide_eq_true_eq, decide_eq_false_iff_not, Classical.not_not, not_or, maxLen, con28, con52, con45, con55, con56, hT, hG, hk, hK, Try.results28]); (try simp (disch := decide +kernel) only [drawn, true_and, and_true])
    refine ⟨fun hlt => ?_, fun hge => ?_⟩
    · have hi' : i < l.length := by omega
      have ek : ∀ z, l.getD (i : Int).toNat z = l[i] := fun z => by simp [hi']
      simp only [ek]
      have hst := rawN_snoc (l.take i) cs old fx t l[i]
      rw [← List.take_succ_eq_append_getElem hi'] at hst
      have hlen : (rawN (l.take i) cs old fx t).length ≤ i := by
       rw [rawN_len]; have := actN_le (l.take i) t; rw [List.length_take] at this; omega
      have e1 : (chV old l[i].1).2 = true → ndOf cs old fx t l[i] = (l[i].1, (if t > l[i].opens then t else l[i].opens), l[i].closes, idxF (fun y : Int => decide ((chV old l[i].1).1 = y)) cs 0, (chV fx l[i].1).2) := fun h => by
       unfold ndOf; rw [show homeV cs old l[i].1 = _ from if_pos h]
      have e2 : (chV old l[i].1).2 = false → ndOf cs old fx t l[i] = (l[i].1, (if t > l[i].opens then t else l[i].opens), l[i].closes, -1, (chV fx l[i].1).2) := fun h => by
       unfold ndOf; rw [show homeV cs old l[i].1 = -1 from if_neg (by rw [h]; simp)]
      (repeat' (with_reducible (first | refine And.intro ?_ ?_ | intro _))) <;> (try (first | with_reducible (first | done | assumption | omega | contradiction) | decide))
      · have h : closedV l[i] t = true := by assumption
        refine fin_lp ⟨i + 1, by omega⟩ ?_ ?_
        · simp only [go_sem]
          rw [hst, if_pos h]
          exact ⟨rfl, by omega⟩
        · dsimp only; omega
      · have h : closedV l[i] t = false := by assumption
        have h2 : (chV old l[i].1).2 = true := by assumption
        refine fin_lp ⟨i + 1, by omega⟩ ?_ ?_
        · simp only [go_sem]
          rw [hst.trans (if_neg (by rw [h]; simp)), e1 h2]
          exact ⟨rfl, by omega⟩
        · dsimp only; omega
      · have h : closedV l[i] t = false := by assumption
        have h2 : (chV old l[i].1).2 = false := by assumption
        refine fin_lp ⟨i + 1, by omega⟩ ?_ ?_
        · simp only [go_sem]
          rw [hst.trans (if_neg (by rw [h]; simp)), e2 h2]
          exact ⟨rfl, by omega⟩
        · dsimp only; omega
    · rw [List.take_of_length_le (by omega)]
      refine ⟨⟨?_, ?_⟩, ?_⟩
      · rw [rawN_len]; omega
      · exact rawN_time hv
      · rfl)
end Go.Proofs.Ytfaoonbnbdlgaaa
