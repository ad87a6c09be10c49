/- The contracts of the reference's functions of the chapter on repairs. -/
import Derived.Test.YtfaoonbnbdlgaaaRlRTToRRp
set_option linter.unusedSimpArgs false
set_option linter.unusedVariables false
set_option maxRecDepth 100000
set_option maxHeartbeats 8000000
namespace Go.Proofs.Ytfaoonbnbdlgaaa
open Go.Ev

def opn (t : Int) (d : Dep) : Dep := (d.1, d.2.1, (if t > d.2.2.1 then t else d.2.2.1), d.2.2.2)
def rawA (l : List Dep) (t : Int) : List Dep := (l.filter (fun d => !closedV d t)).map (opn t)
theorem rawA_snoc (l : List Dep) (t : Int) (d : Dep) : rawA (l ++ [d]) t = if closedV d t = true then rawA l t else rawA l t ++ [opn t d] := by
 unfold rawA
 rw [List.filter_append]
 cases h : closedV d t <;> simp [h]
theorem rawA_len (l : List Dep) (t : Int) : (rawA l t).length = actN l t := by
 unfold rawA actN
 rw [List.length_map, List.countP_eq_length_filter]
def actV (l : List Dep) (t : Int) : List Dep := isort (rawA l t)
theorem actV_len (l : List Dep) (t : Int) : (actV l t).length = actN l t := by unfold actV; rw [isort_len, rawA_len]
def con15 : Con := { ps := [.d false (.sl yDP), .d false (.int .i64)], rs := [.o 42 yDP], pre := fun (x : List Dep × Int × Unit) => x.1.length ≤ 1000, out := fun (x : List Dep × Int × Unit) => (actV x.1 x.2.1, ()), nw := id }
theorem c15 : CtrOk Try.prog 15 con15.ctr :=
 con_sound (G := ⟨[(41, con41.ctr), (42, con42.ctr)], [], [], [], []⟩) tab_ok (EnvOk.cons c41 has41 (EnvOk.cons c42 has42 EnvOk.nil)) rfl Try.func15 rfl con15 268437747 (by kernel_rfl) (by decide) (by decide) rfl (by decide) rfl (by
  rintro ⟨(l : List Dep), (t : Int), _⟩ hpre hwf X hT hG hk hK
  have hl : l.length ≤ 1000 := hpre
  (simp -implicitDefEqProofs (maxSteps := 4000000) only [go_sem, Bool.not_eq_true', Bool.not_eq_false', Bool.or_eq_true, Bool.or_eq_false_iff, Bool.and_eq_true, Bool.and_eq_false_iff, decide_eq_true_eq, decide_eq_false_iff_not, Classical.not_not, not_or, maxLen, con15, con41, con42, hT, hG, hk, hK, Try.results15] at hwf ⊢); (try simp (disch := decide +kernel) only [drawn, true_and, and_true])
  clear hwf
  refine evk_loop ⟨{ i : Nat // i ≤ l.length }, 1000, fun i => [(0, .one (.sl yDP l false)), (1, .one (.int .i64 t)), (5, .one (.row 64)), (6, .one (.int .i64 i.1))], fun i => [(64, .row 42 yDP (rawA (l.take i.1) t))], fun i => l.length - i.1⟩ ⟨0, Nat.zero_le _⟩ ?_ ?_
  · simp only [go_sem]
    exact ⟨rfl, rfl⟩
  · rintro ⟨i, (hi : i ≤ l.length)⟩
    (simp -implicitDefEqProofs (maxSteps := 4000000) only [go_sem, Bool.not_eq_true', Bool.not_eq_false', Bool.or_eq_true, Bool.or_eq_false_iff, Bool.and_eq_true, Bool.and_eq_false_iff, decide_eq_true_eq, decide_eq_false_iff_not, Classical.not_not, not_or, maxLen, con15, con41, con42, hT, hG, hk, hK, Try.results15]); (try simp (disch := decide +kernel) only [drawn, true_and, and_true])
    refine fun hlm => ⟨fun hlt => ?_, fun hge => ?_⟩
    · have hi' : i < l.length := by omega
      have ek : ∀ z, l.getD (i : Int).toNat z = l[i] := fun z => by simp [hi']
      simp only [ek]
      have hst := rawA_snoc (l.take i) t l[i]
      rw [← List.take_succ_eq_append_getElem hi'] at hst
      have hlen : (rawA (l.take i) t).length ≤ i := by
       rw [rawA_len]; have := actN_le (l.take i) t; rw [List.length_take] at this; omega
      refine ⟨by omega, fun _ _ => ⟨fun _ => by omega, fun _ _ => ⟨fun h => ⟨by omega, fun _ _ => ⟨by omega, by omega, ?_⟩⟩, fun h => ⟨by omega, ?_⟩⟩⟩⟩
      · refine fin_lp ⟨i + 1, by omega⟩ ?_ ?_
        · simp only [go_sem]
          rw [hst.trans (if_neg (by rw [h.2]; simp))]
          exact ⟨rfl, by omega⟩
        · dsimp only; omega
      · have hc : closedV l[i] t = true := by
         rcases h with h | h
         · unfold closedV Dep.state
           rw [decide_eq_false h]; rfl
         · exact h
        refine fin_lp ⟨i + 1, by omega⟩ ?_ ?_
        · simp only [go_sem]
          rw [hst.trans (if_pos hc)]
          exact ⟨rfl, by omega⟩
        · dsimp only; omega
    · rw [List.take_of_length_le (by omega)]
      exact ⟨by rw [rawA_len]; have := actN_le l t; omega, fun _ => rfl⟩)
def con65 : Con := { ps := [.d false (.sl (.int .i64)), .d false (.int .i64)], rs := [.d false (.int .i64)], pre := fun _ => True, out := fun x => (idxF (fun y : Int => decide (x.2.1 = y)) x.1 0, ()), nw := id }
theorem c65 : CtrOk Try.prog 65 con65.ctr :=
 con_sound (G := ⟨[], [], [], [], []⟩) tab_ok EnvOk.nil rfl Try.func65 rfl con65 131635 (by kernel_rfl) (by decide) (by decide) rfl (by decide) rfl (by
  rintro ⟨(l : List Int), (f : Int), _⟩ hpre hwf X hT hG hk hK
  (simp -implicitDefEqProofs (maxSteps := 4000000) only [go_sem, Bool.not_eq_true', Bool.not_eq_false', Bool.or_eq_true, Bool.or_eq_false_iff, Bool.and_eq_true, Bool.and_eq_false_iff, decide_eq_true_eq, decide_eq_false_iff_not, Classical.not_not, not_or, maxLen, con65, hT, hG, hk, hK, Try.results65] at hwf ⊢); (try simp (disch := decide +kernel) only [drawn, true_and, and_true])
  refine evk_loop ⟨{ i : Nat // i ≤ l.length ∧ idxF (fun y : Int => decide (f = y)) l 0 = idxF (fun y : Int => decide (f = y)) (l.drop i) i }, 1000, fun i => [(0, .one (.sl (.int .i64) l false)), (1, .one (.int .i64 f)), (5, .one (.int .i64 i.1))], fun _ => [], fun i => l.length - i.1⟩ ⟨0, by simp, by simp⟩ ?_ ?_
  · simp only [go_sem]
    rfl
  · rintro ⟨i, (hi : i ≤ l.length), (he : idxF (fun y : Int => decide (f = y)) l 0 = idxF (fun y : Int => decide (f = y)) (l.drop i) i)⟩
    (simp -implicitDefEqProofs (maxSteps := 4000000) only [go_sem, Bool.not_eq_true', Bool.not_eq_false', Bool.or_eq_true, Bool.or_eq_false_iff, Bool.and_eq_true, Bool.and_eq_false_iff, decide_eq_true_eq, decide_eq_false_iff_not, Classical.not_not, not_or, maxLen, con65, hT, hG, hk, hK, Try.results65]); (try simp (disch := decide +kernel) only [drawn, true_and, and_true])
    refine fun _ => ⟨fun hlt => ?_, fun hge => ?_⟩
    · have hi' : i < l.length := by omega
      have ek : ∀ z, l.getD (i : Int).toNat z = l[i] := fun z => by simp [hi']
      simp only [ek]
      have hst : idxF (fun y : Int => decide (f = y)) l 0 = if decide (f = l[i]) = true then (i : Int) else idxF (fun y : Int => decide (f = y)) (l.drop (i + 1)) ((i + 1 : Nat) : Int) := by
       rw [he, List.drop_eq_getElem_cons hi', idxF]; rfl
      (repeat' (with_reducible (first | refine And.intro ?_ ?_ | intro _))) <;> (try (first | with_reducible (first | done | assumption | omega | contradiction) | decide))
      · rename_i h
        rw [hst, if_pos (by simp [h])]
      · rename_i h
        refine fin_lp ⟨i + 1, by omega, by rw [hst, if_neg (by rw [decide_eq_true_eq]; exact fun k => h k.symm)]⟩ (by simp only [go_sem]; first | rfl | ((repeat' apply And.intro) <;> first | rfl | assumption | omega)) (by dsimp only; omega)
    · rw [he, List.drop_of_length_le (by omega)]
      rfl)
def con44 : Con := { ps := [.d false (.sl (.int .i64)), .d false (.sl (.pair yFL (.int .i64))), .d true yFL], rs := [.d false (.int .i64)], pre := fun _ => True, out := fun (x : List Int × List All × Flt × Unit) => (homeV x.1 x.2.1 x.2.2.1, ()), nw := id }
theorem c44 : CtrOk Try.prog 44 con44.ctr :=
 con_sound (G := ⟨[(19, con19.ctr), (65, con65.ctr)], [], [], [], []⟩) tab_ok (EnvOk.cons c19 has19 (EnvOk.cons c65 has65 EnvOk.nil)) rfl Try.func44 rfl con44 66023 (by kernel_rfl) (by decide) (by decide) rfl (by decide) rfl (by
  rintro ⟨(cs : List Int), (old : List All), ⟨f1, (f2 : Int), f3, (f4 : Int)⟩, _⟩ hpre hwf X hT hG hk hK
  (simp -implicitDefEqProofs (maxSteps := 4000000) only [go_sem, Bool.not_eq_true', Bool.not_eq_false', Bool.or_eq_true, Bool.or_eq_false_iff, Bool.and_eq_true, Bool.and_eq_false_iff, decide_eq_true_eq, decide_eq_false_iff_not, Classical.not_not, not_or, maxLen, con44, con19, con65, hT, hG, hk, hK, Try.results44] at hwf ⊢); (try simp (disch := decide +kernel) only [drawn, true_and, and_true])
  unfold homeV
  cases h : (chV old (f1, f2, f3, f4)).2
  · simp
  · simp)
def con40 : Con := { ps := [.d false (.sl (.int .i64)), .d false (.int .i64)], rs := [.d false .bool], pre := fun _ => True, out := fun x => (x.1.any (fun y : Int => decide (x.2.1 = y)), ()), nw := id }
theorem c40 : CtrOk Try.prog 40 con40.ctr :=
 con_sound (G := ⟨[], [], [], [], []⟩) tab_ok EnvOk.nil rfl Try.func40 rfl con40 131635 (by kernel_rfl) (by decide) (by decide) rfl (by decide) rfl (by
  rintro ⟨(l : List Int), (f : Int), _⟩ hpre hwf X hT hG hk hK
  (simp -implicitDefEqProofs (maxSteps := 4000000) only [go_sem, Bool.not_eq_true', Bool.not_eq_false', Bool.or_eq_true, Bool.or_eq_false_iff, Bool.and_eq_true, Bool.and_eq_false_iff, decide_eq_true_eq, decide_eq_false_iff_not, Classical.not_not, not_or, maxLen, con40, hT, hG, hk, hK, Try.results40] at hwf ⊢); (try simp (disch := decide +kernel) only [drawn, true_and, and_true])
  refine evk_loop ⟨{ i : Nat // i ≤ l.length ∧ l.any (fun y : Int => decide (f = y)) = (l.drop i).any (fun y : Int => decide (f = y)) }, 1000, fun i => [(0, .one (.sl (.int .i64) l false)), (1, .one (.int .i64 f)), (5, .one (.int .i64 i.1))], fun _ => [], fun i => l.length - i.1⟩ ⟨0, by simp, by simp⟩ ?_ ?_
  · simp only [go_sem]
    rfl
  · rintro ⟨i, (hi : i ≤ l.length), (he : l.any (fun y : Int => decide (f = y)) = (l.drop i).any (fun y : Int => decide (f = y)))⟩
    (simp -implicitDefEqProofs (maxSteps := 4000000) only [go_sem, Bool.not_eq_true', Bool.not_eq_false', Bool.or_eq_true, Bool.or_eq_false_iff, Bool.and_eq_true, Bool.and_eq_false_iff, decide_eq_true_eq, decide_eq_false_iff_not, Classical.not_not, not_or, maxLen, con40, hT, hG, hk, hK, Try.results40]); (try simp (disch := decide +kernel) only [drawn, true_and, and_true])
    refine fun _ => ⟨fun hlt => ?_, fun hge => ?_⟩
    · have hi' : i < l.length := by omega
      have ek : ∀ z, l.getD (i : Int).toNat z = l[i] := fun z => by simp [hi']
      simp only [ek]
      rw [List.drop_eq_getElem_cons hi', List.any_cons] at he
      (repeat' (with_reducible (first | refine And.intro ?_ ?_ | intro _))) <;> (try (first | with_reducible (first | done | assumption | omega | contradiction) | decide))
      · rename_i h
        rw [he, decide_eq_true h.symm]; rfl
      · rename_i h
        refine fin_lp ⟨i + 1, by omega, by rw [he, decide_eq_false (fun k => h k.symm)]; rfl⟩ (by simp only [go_sem]; first | rfl | ((repeat' apply And.intro) <;> first | rfl | assumption | omega)) (by dsimp only; omega)
    · rw [he, List.drop_of_length_le (by omega)]
      rfl)
theorem home_spec (cs : List Int) (old : List All) (f : Flt) : (homeV cs old f = -1 ∧ ((chV old f).2 && inC cs (chV old f).1) = false) ∨
 ∃ k : Nat, k < cs.length ∧ homeV cs old f = k ∧ (chV old f).2 = true ∧ inC cs (chV old f).1 = true ∧ ∀ z, cs.getD k z = (chV old f).1 := by
 unfold homeV inC
 cases h : (chV old f).2
 · exact .inl ⟨rfl, rfl⟩
 · rcases idxF_spec (fun y : Int => decide ((chV old f).1 = y)) cs 0 (Int.le_refl 0) with ⟨h1, h2⟩ | ⟨k, hk, h1, h2, h3⟩
   · rw [if_pos rfl, h1]
     exact .inl ⟨rfl, rfl⟩
   · rw [if_pos rfl, h1]
     refine .inr ⟨k, hk, by omega, rfl, by simp, fun z => ?_⟩
     rw [List.getD_eq_getElem?_getD, List.getElem?_eq_getElem hk]
     exact (of_decide_eq_true h2).symm
def con38 : Con := { ps := [.d false (.sl yDP), .d false (.sl (.int .i64)), .d false (.sl (.pair yFL (.int .i64))), .d false (.int .i64)], rs := [.o 44 (.pair yFL (.int .i64))], pre := fun (x : List Dep × List Int × List All × Int × Unit) => x.1.length ≤ 1048576, out := fun (x : List Dep × List Int × List All × Int × Unit) => (fixV x.1 x.2.1 x.2.2.1 x.2.2.2.1, ()), nw := id }
theorem c38 : CtrOk Try.prog 38 con38.ctr :=
 con_sound (G := ⟨[(44, con44.ctr), (64, con64.ctr)], [], [], [], []⟩) tab_ok (EnvOk.cons c44 has44 (EnvOk.cons c64 has64 EnvOk.nil)) rfl Try.func38 rfl con38 34359774991 (by kernel_rfl) (by decide) (by decide) rfl (by decide) rfl (by
  rintro ⟨(l : List Dep), (cs : List Int), (old : List All), (t : Int), _⟩ hpre hwf X hT hG hk hK
  have hl : l.length ≤ 1048576 := hpre
  (simp -implicitDefEqProofs (maxSteps := 4000000) only [go_sem, Bool.not_eq_true', Bool.not_eq_false', Bool.or_eq_true, Bool.or_eq_false_iff, Bool.and_eq_true, Bool.and_eq_false_iff, decide_eq_true_eq, decide_eq_false_iff_not, Classical.not_not, not_or, maxLen, con38, con44, con64, hT, hG, hk, hK, Try.results38] at hwf ⊢); (try simp (disch := decide +kernel) only [drawn, true_and, and_true])
  clear hwf
  refine evk_loop ⟨{ i : Nat // i ≤ l.length }, 1000, fun i => [(0, .one (.sl yDP l false)), (1, .one (.sl (.int .i64) cs false)), (2, .one (.sl (.pair yFL (.int .i64)) old false)), (3, .one (.int .i64 t)), (9, .one (.row 64)), (10, .one (.int .i64 i.1))], fun i => [(64, .row 44 (.pair yFL (.int .i64)) (fixV (l.take i.1) cs old t))], fun i => l.length - i.1⟩ ⟨0, Nat.zero_le _⟩ ?_ ?_
  · simp only [go_sem]
    exact ⟨rfl, rfl⟩
  · rintro ⟨i, (hi : i ≤ l.length)⟩
    (simp -implicitDefEqProofs (maxSteps := 4000000) only [go_sem, Bool.not_eq_true', Bool.not_eq_false', Bool.or_eq_true, Bool.or_eq_false_iff, Bool.and_eq_true, Bool.and_eq_false_iff, decide_eq_true_eq, decide_eq_false_iff_not, Classical.not_not, not_or, maxLen, con38, con44, con64, hT, hG, hk, hK, Try.results38]); (try simp (disch := decide +kernel) only [drawn, true_and, and_true])
    refine fun hlm => ⟨fun hlt => ?_, fun hge => ?_⟩
    · have hi' : i < l.length := by omega
      have ek : ∀ z, l.getD (i : Int).toNat z = l[i] := fun z => by simp [hi']
      simp only [ek]
      have hst := fixV_snoc (l.take i) cs old t l[i]
      rw [← List.take_succ_eq_append_getElem hi'] at hst
      have hlen := fixV_len (l.take i) cs old t
      rw [List.length_take] at hlen
      unfold fixB at hst
      have hs := home_spec cs old l[i].1
      clear ek
      rcases hs with ⟨h1, h2⟩ | ⟨k, hk1, h1, h2, h3, h4⟩
      · simp only [h1]
        have hst2 : fixV (l.take (i + 1)) cs old t = fixV (l.take i) cs old t := hst.trans (if_neg (by
         intro h; simp only [Bool.and_eq_true] at h; rw [h.1.1, h.2] at h2; cases h2))
        (repeat' (with_reducible (first | refine And.intro ?_ ?_ | intro _))) <;> (try (first | with_reducible (first | done | assumption | omega | contradiction) | decide))
        refine fin_lp ⟨i + 1, by omega⟩ ?_ ?_
        · simp only [go_sem]
          rw [hst2]
          exact ⟨rfl, by omega⟩
        · dsimp only; omega
      · simp only [h1, Int.toNat_natCast, h4]
        rw [h2, h3, Bool.true_and, Bool.and_true] at hst
        (repeat' (with_reducible (first | refine And.intro ?_ ?_ | intro _))) <;> (try (first | with_reducible (first | done | assumption | omega | contradiction) | decide))
        · have h : isOpenV l[i] t = true := by
           have : (k : Int) ≥ 0 ∧ isOpenV l[i] t = true := by assumption
           exact this.2
          refine fin_lp ⟨i + 1, by omega⟩ ?_ ?_
          · simp only [go_sem]
            rw [hst.trans (if_pos h)]
            exact ⟨rfl, by omega⟩
          · dsimp only; omega
        · have h : isOpenV l[i] t = false := by
           have : ¬ (k : Int) ≥ 0 ∨ isOpenV l[i] t = false := by assumption
           exact this.resolve_left (by omega)
          refine fin_lp ⟨i + 1, by omega⟩ ?_ ?_
          · simp only [go_sem]
            rw [hst.trans (if_neg (by rw [h]; simp))]
            exact ⟨rfl, by omega⟩
          · dsimp only; omega
    · rw [List.take_of_length_le (by omega)])
def con17 : Con := { ps := [.d false (.sl (.int .i64)), .d false (.sl (.pair yFL (.int .i64))), .d false (.sl (.pair yFL (.int .i64)))], rs := [.o 40 yFL], pre := fun (x : List Int × List All × List All × Unit) => x.2.2.1.length ≤ 1048576, out := fun (x : List Int × List All × List All × Unit) => (movV x.1 x.2.1 x.2.2.1, ()), nw := id }
theorem c17 : CtrOk Try.prog 17 con17.ctr :=
 con_sound (G := ⟨[(44, con44.ctr)], [], [], [], []⟩) tab_ok (EnvOk.cons c44 has44 EnvOk.nil) rfl Try.func17 rfl con17 137438962631 (by kernel_rfl) (by decide) (by decide) rfl (by decide) rfl (by
  rintro ⟨(cs : List Int), (old : List All), (l : List All), _⟩ hpre hwf X hT hG hk hK
  have hl : l.length ≤ 1048576 := hpre
  (simp -implicitDefEqProofs (maxSteps := 4000000) only [go_sem, Bool.not_eq_true', Bool.not_eq_false', Bool.or_eq_true, Bool.or_eq_false_iff, Bool.and_eq_true, Bool.and_eq_false_iff, decide_eq_true_eq, decide_eq_false_iff_not, Classical.not_not, not_or, maxLen, con17, con44, hT, hG, hk, hK, Try.results17] at hwf ⊢); (try simp (disch := decide +kernel) only [drawn, true_and, and_true])
  clear hwf
  refine evk_loop ⟨{ i : Nat // i ≤ l.length }, 1000, fun i => [(0, .one (.sl (.int .i64) cs false)), (1, .one (.sl (.pair yFL (.int .i64)) old false)), (2, .one (.sl (.pair yFL (.int .i64)) l false)), (7, .one (.row 64)), (8, .one (.int .i64 i.1))], fun i => [(64, .row 40 yFL (movV cs old (l.take i.1)))], fun i => l.length - i.1⟩ ⟨0, Nat.zero_le _⟩ ?_ ?_
  · simp only [go_sem]
    exact ⟨rfl, rfl⟩
  · rintro ⟨i, (hi : i ≤ l.length)⟩
    (simp -implicitDefEqProofs (maxSteps := 4000000) only [go_sem, Bool.not_eq_true', Bool.not_eq_false', Bool.or_eq_true, Bool.or_eq_false_iff, Bool.and_eq_true, Bool.and_eq_false_iff, decide_eq_true_eq, decide_eq_false_iff_not, Classical.not_not, not_or, maxLen, con17, con44, hT, hG, hk, hK, Try.results17]); (try simp (disch := decide +kernel) only [drawn, true_and, and_true])
    refine fun hlm => ⟨fun hlt => ?_, fun hge => ?_⟩
    · have hi' : i < l.length := by omega
      have ek : ∀ z, l.getD (i : Int).toNat z = l[i] := fun z => by simp [hi']
      simp only [ek]
      have hst := movV_snoc cs old (l.take i) l[i]
      rw [← List.take_succ_eq_append_getElem hi'] at hst
      have hlen := movV_len cs old (l.take i)
      rw [List.length_take] at hlen
      unfold movB at hst
      have hs := home_spec cs old l[i].1
      clear ek
      rcases hs with ⟨h1, h2⟩ | ⟨k, hk1, h1, h2, h3, h4⟩
      · simp only [h1]
        have hst2 : movV cs old (l.take (i + 1)) = movV cs old (l.take i) := hst.trans (if_neg (by
         intro h; simp only [Bool.and_eq_true] at h; rw [h.1.1, h.2] at h2; cases h2))
        (repeat' (with_reducible (first | refine And.intro ?_ ?_ | intro _))) <;> (try (first | with_reducible (first | done | assumption | omega | contradiction) | decide))
        refine fin_lp ⟨i + 1, by omega⟩ ?_ ?_
        · simp only [go_sem]
          rw [hst2]
          exact ⟨rfl, by omega⟩
        · dsimp only; omega
      · simp only [h1, Int.toNat_natCast, h4]
        rw [h2, h3, Bool.true_and, Bool.and_true] at hst
        (repeat' (with_reducible (first | refine And.intro ?_ ?_ | intro _))) <;> (try (first | with_reducible (first | done | assumption | omega | contradiction) | decide))
        · have h : ¬ (chV old l[i].1).1 = l[i].2 := by
           have : (k : Int) ≥ 0 ∧ ¬ (chV old l[i].1).1 = l[i].2 := by assumption
           exact this.2
          refine fin_lp ⟨i + 1, by omega⟩ ?_ ?_
          · simp only [go_sem]
            rw [hst.trans (if_pos (by rw [decide_eq_false h]; rfl))]
            exact ⟨rfl, by omega⟩
          · dsimp only; omega
        · have h : (chV old l[i].1).1 = l[i].2 := by
           have : ¬ (k : Int) ≥ 0 ∨ (chV old l[i].1).1 = l[i].2 := by assumption
           exact this.resolve_left (by omega)
          refine fin_lp ⟨i + 1, by omega⟩ ?_ ?_
          · simp only [go_sem]
            rw [hst.trans (if_neg (by rw [decide_eq_true h]; simp))]
            exact ⟨rfl, by omega⟩
          · dsimp only; omega
    · rw [List.take_of_length_le (by omega)])
theorem argsV_nil (cs : List Int) : argsV [] cs = if (cs.length : Int) > 6 then 2 else if cs.all (fun c => decide (0 ≤ c)) = false then 1 else if ascI cs = false then 9 else 0 := by
 unfold argsV
 have h1 : validateV ([] : List Dep) = 0 := rfl
 have h2 : (planV ([] : List Dep)).length = 0 := rfl
 rw [h1, h2]
 rw [if_neg (by omega)]
 by_cases h : (cs.length : Int) > 6
 · rw [if_pos h, if_pos (Or.inr h)]
 · rw [if_neg h, if_neg (by omega)]
theorem argR_eq {l : List Dep} {cs : List Int} {t : Int} (h1 : validateV l = 0) (h2 : ¬ (actN l t : Int) > 16 ∧ ¬ (cs.length : Int) > 6) : argR l cs t = argsV [] cs := by
 rw [argsV_nil, if_neg h2.2]
 unfold argR
 rw [if_neg (by omega), if_neg (by omega)]
def rvdV (l : List Dep) (cs : List Int) (old : List All) (t : Int) : Int :=
 if argR l cs t ≠ 0 then argR l cs t else if ¬ ((fixV l cs old t).map (fun a => a.2)).Nodup then 7 else 0
def con12 : Con := { ps := [.d false (.sl yDP), .d false (.sl (.int .i64)), .d false (.sl (.pair yFL (.int .i64))), .d false (.int .i64)], rs := [.d false (.int .i64)], pre := fun (x : List Dep × List Int × List All × Int × Unit) => x.1.length ≤ 1000, out := fun (x : List Dep × List Int × List All × Int × Unit) => (rvdV x.1 x.2.1 x.2.2.1 x.2.2.2.1, ()), nw := id }
theorem c12 : CtrOk Try.prog 12 con12.ctr :=
 con_sound (G := ⟨[(15, con15.ctr), (36, con36.ctr), (37, con37.ctr), (38, con38.ctr)], [], [], [], []⟩) tab_ok (EnvOk.cons c15 has15 (EnvOk.cons c36 has36 (EnvOk.cons c37 has37 (EnvOk.cons c38 has38 EnvOk.nil)))) rfl Try.func12 rfl con12 1153066644705263375 (by kernel_rfl) (by decide) (by decide) rfl (by decide) rfl (by
  rintro ⟨(l : List Dep), (cs : List Int), (old : List All), (t : Int), _⟩ hpre hwf X hT hG hk hK
  have hl : l.length ≤ 1000 := hpre
  (simp -implicitDefEqProofs (maxSteps := 4000000) only [go_sem, Bool.not_eq_true', Bool.not_eq_false', Bool.or_eq_true, Bool.or_eq_false_iff, Bool.and_eq_true, Bool.and_eq_false_iff, decide_eq_true_eq, decide_eq_false_iff_not, Classical.not_not, not_or, maxLen, con12, con15, con36, con37, con38, hT, hG, hk, hK, Try.results12] at hwf ⊢); (try simp (disch := decide +kernel) only [drawn, true_and, and_true])
  clear hwf
  refine fun _ => ⟨fun h => ?_, fun hv0 => ⟨hl, fun _ _ _ => ⟨fun h => ?_, fun h2 _ => ⟨fun h => ?_, fun hz => ⟨by omega, fun _ => ?_⟩⟩⟩⟩⟩
  · have e : argR l cs t = validateV l := if_pos h
    rw [show rvdV l cs old t = _ from if_pos (by rw [e]; exact h), e]
  · rw [actV_len] at h
    have e : argR l cs t = 2 := by unfold argR; rw [if_neg (by omega), if_pos h]
    rw [show rvdV l cs old t = _ from if_pos (by rw [e]; decide), e]
  · rw [actV_len] at h2
    rw [show rvdV l cs old t = _ from if_pos (by rw [argR_eq hv0 h2]; exact h), argR_eq hv0 h2]
  rw [actV_len] at h2
  have e0 : rvdV l cs old t = if ¬ ((fixV l cs old t).map (fun a => a.2)).Nodup then 7 else 0 := by
   unfold rvdV; rw [argR_eq hv0 h2, if_neg (by omega)]
  have hfl := fixV_len l cs old t
  generalize fixV l cs old t = fx at hfl e0
  refine evk_loop ⟨{ i : Nat // i ≤ fx.length ∧ ((fx.take i).map (fun a => a.2)).Nodup }, 1000, fun i => [(11, .one (.sl (.pair yFL (.int .i64)) fx false)), (12, .one (.int .i64 i.1))], fun i => [], fun i => fx.length - i.1⟩ ⟨0, Nat.zero_le _, by simp⟩ ?_ ?_
  · simp only [go_sem]
    rfl
  · rintro ⟨i, (hi : i ≤ fx.length), (hnd : ((fx.take i).map (fun a : All => a.2)).Nodup)⟩
    (simp -implicitDefEqProofs (maxSteps := 4000000) only [go_sem, Bool.not_eq_true', Bool.not_eq_false', Bool.or_eq_true, Bool.or_eq_false_iff, Bool.and_eq_true, Bool.and_eq_false_iff, decide_eq_true_eq, decide_eq_false_iff_not, Classical.not_not, not_or, maxLen, con12, con15, con36, con37, con38, hT, hG, hk, hK, Try.results12]); (try simp (disch := decide +kernel) only [drawn, true_and, and_true])
    refine fun _ => ⟨fun hlt => ?_, fun hge => ?_⟩
    · have hi' : i < fx.length := by omega
      refine evk_loop ⟨{ j : Nat // j ≤ i ∧ ∀ a ∈ fx.take j, a.2 ≠ fx[i].2 }, 2000, fun j => [(11, .one (.sl (.pair yFL (.int .i64)) fx false)), (12, .one (.int .i64 i)), (13, .one (.int .i64 j.1))],
       fun _ => [], fun j => i - j.1⟩ ⟨0, Nat.zero_le _, by simp⟩ ?_ ?_
      · simp only [go_sem]
        rfl
      · rintro ⟨j, (hj : j ≤ i), (hne : ∀ a ∈ fx.take j, a.2 ≠ fx[i].2)⟩
        (simp -implicitDefEqProofs (maxSteps := 4000000) only [go_sem, Bool.not_eq_true', Bool.not_eq_false', Bool.or_eq_true, Bool.or_eq_false_iff, Bool.and_eq_true, Bool.and_eq_false_iff, decide_eq_true_eq, decide_eq_false_iff_not, Classical.not_not, not_or, maxLen, con12, con15, con36, con37, con38, hT, hG, hk, hK, Try.results12]); (try simp (disch := decide +kernel) only [drawn, true_and, and_true])
        have ek : ∀ z, fx.getD (i : Int).toNat z = fx[i] := fun z => by simp [hi']
        have hjx : j < i → ∀ z, fx.getD (j : Int).toNat z = fx[j]'(by omega) := fun h z => by
         simp [List.getElem?_eq_getElem (show j < fx.length by omega)]
        refine ⟨fun hlt => ?_, fun hge => ?_⟩
        · simp only [ek, hjx (by omega)]
          have hmem : fx[j]'(by omega) ∈ fx.take i := by
           rw [List.mem_take_iff_getElem]
           exact ⟨j, by omega, rfl⟩
          refine ⟨by omega, fun _ _ => ⟨by omega, fun _ _ => ⟨fun h => ?_, fun h => ⟨by omega, ?_⟩⟩⟩⟩
          · rw [e0, if_pos (fun hn => by
             have e : fx = fx.take i ++ fx[i] :: fx.drop (i + 1) := by rw [List.getElem_cons_drop hi', List.take_append_drop]
             rw [e, List.map_append, List.map_cons, List.nodup_append] at hn
             exact hn.2.2 _ (List.mem_map_of_mem hmem) _ List.mem_cons_self h.symm)]
          · refine fin_lp ⟨j + 1, by omega, fun a ha => ?_⟩ ?_ ?_
            · rw [List.take_succ_eq_append_getElem (show j < fx.length by omega)] at ha
              rcases List.mem_append.1 ha with ha | ha
              · exact hne a ha
              · rw [List.mem_singleton.1 ha]; exact fun k => h k.symm
            · simp only [go_sem]
              omega
            · dsimp only; omega
        · obtain rfl : j = i := by omega
          refine ⟨by omega, ?_⟩
          refine fin_lp ⟨j + 1, by omega, ?_⟩ ?_ ?_
          · rw [List.take_succ_eq_append_getElem hi', List.map_append, List.nodup_append]
            refine ⟨hnd, by simp, fun a ha b hb hab => ?_⟩
            obtain ⟨z, hz, rfl⟩ := List.mem_map.1 ha
            have : b = fx[j].2 := by simpa using hb
            exact hne z hz (hab.trans this)
          · simp only [go_sem]
            omega
          · dsimp only; omega
    · rw [List.take_of_length_le (by omega)] at hnd
      rw [e0, if_neg (by simp only [Classical.not_not]; exact hnd)])
end Go.Proofs.Ytfaoonbnbdlgaaa

/- The contracts of the generators of the chapter on repairs. -/
set_option linter.unusedSimpArgs false
set_option linter.unusedVariables false
set_option maxRecDepth 100000
set_option maxHeartbeats 8000000
namespace Go.Proofs.Ytfaoonbnbdlgaaa
open Go.Ev

/-- Chutes with gaps. -/
def chX : Nat → Src → Int → List Int × Src
 | 0, s, _ => ([], s)
 | n + 1, s, c => ((c + (1 + goMod s.raw 2)) :: (chX n s.step (c + (1 + goMod s.raw 2))).1, (chX n s.step (c + (1 + goMod s.raw 2))).2)
def chsV (s : Src) (n : Int) : List Int × Src := chX (goMod s.raw (n + 1)).toNat s.step 0
theorem chX_ok : ∀ (n : Nat) (s : Src) (c : Int), (chX n s c).1.length = n ∧ (∀ x ∈ (chX n s c).1, c < x ∧ x ≤ c + 2 * n) ∧ ascI (c :: (chX n s c).1) = true ∧ (0 ≤ s.2 → 0 ≤ (chX n s c).2.2)
 | 0, s, c => ⟨rfl, by simp [chX], rfl, fun h => h⟩
 | n + 1, s, c => by
   have hb := goMod_bd s.raw 2 (by omega)
   obtain ⟨h1, h2, h3, h4⟩ := chX_ok n s.step (c + (1 + goMod s.raw 2))
   unfold chX
   refine ⟨by simp [h1], fun x hx => ?_, ?_, fun h => h4 (Src.step_pos s h)⟩
   · rcases List.mem_cons.1 hx with rfl | hx
     · omega
     · have := h2 x hx; omega
   · rw [ascI, h3, decide_eq_true (by omega)]; rfl
def con8 : Con := { ps := [.p 54 ySR, .d false (.int .i64)], rs := [.d false (.sl (.int .i64))], pre := fun (x : Src × Int × Unit) => 0 ≤ x.1.2 ∧ 0 ≤ x.2.1 ∧ x.2.1 ≤ 1000, out := fun (x : Src × Int × Unit) => ((chsV x.1 x.2.1).1, ()), nw := fun x => ((chsV x.1 x.2.1).2, x.2) }
theorem c8 : CtrOk Try.prog 8 con8.ctr :=
 con_sound (G := ⟨[(10, con10.ctr)], [], [], [], []⟩) tab_ok (EnvOk.cons c10 has10 EnvOk.nil) rfl Try.func8 rfl con8 8435 (by kernel_rfl) (by decide) (by decide) rfl (by decide) rfl (by
  rintro ⟨⟨(sl : List Int), (sa : Int)⟩, (most : Int), _⟩ hpre hwf X hT hG hk hK
  obtain ⟨h1, h2, h3⟩ : 0 ≤ sa ∧ 0 ≤ most ∧ most ≤ 1000 := hpre
  (simp -implicitDefEqProofs (maxSteps := 4000000) only [go_sem, Bool.not_eq_true', Bool.not_eq_false', Bool.or_eq_true, Bool.or_eq_false_iff, Bool.and_eq_true, Bool.and_eq_false_iff, decide_eq_true_eq, decide_eq_false_iff_not, Classical.not_not, not_or, maxLen, con8, con10, hT, hG, hk, hK, Try.results8] at hwf ⊢); (try simp (disch := decide +kernel) only [drawn, true_and, and_true])
  have hn0 := goMod_bd (Src.raw (sl, sa)) (most + 1) (by omega)
  have hs := Src.step_pos (sl, sa) h1
  have hv : chsV (sl, sa) most = chX (goMod (Src.raw (sl, sa)) (most + 1)).toNat (Src.step (sl, sa)) 0 := rfl
  generalize goMod (Src.raw (sl, sa)) (most + 1) = n0 at hn0 hv ⊢
  generalize Src.step (sl, sa) = s1 at hs hv ⊢
  (repeat' (with_reducible (first | refine And.intro ?_ ?_ | intro _))) <;> (try (first | with_reducible (first | done | assumption | omega | contradiction) | decide))
  refine evk_loop ⟨{ q : Src × Int × Nat × List Int // 0 ≤ q.1.2 ∧ 0 ≤ q.2.1 ∧ q.2.1 ≤ 2 * (n0 - q.2.2.1) ∧ q.2.2.2.length + q.2.2.1 ≤ n0.toNat ∧ chX n0.toNat s1 0 = (q.2.2.2 ++ (chX q.2.2.1 q.1 q.2.1).1, (chX q.2.2.1 q.1 q.2.1).2) }, 1000,
   fun q => [(0, .one (.loc 0 0)), (5, .one (.row 64)), (6, .one (.int .i64 q.1.2.1)), (7, .one (.int .i64 q.1.2.2.1))],
   fun q => [(0, .cells 54 [.sl (.int .i64) q.1.1.1 false, .int .i64 q.1.1.2]), (64, .row 3 (.int .i64) q.1.2.2.2)], fun q => q.1.2.2.1⟩
   ⟨(s1, 0, n0.toNat, []), hs, by simp, by simp only; omega, by simp, by simp⟩ ?_ ?_
  · simp only [go_sem]
    first
     | rfl
     | omega
  · rintro ⟨⟨⟨ql, qa⟩, k, i, out⟩, (c1 : 0 ≤ qa), (c2 : 0 ≤ k), (c3 : k ≤ 2 * (n0 - i)), (c5 : out.length + i ≤ n0.toNat), (c6 : chX n0.toNat s1 0 = (out ++ (chX i (ql, qa) k).1, (chX i (ql, qa) k).2))⟩
    (simp -implicitDefEqProofs (maxSteps := 4000000) only [go_sem, Bool.not_eq_true', Bool.not_eq_false', Bool.or_eq_true, Bool.or_eq_false_iff, Bool.and_eq_true, Bool.and_eq_false_iff, decide_eq_true_eq, decide_eq_false_iff_not, Classical.not_not, not_or, maxLen, con8, con10, hT, hG, hk, hK, Try.results8]); (try simp (disch := decide +kernel) only [drawn, true_and, and_true])
    have b3 := goMod_bd (Src.raw (ql, qa)) 2 (by omega)
    have p1 := Src.step_pos (ql, qa) c1
    refine ⟨fun hc => ?_, fun hc => ?_⟩
    · obtain ⟨j, rfl⟩ : ∃ j, i = j + 1 := ⟨i - 1, by omega⟩
      rw [chX] at c6
      (repeat' (with_reducible (first | refine And.intro ?_ ?_ | intro _))) <;> (try (first | with_reducible (first | done | assumption | omega | contradiction) | decide))
      refine fin_lp ⟨(Src.step (ql, qa), k + (1 + goMod (Src.raw (ql, qa)) 2), j, out ++ [k + (1 + goMod (Src.raw (ql, qa)) 2)]), p1, by dsimp only; omega, by dsimp only; omega, by rw [List.length_append]; simp only [List.length_singleton]; omega, by dsimp only; rw [c6]; simp⟩ (by simp only [go_sem]; first | rfl | ((repeat' apply And.intro) <;> first | rfl | assumption | omega)) (by dsimp only; omega)
    · obtain rfl : i = 0 := by omega
      rw [chX] at c6
      rw [hv, c6]
      exact ⟨rfl, rfl, by simp⟩)
def oldL (wild : Bool) : List All → Src → List All × Src
 | [], s => ([], s)
 | a :: l, s => if goMod s.raw 6 = 5 then oldL wild l s.step
   else if wild = true then
    (if goMod s.step.raw 3 = 2 then ((a.1, goMod s.step.step.raw 7) :: (oldL wild l s.step.step.step).1, (oldL wild l s.step.step.step).2)
     else (a :: (oldL wild l s.step.step).1, (oldL wild l s.step.step).2))
   else (a :: (oldL wild l s.step).1, (oldL wild l s.step).2)
theorem oldL_pos (wild : Bool) : ∀ (l : List All) (s : Src), 0 ≤ s.2 → 0 ≤ (oldL wild l s).2.2
 | [], _, h => h
 | a :: l, s, h => by
   have p1 := Src.step_pos s h
   have p2 := Src.step_pos _ p1
   have p3 := Src.step_pos _ p2
   have h1 := oldL_pos wild l s.step p1
   have h2 := oldL_pos wild l s.step.step p2
   have h3 := oldL_pos wild l s.step.step.step p3
   unfold oldL
   (repeat' split) <;> assumption
def oldV (s : Src) (l : List Dep) (wild : Bool) : List All × Src := oldL wild (refP l [1, 2, 3, 4, 5, 6]).1.1 s
theorem stepR_len (cs : List Int) (D : List Dep) (p : List All) (d : Dep) : (stepR cs D p d).length ≤ p.length + 1 := by
 unfold stepR
 split
 · rw [placeV_len]; omega
 · omega
theorem refG_len (cs : List Int) : ∀ (ds D : List Dep) (p : List All), (refG cs D ds p).length ≤ p.length + ds.length
 | [], _, p => Nat.le_refl _
 | d :: ds, D, p => by
   have h1 := refG_len cs ds (D ++ [d]) (stepR cs D p d)
   have h2 := stepR_len cs D p d
   unfold refG
   simp only [List.length_cons]; omega
theorem refP_len (l : List Dep) (cs : List Int) : (refP l cs).1.1.length ≤ l.length := by
 unfold refP
 split
 · exact Nat.zero_le _
 · split
   · exact Nat.zero_le _
   · have h1 := refG_len cs (isort (planV l)) [] []
     have h2 := isort_len (planV l)
     have h3 := planV_len l
     simp only [List.length_nil] at h1
     show (refG cs [] (isort (planV l)) []).length ≤ l.length
     omega
def con9 : Con := { ps := [.p 54 ySR, .d false (.sl yDP), .d false .bool], rs := [.d false (.sl (.pair yFL (.int .i64)))], pre := fun (x : Src × List Dep × Bool × Unit) => 0 ≤ x.1.2 ∧ x.2.1.length ≤ 1000, out := fun (x : Src × List Dep × Bool × Unit) => ((oldV x.1 x.2.1 x.2.2.1).1, ()), nw := fun (x : Src × List Dep × Bool × Unit) => ((oldV x.1 x.2.1 x.2.2.1).2, x.2) }
theorem c9 : CtrOk Try.prog 9 con9.ctr :=
 con_sound (G := ⟨[(10, con10.ctr), (23, con23.ctr)], [], [(35, 4)], [], []⟩) tab_ok (EnvOk.cons c10 has10 (EnvOk.cons c23 has23 EnvOk.nil)) rfl Try.func9 rfl con9 139593780935 (by kernel_rfl) (by decide) (by decide) rfl (by decide) rfl (by
  rintro ⟨⟨(s : List Int), (a : Int)⟩, (l : List Dep), (wild : Bool), _⟩ hpre hwf X hT hG hk hK
  obtain ⟨h1, h2⟩ : 0 ≤ a ∧ l.length ≤ 1000 := hpre
  (simp -implicitDefEqProofs (maxSteps := 4000000) only [go_sem, Bool.not_eq_true', Bool.not_eq_false', Bool.or_eq_true, Bool.or_eq_false_iff, Bool.and_eq_true, Bool.and_eq_false_iff, decide_eq_true_eq, decide_eq_false_iff_not, Classical.not_not, not_or, maxLen, con9, con10, con23, hT, hG, hk, hK, Try.results9] at hwf ⊢); (try simp (disch := decide +kernel) only [drawn, true_and, and_true])
  clear hwf
  have hpl := refP_len l [1, 2, 3, 4, 5, 6]
  have hV : oldV (s, a) l wild = oldL wild (refP l [1, 2, 3, 4, 5, 6]).1.1 (s, a) := rfl
  generalize refP l [1, 2, 3, 4, 5, 6] = R at hpl hV ⊢
  obtain ⟨⟨P, (T : Int), C⟩, (E : Int)⟩ := R
  simp only at hpl hV ⊢
  refine ⟨by omega, fun _ _ => ?_⟩
  refine evk_loop ⟨{ q : Src × Nat × List All // 0 ≤ q.1.2 ∧ q.2.1 ≤ P.length ∧ q.2.2.length ≤ q.2.1 ∧ oldL wild P (s, a) = (q.2.2 ++ (oldL wild (P.drop q.2.1) q.1).1, (oldL wild (P.drop q.2.1) q.1).2) }, 1000,
   fun q => [(0, .one (.loc 0 0)), (2, .one (.bool wild)), (7, .one (.loc 64 0)), (9, .one (.row 65)), (20, .one (.int .i64 P.length)), (21, .one (.int .i64 q.1.2.1))],
   fun q => [(0, .cells 54 [.sl (.int .i64) q.1.1.1 false, .int .i64 q.1.1.2]), (64, .cells 58 [.sl (.pair yFL (.int .i64)) P false, .int .i64 T, .sl yFL C false]), (65, .row 44 (.pair yFL (.int .i64)) q.1.2.2)], fun q => P.length - q.1.2.1⟩
   ⟨((s, a), 0, []), h1, Nat.zero_le _, Nat.le_refl _, rfl⟩ ?_ ?_
  · simp only [go_sem]
    try rfl
  · rintro ⟨⟨⟨ql, (qa : Int)⟩, i, acc⟩, (c1 : 0 ≤ qa), (c2 : i ≤ P.length), (c3 : acc.length ≤ i), (c4 : oldL wild P (s, a) = (acc ++ (oldL wild (P.drop i) (ql, qa)).1, (oldL wild (P.drop i) (ql, qa)).2))⟩
    have p1 := Src.step_pos (ql, qa) c1
    have p2 := Src.step_pos _ p1
    have p3 := Src.step_pos _ p2
    by_cases hi' : i < P.length
    · have ek : ∀ z, P.getD (i : Int).toNat z = P[i] := fun z => by simp [hi']
      rw [List.drop_eq_getElem_cons hi', oldL] at c4
      have hfin : ∀ (s1 : Src) (o : List All), 0 ≤ s1.2 → o.length ≤ 1 → oldL wild P (s, a) = (acc ++ (o ++ (oldL wild (P.drop (i + 1)) s1).1), (oldL wild (P.drop (i + 1)) s1).2) →
       0 ≤ s1.2 ∧ i + 1 ≤ P.length ∧ (acc ++ o).length ≤ i + 1 ∧ oldL wild P (s, a) = ((acc ++ o) ++ (oldL wild (P.drop (i + 1)) s1).1, (oldL wild (P.drop (i + 1)) s1).2) := fun s1 o h1 h2 h3 =>
       ⟨h1, by omega, by rw [List.length_append]; omega, by rw [h3, List.append_assoc]⟩
      cases wild
      · (simp -implicitDefEqProofs (maxSteps := 4000000) only [go_sem, Bool.not_eq_true', Bool.not_eq_false', Bool.or_eq_true, Bool.or_eq_false_iff, Bool.and_eq_true, Bool.and_eq_false_iff, decide_eq_true_eq, decide_eq_false_iff_not, Classical.not_not, not_or, maxLen, con9, con10, con23, hT, hG, hk, hK, Try.results9]); (try simp (disch := decide +kernel) only [drawn, true_and, and_true])
        simp only [ek]
        (repeat' (with_reducible (first | refine And.intro ?_ ?_ | intro _))) <;> (try (first | with_reducible (first | done | assumption | omega | contradiction) | decide))
        all_goals first
         | (rw [if_pos (by assumption)] at c4
            refine fin_lp ⟨(Src.step (ql, qa), i + 1, acc), p1, hi', by dsimp only; omega, c4⟩ ?_ ?_
            · simp only [go_sem]
              first | rfl | exact ⟨rfl, by omega⟩ | omega
            · dsimp only; omega)
         | (rw [if_neg (by assumption), if_neg (by simp)] at c4
            refine fin_lp ⟨(Src.step (ql, qa), i + 1, acc ++ [P[i]]), hfin (Src.step (ql, qa)) [P[i]] p1 (Nat.le_refl _) c4⟩ ?_ ?_
            · simp only [go_sem]
              first | rfl | exact ⟨rfl, by omega⟩ | omega
            · dsimp only; omega)
         | fail
      · (simp -implicitDefEqProofs (maxSteps := 4000000) only [go_sem, Bool.not_eq_true', Bool.not_eq_false', Bool.or_eq_true, Bool.or_eq_false_iff, Bool.and_eq_true, Bool.and_eq_false_iff, decide_eq_true_eq, decide_eq_false_iff_not, Classical.not_not, not_or, maxLen, con9, con10, con23, hT, hG, hk, hK, Try.results9]); (try simp (disch := decide +kernel) only [drawn, true_and, and_true])
        simp only [ek]
        (repeat' (with_reducible (first | refine And.intro ?_ ?_ | intro _))) <;> (try (first | with_reducible (first | done | assumption | omega | contradiction) | decide))
        all_goals first
         | (rw [if_pos (by assumption)] at c4
            refine fin_lp ⟨(Src.step (ql, qa), i + 1, acc), p1, hi', by dsimp only; omega, c4⟩ ?_ ?_
            · simp only [go_sem]
              first | rfl | exact ⟨rfl, by omega⟩ | omega
            · dsimp only; omega)
         | (rw [if_neg (by assumption), if_pos rfl, if_pos (by assumption)] at c4
            refine fin_lp ⟨((Src.step (ql, qa)).step.step, i + 1, acc ++ [(P[i].1, goMod (Src.step (ql, qa)).step.raw 7)]), hfin _ [(P[i].1, goMod (Src.step (ql, qa)).step.raw 7)] p3 (Nat.le_refl _) c4⟩ ?_ ?_
            · simp only [go_sem]
              first | rfl | exact ⟨rfl, by omega⟩ | omega
            · dsimp only; omega)
         | (rw [if_neg (by assumption), if_pos rfl, if_neg (by assumption)] at c4
            refine fin_lp ⟨((Src.step (ql, qa)).step, i + 1, acc ++ [P[i]]), hfin _ [P[i]] p2 (Nat.le_refl _) c4⟩ ?_ ?_
            · simp only [go_sem]
              first | rfl | exact ⟨rfl, by omega⟩ | omega
            · dsimp only; omega)
         | fail
    · rw [List.drop_of_length_le (by omega), oldL] at c4
      cases wild
      · (simp -implicitDefEqProofs (maxSteps := 4000000) only [go_sem, Bool.not_eq_true', Bool.not_eq_false', Bool.or_eq_true, Bool.or_eq_false_iff, Bool.and_eq_true, Bool.and_eq_false_iff, decide_eq_true_eq, decide_eq_false_iff_not, Classical.not_not, not_or, maxLen, con9, con10, con23, hT, hG, hk, hK, Try.results9]); (try simp (disch := decide +kernel) only [drawn, true_and, and_true])
        refine ⟨fun h => absurd h (by omega), fun _ => ?_⟩
        rw [hV, c4]
        exact ⟨rfl, rfl, (List.append_nil _).symm⟩
      · (simp -implicitDefEqProofs (maxSteps := 4000000) only [go_sem, Bool.not_eq_true', Bool.not_eq_false', Bool.or_eq_true, Bool.or_eq_false_iff, Bool.and_eq_true, Bool.and_eq_false_iff, decide_eq_true_eq, decide_eq_false_iff_not, Classical.not_not, not_or, maxLen, con9, con10, con23, hT, hG, hk, hK, Try.results9]); (try simp (disch := decide +kernel) only [drawn, true_and, and_true])
        refine ⟨fun h => absurd h (by omega), fun _ => ?_⟩
        rw [hV, c4]
        exact ⟨rfl, rfl, (List.append_nil _).symm⟩)
end Go.Proofs.Ytfaoonbnbdlgaaa

/- The sanity check of the chapter on repairs. -/
set_option linter.unusedSimpArgs false
set_option linter.unusedVariables false
set_option maxRecDepth 100000
set_option maxHeartbeats 8000000
namespace Go.Proofs.Ytfaoonbnbdlgaaa
open Go.Ev

theorem cmpS_self (a : ByteArray) : cmpS a a = 0 := (cmpS_cmp.eq a a).2 rfl
def f0 : Flt := (⟨#[66, 65]⟩, 1, ByteArray.empty, 1)
def f1 : Flt := (⟨#[66, 65]⟩, 1, ByteArray.empty, 2)
def pairV : List Dep := [day1 0 10, day1 1 15]
def con39 : Con := { ps := [], rs := [.d false (.sl yDP)], pre := fun _ => True, out := fun _ => (pairV, ()), nw := id }
theorem c39 : CtrOk Try.prog 39 con39.ctr :=
 con_sound (G := ⟨[(21, con21.ctr)], [], [], [], []⟩) tab_ok (EnvOk.cons c21 has21 EnvOk.nil) rfl Try.func39 rfl con39 255 (by kernel_rfl) (by decide) (by decide) rfl (by decide) rfl (by
  rintro _ hpre hwf X hT hG hk hK
  (simp -implicitDefEqProofs (maxSteps := 4000000) only [go_sem, Bool.not_eq_true', Bool.not_eq_false', Bool.or_eq_true, Bool.or_eq_false_iff, Bool.and_eq_true, Bool.and_eq_false_iff, decide_eq_true_eq, decide_eq_false_iff_not, Classical.not_not, not_or, maxLen, con39, con21, hT, hG, hk, hK, Try.results39] at hwf ⊢); (try simp (disch := decide +kernel) only [drawn, true_and, and_true])
  refine fun _ => evk_loop ⟨{ i : Nat // i ≤ 2 }, 1000, fun i => [(1, .one (.row 64)), (4, .one (.row 96)), (5, .one (.int .i64 2)), (6, .one (.int .i64 i.1))],
   fun i => [(64, .row 42 yDP (pairV.take i.1)), (96, .row 3 (.int .i64) [10, 15])], fun i => 2 - i.1⟩ ⟨0, by omega⟩ ?_ ?_
  · simp only [go_sem]
    exact ⟨rfl, rfl⟩
  · rintro ⟨i, (hi : i ≤ 2)⟩
    (simp -implicitDefEqProofs (maxSteps := 4000000) only [go_sem, Bool.not_eq_true', Bool.not_eq_false', Bool.or_eq_true, Bool.or_eq_false_iff, Bool.and_eq_true, Bool.and_eq_false_iff, decide_eq_true_eq, decide_eq_false_iff_not, Classical.not_not, not_or, maxLen, con39, con21, hT, hG, hk, hK, Try.results39]); (try simp (disch := decide +kernel) only [drawn, true_and, and_true])
    have hl : (pairV.take i).length ≤ 2 := by rw [List.length_take]; exact Nat.le_trans (Nat.min_le_right _ _) (by decide)
    have hs : i < 2 → pairV.take (i + 1) = pairV.take i ++ [(fltsV i, ⟨#[67, 80, 72]⟩, ([10, 15] : List Int).getD (i : Int).toNat 0, ([10, 15] : List Int).getD (i : Int).toNat 0 + 10, ([10, 15] : List Int).getD (i : Int).toNat 0 + 12, 0, 0)] := fun h => by
     rcases (by omega : i = 0 ∨ i = 1) with rfl | rfl <;> rfl
    have hg : i < 2 → 10 ≤ ([10, 15] : List Int).getD (i : Int).toNat 0 ∧ ([10, 15] : List Int).getD (i : Int).toNat 0 ≤ 20 := fun h => by
     rcases (by omega : i = 0 ∨ i = 1) with rfl | rfl <;> decide
    generalize ([10, 15] : List Int).getD (i : Int).toNat 0 = t at hs hg ⊢
    (repeat' (with_reducible (first | refine And.intro ?_ ?_ | intro _))) <;> (try (first | with_reducible (first | done | assumption | omega | contradiction) | decide))
    · have h3 : i < 2 := by omega
      have := hg h3
      (repeat' (with_reducible (first | refine And.intro ?_ ?_ | intro _))) <;> (try (first | with_reducible (first | done | assumption | omega | contradiction) | decide))
      refine fin_lp ⟨i + 1, by omega⟩ ?_ ?_
      · simp only [go_sem]
        rw [hs h3]
        exact ⟨rfl, rfl⟩
      · dsimp only; omega
    · rw [List.take_of_length_le (by show 2 ≤ i; omega)])
theorem pair_valid : validateV pairV = 0 := by
 have v0 : validV (day1 0 10) = true := by decide +kernel
 have v1 : validV (day1 1 15) = true := by decide +kernel
 have c1 : fltC f0 f1 = -1 := by simp [fltC, f0, f1, cmpS_self, orV, cmpV]
 have d1 : fltC (day1 0 10).1 (day1 1 15).1 = -1 := c1
 unfold validateV pairV
 simp [valF, v0, v1, d1]
def oldP : List All := [(f0, 1), (f1, 1)]
theorem pair_args (t : Int) : argR pairV [1, 2] t = 0 := by
 unfold argR
 have h1 : actN pairV t ≤ 2 := actN_le pairV t
 have h2 : ([1, 2] : List Int).length = 2 := rfl
 rw [if_neg (by rw [pair_valid]; decide), if_neg (by rw [h2]; omega), if_neg (by decide), if_neg (by decide)]
theorem pair_fix5 : fixV pairV [1, 2] oldP 5 = [] := by decide +kernel
theorem pair_fix16 : fixV pairV [1, 2] oldP 16 = oldP := by decide +kernel
theorem pair_need : needV pairV [1, 2] oldP [] 5 = [(f0, 10, 20, 0, false), (f1, 15, 25, 0, false)] := by decide +kernel
theorem pair_ls : lsV [(f0, 10, 20, 0, false), (f1, 15, 25, 0, false)] 2 st0 = 1 := by decide +kernel
theorem pair_all : allR [(f0, 10, 20, 0, false), (f1, 15, 25, 0, false)] [1, 2] (pathR [(f0, 10, 20, 0, false), (f1, 15, 25, 0, false)] 2) = [(f0, 1), (f1, 2)] := by decide +kernel
theorem pair_sort : sortAl [(f0, 1), (f1, 2)] = [(f0, 1), (f1, 2)] := by
 have c1 : fltC f1 f0 = 1 := by simp [fltC, f0, f1, cmpS_self, orV, cmpV]
 refine (sortAl_eq ?_ (List.Perm.refl _) ?_).symm
 · decide +kernel
 · rw [List.pairwise_pair]
   rw [c1]; decide
theorem pair_rep5 : repV pairV [1, 2] oldP 5 = ([(f0, 1), (f1, 2)], 0) := by
 unfold repV
 have h2 : ([1, 2] : List Int).length = 2 := rfl
 rw [pair_args, pair_fix5, pair_need, h2, pair_ls, pair_all, pair_sort]
 decide +kernel
theorem pair_rep16 : repV pairV [1, 2] oldP 16 = ([], 7) := by
 unfold repV
 rw [pair_args, pair_fix16]
 decide +kernel
theorem pair_mov : movV [1, 2] oldP [(f0, 1), (f1, 2)] = [f1] := by decide +kernel
def con13 : Con := { ps := [], rs := [.d false .bool], pre := fun _ => True, out := fun _ => (true, ()), nw := id }
theorem c13 : CtrOk Try.prog 13 con13.ctr :=
 con_sound (G := ⟨[(39, con39.ctr), (11, con11.ctr), (18, con18.ctr)], [], [], [], []⟩) tab_ok (EnvOk.cons c39 has39 (EnvOk.cons c11 has11 (EnvOk.cons c18 has18 EnvOk.nil))) rfl Try.func13 rfl con13 223 (by kernel_rfl) (by decide) (by decide) rfl (by decide) rfl (by
  rintro _ hpre hwf X hT hG hk hK
  have hlen : pairV.length = 2 := rfl
  have e1 : ∀ z, pairV.getD (Int.toNat 0) z = day1 0 10 := fun z => rfl
  have e2 : ∀ z, pairV.getD (Int.toNat 1) z = day1 1 15 := fun z => rfl
  have e1' : ∀ z, pairV.getD 0 z = day1 0 10 := fun z => rfl
  have e3 : (day1 0 10).1 = f0 := rfl
  have e4 : (day1 1 15).1 = f1 := rfl
  have e5 : [(f0, (1 : Int)), (f1, (1 : Int))] = oldP := rfl
  have q0 : ∀ z, [(f0, (1 : Int)), (f1, (2 : Int))].getD 0 z = (f0, 1) := fun z => rfl
  have q1 : ∀ z, [(f0, (1 : Int)), (f1, (2 : Int))].getD (Int.toNat 1) z = (f1, 2) := fun z => rfl
  have q2 : ∀ z, [f1].getD 0 z = f1 := fun z => rfl
  (simp -implicitDefEqProofs (maxSteps := 4000000) only [go_sem, Bool.not_eq_true', Bool.not_eq_false', Bool.or_eq_true, Bool.or_eq_false_iff, Bool.and_eq_true, Bool.and_eq_false_iff, decide_eq_true_eq, decide_eq_false_iff_not, Classical.not_not, not_or, maxLen, con13, con39, con11, con18, hT, hG, hk, hK, Try.results13, hlen, e1, e2, e1', e3, e4, e5, pair_rep5, pair_rep16, pair_mov, q0, q1, q2, Int.cast_ofNat_Int, Int.reduceEq, and_self, true_implies, and_true, true_and, Int.reduceLT, Int.le_refl, Int.reduceLE] at hwf ⊢); (try simp (disch := decide +kernel) only [drawn, true_and, and_true])
  clear hwf
  (repeat' (with_reducible (first | refine And.intro ?_ ?_ | intro _))) <;> (try (first | with_reducible (first | done | assumption | omega | contradiction) | decide))
  all_goals fail)
end Go.Proofs.Ytfaoonbnbdlgaaa
