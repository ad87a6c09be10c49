/- The contracts of the reference's functions of the chapter on repairs. -/
import Derived.Test.YtdeihcabmpcaoaaGreatRlEToRRp
set_option linter.unusedSimpArgs false
set_option linter.unusedVariables false
set_option maxRecDepth 100000
set_option maxHeartbeats 8000000
namespace Go.Proofs.YtdeihcabmpcaoaaGreat
open Go.Ev

def opn (t : Int) (d : Dep) : Dep := (d.1, d.2.1, (if t > d.2.2.1 then t else d.2.2.1), d.2.2.2)
def rawA (l : List Dep) (t : Int) : List Dep := (l.filter (fun d => !closedV d t)).map (opn t)
theorem rawA_snoc (l : List Dep) (t : Int) (d : Dep) : rawA (l ++ [d]) t = if closedV d t = true then rawA l t else rawA l t ++ [opn t d] := by
 unfold rawA
 rw [List.filter_append]
 cases h : closedV d t <;> simp [h]
theorem rawA_len (l : List Dep) (t : Int) : (rawA l t).length = actN l t := by
 unfold rawA actN
 rw [List.length_map, List.countP_eq_length_filter]
def actV (l : List Dep) (t : Int) : List Dep := isort (rawA l t)
theorem actV_len (l : List Dep) (t : Int) : (actV l t).length = actN l t := by unfold actV; rw [isort_len, rawA_len]
def con13 : Con := { ps := [.d false (.sl yDP), .d false (.int .i64)], rs := [.o 52 yDP], pre := fun (x : List Dep × Int × Unit) => x.1.length ≤ 1000, out := fun (x : List Dep × Int × Unit) => (actV x.1 x.2.1, ()), nw := id }
theorem c13 : CtrOk Tryz.prog 13 con13.ctr :=
 con_sound (G := ⟨[(43, con43.ctr), (44, con44.ctr)], [], [], [], []⟩) tab_ok (EnvOk.cons c43 has43 (EnvOk.cons c44 has44 EnvOk.nil)) rfl Tryz.func13 rfl con13 268437747 (by kernel_rfl) (by decide) (by decide) rfl (by decide) rfl (by
  rintro ⟨(l : List Dep), (t : Int), _⟩ hpre hwf X hT hG hk hK
  have hl : l.length ≤ 1000 := hpre
  (simp -implicitDefEqProofs (maxSteps := 4000000) only [go_sem, Bool.not_eq_true', Bool.not_eq_false', Bool.or_eq_true, Bool.or_eq_false_iff, Bool.and_eq_true, Bool.and_eq_false_iff, decide_eq_true_eq, decide_eq_false_iff_not, Classical.not_not, not_or, maxLen, con13, con43, con44, hT, hG, hk, hK, Tryz.results13] at hwf ⊢); (try simp (disch := decide +kernel) only [drawn, true_and, and_true])
  clear hwf
  refine evk_loop ⟨{ i : Nat // i ≤ l.length }, 1000, fun i => [(0, .one (.sl yDP l false)), (1, .one (.int .i64 t)), (5, .one (.row 64)), (6, .one (.int .i64 i.1))], fun i => [(64, .row 52 yDP (rawA (l.take i.1) t))], fun i => l.length - i.1⟩ ⟨0, Nat.zero_le _⟩ ?_ ?_
  · simp only [go_sem]
    exact ⟨rfl, rfl⟩
  · rintro ⟨i, (hi : i ≤ l.length)⟩
    (simp -implicitDefEqProofs (maxSteps := 4000000) only [go_sem, Bool.not_eq_true', Bool.not_eq_false', Bool.or_eq_true, Bool.or_eq_false_iff, Bool.and_eq_true, Bool.and_eq_false_iff, decide_eq_true_eq, decide_eq_false_iff_not, Classical.not_not, not_or, maxLen, con13, con43, con44, hT, hG, hk, hK, Tryz.results13]); (try simp (disch := decide +kernel) only [drawn, true_and, and_true])
    refine fun hlm => ⟨fun hlt => ?_, fun hge => ?_⟩
    · have hi' : i < l.length := by omega
      have ek : ∀ z, l.getD (i : Int).toNat z = l[i] := fun z => by simp [hi']
      simp only [ek]
      have hst := rawA_snoc (l.take i) t l[i]
      rw [← List.take_succ_eq_append_getElem hi'] at hst
      have hlen : (rawA (l.take i) t).length ≤ i := by
       rw [rawA_len]; have := actN_le (l.take i) t; rw [List.length_take] at this; omega
      refine ⟨by omega, fun _ _ => ⟨fun _ => by omega, fun _ _ => ⟨fun h => ⟨by omega, fun _ _ => ⟨by omega, by omega, ?_⟩⟩, fun h => ⟨by omega, ?_⟩⟩⟩⟩
      · refine fin_lp ⟨i + 1, by omega⟩ ?_ ?_
        · simp only [go_sem]
          rw [hst.trans (if_neg (by rw [h.2]; simp))]
          exact ⟨rfl, by omega⟩
        · dsimp only; omega
      · have hc : closedV l[i] t = true := by
         rcases h with h | h
         · unfold closedV Dep.state
           rw [decide_eq_false h]; rfl
         · exact h
        refine fin_lp ⟨i + 1, by omega⟩ ?_ ?_
        · simp only [go_sem]
          rw [hst.trans (if_pos hc)]
          exact ⟨rfl, by omega⟩
        · dsimp only; omega
    · rw [List.take_of_length_le (by omega)]
      exact ⟨by rw [rawA_len]; have := actN_le l t; omega, fun _ => rfl⟩)
def con14 : Con := { ps := [.d false (.sl (.int .i64)), .d false (.int .i64)], rs := [.d false .bool], pre := fun _ => True, out := fun x => (x.1.any (fun y : Int => decide (x.2.1 = y)), ()), nw := id }
theorem c14 : CtrOk Tryz.prog 14 con14.ctr :=
 con_sound (G := ⟨[], [], [], [], []⟩) tab_ok EnvOk.nil rfl Tryz.func14 rfl con14 131635 (by kernel_rfl) (by decide) (by decide) rfl (by decide) rfl (by
  rintro ⟨(l : List Int), (f : Int), _⟩ hpre hwf X hT hG hk hK
  (simp -implicitDefEqProofs (maxSteps := 4000000) only [go_sem, Bool.not_eq_true', Bool.not_eq_false', Bool.or_eq_true, Bool.or_eq_false_iff, Bool.and_eq_true, Bool.and_eq_false_iff, decide_eq_true_eq, decide_eq_false_iff_not, Classical.not_not, not_or, maxLen, con14, hT, hG, hk, hK, Tryz.results14] at hwf ⊢); (try simp (disch := decide +kernel) only [drawn, true_and, and_true])
  refine evk_loop ⟨{ i : Nat // i ≤ l.length ∧ l.any (fun y : Int => decide (f = y)) = (l.drop i).any (fun y : Int => decide (f = y)) }, 1000, fun i => [(0, .one (.sl (.int .i64) l false)), (1, .one (.int .i64 f)), (5, .one (.int .i64 i.1))], fun _ => [], fun i => l.length - i.1⟩ ⟨0, by simp, by simp⟩ ?_ ?_
  · simp only [go_sem]
    rfl
  · rintro ⟨i, (hi : i ≤ l.length), (he : l.any (fun y : Int => decide (f = y)) = (l.drop i).any (fun y : Int => decide (f = y)))⟩
    (simp -implicitDefEqProofs (maxSteps := 4000000) only [go_sem, Bool.not_eq_true', Bool.not_eq_false', Bool.or_eq_true, Bool.or_eq_false_iff, Bool.and_eq_true, Bool.and_eq_false_iff, decide_eq_true_eq, decide_eq_false_iff_not, Classical.not_not, not_or, maxLen, con14, hT, hG, hk, hK, Tryz.results14]); (try simp (disch := decide +kernel) only [drawn, true_and, and_true])
    refine fun _ => ⟨fun hlt => ?_, fun hge => ?_⟩
    · have hi' : i < l.length := by omega
      have ek : ∀ z, l.getD (i : Int).toNat z = l[i] := fun z => by simp [hi']
      simp only [ek]
      rw [List.drop_eq_getElem_cons hi', List.any_cons] at he
      (repeat' (with_reducible (first | refine And.intro ?_ ?_ | intro _))) <;> (try (first | with_reducible (first | done | assumption | omega | contradiction) | decide))
      · rename_i h
        rw [he, decide_eq_true h.symm]; rfl
      · rename_i h
        refine fin_lp ⟨i + 1, by omega, by rw [he, decide_eq_false (fun k => h k.symm)]; rfl⟩ (by simp only [go_sem]; first | rfl | ((repeat' apply And.intro) <;> first | rfl | assumption | omega)) (by dsimp only; omega)
    · rw [he, List.drop_of_length_le (by omega)]
      rfl)
theorem home_spec (cs : List Int) (old : List All) (f : Flt) : (homeV cs old f = -1 ∧ ((chV old f).2 && inC cs (chV old f).1) = false) ∨
 ∃ k : Nat, k < cs.length ∧ homeV cs old f = k ∧ (chV old f).2 = true ∧ inC cs (chV old f).1 = true ∧ ∀ z, cs.getD k z = (chV old f).1 := by
 unfold homeV inC
 cases h : (chV old f).2
 · exact .inl ⟨rfl, rfl⟩
 · rcases idxF_spec (fun y : Int => decide ((chV old f).1 = y)) cs 0 (Int.le_refl 0) with ⟨h1, h2⟩ | ⟨k, hk, h1, h2, h3⟩
   · rw [if_pos rfl, h1]
     exact .inl ⟨rfl, rfl⟩
   · rw [if_pos rfl, h1]
     refine .inr ⟨k, hk, by omega, rfl, by simp, fun z => ?_⟩
     rw [List.getD_eq_getElem?_getD, List.getElem?_eq_getElem hk]
     exact (of_decide_eq_true h2).symm
def rvdV (l : List Dep) (cs : List Int) (old : List All) (t : Int) : Int :=
 if argR l cs t ≠ 0 then argR l cs t else if ¬ ((fixV l cs old t).map (fun a => a.2)).Nodup then 7 else 0
end Go.Proofs.YtdeihcabmpcaoaaGreat

/- The sanity check of the chapter on repairs. -/
set_option linter.unusedSimpArgs false
set_option linter.unusedVariables false
set_option maxRecDepth 100000
set_option maxHeartbeats 8000000
namespace Go.Proofs.YtdeihcabmpcaoaaGreat
open Go.Ev

theorem cmpS_self (a : ByteArray) : cmpS a a = 0 := (cmpS_cmp.eq a a).2 rfl
def f0 : Flt := (⟨#[66, 65]⟩, 1, ByteArray.empty, 1)
def f1 : Flt := (⟨#[66, 65]⟩, 1, ByteArray.empty, 2)
def pairV : List Dep := [day1 0 10, day1 1 15]
def con29 : Con := { ps := [], rs := [.d false (.sl yDP)], pre := fun _ => True, out := fun _ => (pairV, ()), nw := id }
theorem c29 : CtrOk Tryz.prog 29 con29.ctr :=
 con_sound (G := ⟨[(20, con20.ctr)], [], [], [], []⟩) tab_ok (EnvOk.cons c20 has20 EnvOk.nil) rfl Tryz.func29 rfl con29 255 (by kernel_rfl) (by decide) (by decide) rfl (by decide) rfl (by
  rintro _ hpre hwf X hT hG hk hK
  (simp -implicitDefEqProofs (maxSteps := 4000000) only [go_sem, Bool.not_eq_true', Bool.not_eq_false', Bool.or_eq_true, Bool.or_eq_false_iff, Bool.and_eq_true, Bool.and_eq_false_iff, decide_eq_true_eq, decide_eq_false_iff_not, Classical.not_not, not_or, maxLen, con29, con20, hT, hG, hk, hK, Tryz.results29] at hwf ⊢); (try simp (disch := decide +kernel) only [drawn, true_and, and_true])
  refine fun _ => evk_loop ⟨{ i : Nat // i ≤ 2 }, 1000, fun i => [(1, .one (.row 64)), (4, .one (.row 96)), (5, .one (.int .i64 2)), (6, .one (.int .i64 i.1))],
   fun i => [(64, .row 52 yDP (pairV.take i.1)), (96, .row 3 (.int .i64) [10, 15])], fun i => 2 - i.1⟩ ⟨0, by omega⟩ ?_ ?_
  · simp only [go_sem]
    exact ⟨rfl, rfl⟩
  · rintro ⟨i, (hi : i ≤ 2)⟩
    (simp -implicitDefEqProofs (maxSteps := 4000000) only [go_sem, Bool.not_eq_true', Bool.not_eq_false', Bool.or_eq_true, Bool.or_eq_false_iff, Bool.and_eq_true, Bool.and_eq_false_iff, decide_eq_true_eq, decide_eq_false_iff_not, Classical.not_not, not_or, maxLen, con29, con20, hT, hG, hk, hK, Tryz.results29]); (try simp (disch := decide +kernel) only [drawn, true_and, and_true])
    have hl : (pairV.take i).length ≤ 2 := by rw [List.length_take]; exact Nat.le_trans (Nat.min_le_right _ _) (by decide)
    have hs : i < 2 → pairV.take (i + 1) = pairV.take i ++ [(fltsV i, ⟨#[67, 80, 72]⟩, ([10, 15] : List Int).getD (i : Int).toNat 0, ([10, 15] : List Int).getD (i : Int).toNat 0 + 10, ([10, 15] : List Int).getD (i : Int).toNat 0 + 12, 0, 0)] := fun h => by
     rcases (by omega : i = 0 ∨ i = 1) with rfl | rfl <;> rfl
    have hg : i < 2 → 10 ≤ ([10, 15] : List Int).getD (i : Int).toNat 0 ∧ ([10, 15] : List Int).getD (i : Int).toNat 0 ≤ 20 := fun h => by
     rcases (by omega : i = 0 ∨ i = 1) with rfl | rfl <;> decide
    generalize ([10, 15] : List Int).getD (i : Int).toNat 0 = t at hs hg ⊢
    (repeat' (with_reducible (first | refine And.intro ?_ ?_ | intro _))) <;> (try (first | with_reducible (first | done | assumption | omega | contradiction) | decide))
    · have h3 : i < 2 := by omega
      have := hg h3
      (repeat' (with_reducible (first | refine And.intro ?_ ?_ | intro _))) <;> (try (first | with_reducible (first | done | assumption | omega | contradiction) | decide))
      refine fin_lp ⟨i + 1, by omega⟩ ?_ ?_
      · simp only [go_sem]
        rw [hs h3]
        exact ⟨rfl, rfl⟩
      · dsimp only; omega
    · rw [List.take_of_length_le (by show 2 ≤ i; omega)])
theorem pair_valid : validateV pairV = 0 := by
 have v0 : validV (day1 0 10) = true := by decide +kernel
 have v1 : validV (day1 1 15) = true := by decide +kernel
 have c1 : fltC f0 f1 = -1 := by simp [fltC, f0, f1, cmpS_self, orV, cmpV]
 have d1 : fltC (day1 0 10).1 (day1 1 15).1 = -1 := c1
 unfold validateV pairV
 simp [valF, v0, v1, d1]
def oldP : List All := [(f0, 1), (f1, 1)]
theorem pair_args (t : Int) : argR pairV [1, 2] t = 0 := by
 unfold argR
 have h1 : actN pairV t ≤ 2 := actN_le pairV t
 have h2 : ([1, 2] : List Int).length = 2 := rfl
 rw [if_neg (by rw [pair_valid]; decide), if_neg (by rw [h2]; omega), if_neg (by decide), if_neg (by decide)]
theorem pair_fix5 : fixV pairV [1, 2] oldP 5 = [] := by decide +kernel
theorem pair_fix16 : fixV pairV [1, 2] oldP 16 = oldP := by decide +kernel
theorem pair_need : needV pairV [1, 2] oldP [] 5 = [(f0, 10, 20, 0, false), (f1, 15, 25, 0, false)] := by decide +kernel
theorem pair_ls : lsV [(f0, 10, 20, 0, false), (f1, 15, 25, 0, false)] 2 st0 = 1 := by decide +kernel
theorem pair_all : allR [(f0, 10, 20, 0, false), (f1, 15, 25, 0, false)] [1, 2] (pathR [(f0, 10, 20, 0, false), (f1, 15, 25, 0, false)] 2) = [(f0, 1), (f1, 2)] := by decide +kernel
theorem pair_sort : sortAl [(f0, 1), (f1, 2)] = [(f0, 1), (f1, 2)] := by
 have c1 : fltC f1 f0 = 1 := by simp [fltC, f0, f1, cmpS_self, orV, cmpV]
 refine (sortAl_eq ?_ (List.Perm.refl _) ?_).symm
 · decide +kernel
 · rw [List.pairwise_pair]
   rw [c1]; decide
theorem pair_rep5 : repV pairV [1, 2] oldP 5 = ([(f0, 1), (f1, 2)], 0) := by
 unfold repV
 have h2 : ([1, 2] : List Int).length = 2 := rfl
 rw [pair_args, pair_fix5, pair_need, h2, pair_ls, pair_all, pair_sort]
 decide +kernel
theorem pair_rep16 : repV pairV [1, 2] oldP 16 = ([], 7) := by
 unfold repV
 rw [pair_args, pair_fix16]
 decide +kernel
theorem pair_mov : movV [1, 2] oldP [(f0, 1), (f1, 2)] = [f1] := by decide +kernel
def con8 : Con := { ps := [], rs := [.d false .bool], pre := fun _ => True, out := fun _ => (true, ()), nw := id }
theorem c8 : CtrOk Tryz.prog 8 con8.ctr :=
 con_sound (G := ⟨[(29, con29.ctr), (11, con11.ctr), (30, con30.ctr)], [], [], [], []⟩) tab_ok (EnvOk.cons c29 has29 (EnvOk.cons c11 has11 (EnvOk.cons c30 has30 EnvOk.nil))) rfl Tryz.func8 rfl con8 223 (by kernel_rfl) (by decide) (by decide) rfl (by decide) rfl (by
  rintro _ hpre hwf X hT hG hk hK
  have hlen : pairV.length = 2 := rfl
  have e1 : ∀ z, pairV.getD (Int.toNat 0) z = day1 0 10 := fun z => rfl
  have e2 : ∀ z, pairV.getD (Int.toNat 1) z = day1 1 15 := fun z => rfl
  have e1' : ∀ z, pairV.getD 0 z = day1 0 10 := fun z => rfl
  have e3 : (day1 0 10).1 = f0 := rfl
  have e4 : (day1 1 15).1 = f1 := rfl
  have e5 : [(f0, (1 : Int)), (f1, (1 : Int))] = oldP := rfl
  have q0 : ∀ z, [(f0, (1 : Int)), (f1, (2 : Int))].getD 0 z = (f0, 1) := fun z => rfl
  have q1 : ∀ z, [(f0, (1 : Int)), (f1, (2 : Int))].getD (Int.toNat 1) z = (f1, 2) := fun z => rfl
  have q2 : ∀ z, [f1].getD 0 z = f1 := fun z => rfl
  (simp -implicitDefEqProofs (maxSteps := 4000000) only [go_sem, Bool.not_eq_true', Bool.not_eq_false', Bool.or_eq_true, Bool.or_eq_false_iff, Bool.and_eq_true, Bool.and_eq_false_iff, decide_eq_true_eq, decide_eq_false_iff_not, Classical.not_not, not_or, maxLen, con8, con29, con11, con30, hT, hG, hk, hK, Tryz.results8, hlen, e1, e2, e1', e3, e4, e5, pair_rep5, pair_rep16, pair_mov, q0, q1, q2, Int.cast_ofNat_Int, Int.reduceEq, and_self, true_implies, and_true, true_and, Int.reduceLT, Int.le_refl, Int.reduceLE] at hwf ⊢); (try simp (disch := decide +kernel) only [drawn, true_and, and_true])
  clear hwf
  (repeat' (with_reducible (first | refine And.intro ?_ ?_ | intro _))) <;> (try (first | with_reducible (first | done | assumption | omega | contradiction) | decide))
  done)
end Go.Proofs.YtdeihcabmpcaoaaGreat

/- The plain law: the needs are the active departures; what a repair is. -/
set_option linter.unusedSimpArgs false
set_option linter.unusedVariables false
set_option maxRecDepth 100000
set_option maxHeartbeats 4000000
namespace Go.Proofs.YtdeihcabmpcaoaaGreat
open Go.Ev

theorem insN_map (f : Dep → Ned) (hf : ∀ d, (f d).frm = d.opens) (x : Dep) : ∀ l : List Dep, insN (f x) (l.map f) = (insV x l).map f
 | [] => rfl
 | y :: l => by
   simp only [List.map_cons, insN, insV, hf]
   by_cases h : x.opens < y.opens
   · rw [if_pos h, if_pos h]; rfl
   · rw [if_neg h, if_neg h, insN_map f hf x l]; rfl
theorem isortN_map (f : Dep → Ned) (hf : ∀ d, (f d).frm = d.opens) (l : List Dep) : isortN (l.map f) = (isort l).map f := by
 have key : ∀ (l acc : List Dep), (l.map f).foldl (fun acc x => insN x acc) (acc.map f) = (l.foldl (fun acc x => insV x acc) acc).map f := by
  intro l
  induction l with
  | nil => intro acc; rfl
  | cons x l ih =>
    intro acc
    simp only [List.map_cons, List.foldl_cons]
    rw [insN_map f hf, ih]
 exact key l []
/-- A need, as an active departure gives it. -/
def ndA (cs : List Int) (old fx : List All) (d : Dep) : Ned := (d.1, d.opens, d.closes, homeV cs old d.1, (chV fx d.1).2)
theorem need_act (l : List Dep) (cs : List Int) (old fx : List All) (t : Int) : needV l cs old fx t = (actV l t).map (ndA cs old fx) := by
 unfold needV actV
 rw [← isortN_map (ndA cs old fx) (fun d => rfl)]
 unfold rawN rawA
 rw [List.map_map]
 rfl
theorem act_mem {l : List Dep} {t : Int} {d : Dep} (h : d ∈ actV l t) : ∃ d0 ∈ l, closedV d0 t = false ∧ d = opn t d0 := by
 unfold actV at h
 have h := (isort_perm _).mem_iff.1 h
 unfold rawA at h
 obtain ⟨d0, h1, rfl⟩ := List.mem_map.1 h
 obtain ⟨h2, h3⟩ := List.mem_filter.1 h1
 exact ⟨d0, h2, by simpa using h3, rfl⟩
theorem mem_act {l : List Dep} {t : Int} {d : Dep} (h : d ∈ l) (hc : closedV d t = false) : opn t d ∈ actV l t := by
 unfold actV
 refine (isort_perm _).mem_iff.2 ?_
 unfold rawA
 exact List.mem_map_of_mem (List.mem_filter.2 ⟨h, by rw [hc]; rfl⟩)
theorem opn_opens (t : Int) (d : Dep) : (opn t d).opens = max d.opens t := by
 show (if t > d.2.2.1 then t else d.2.2.1) = max d.2.2.1 t
 split <;> omega
theorem act_time {l : List Dep} {t : Int} (hv : ∀ d ∈ l, validV d = true) {d : Dep} (h : d ∈ actV l t) : 0 ≤ d.opens ∧ d.opens < d.closes ∧ t ≤ d.opens ∧ t < d.closes ∧ d.state = 0 ∧ d.closes ≤ 1048576 := by
 obtain ⟨d0, h1, h2, rfl⟩ := act_mem h
 have h3 := validV_times (hv d0 h1)
 have h4 := closed_not h2
 have h5 := opn_opens t d0
 have h6 : (opn t d0).closes = d0.closes := rfl
 have h7 : (opn t d0).state = d0.state := rfl
 omega
theorem act_flts {l : List Dep} {t : Int} (hn : (l.map (fun d => d.1)).Nodup) : ((actV l t).map (fun d => d.1)).Nodup := by
 unfold actV
 refine ((isort_perm _).map (fun d => d.1)).nodup_iff.2 ?_
 unfold rawA
 rw [List.map_map]
 exact ((List.filter_sublist (l := l)).map (fun d : Dep => d.1)).nodup hn
theorem act_sorted (l : List Dep) (t : Int) : (actV l t).Pairwise (fun a b => a.opens ≤ b.opens) := isort_sorted _
theorem nodup_uniq {α β : Type} {f : α → β} : ∀ {l : List α}, (l.map f).Nodup → ∀ {a b : α}, a ∈ l → b ∈ l → f a = f b → a = b
 | [], _, a, _, ha, _, _ => by cases ha
 | x :: l, h, a, b, ha, hb, e => by
   rw [List.map_cons, List.nodup_cons] at h
   rcases List.mem_cons.1 ha with e1 | ha <;> rcases List.mem_cons.1 hb with e2 | hb
   · rw [e1, e2]
   · exact absurd (show f x ∈ l.map f by rw [← e1, e]; exact List.mem_map_of_mem hb) h.1
   · exact absurd (show f x ∈ l.map f by rw [← e2, ← e]; exact List.mem_map_of_mem ha) h.1
   · exact nodup_uniq h.2 ha hb e
theorem chV_in : ∀ {l : List All} {f : Flt}, (chV l f).2 = true → (f, (chV l f).1) ∈ l
 | [], f, h => by cases h
 | a :: l, f, h => by
   unfold chV at h ⊢
   by_cases e : a.1 = f
   · rw [if_pos e]; subst e; exact List.mem_cons_self
   · rw [if_neg e] at h ⊢; exact List.mem_cons_of_mem _ (chV_in h)
theorem chV_mem : ∀ {l : List All}, (l.map (fun a => a.1)).Nodup → ∀ {a : All}, a ∈ l → chV l a.1 = (a.2, true)
 | [], _, a, ha => by cases ha
 | x :: l, h, a, ha => by
   rw [List.map_cons, List.nodup_cons] at h
   unfold chV
   rcases List.mem_cons.1 ha with rfl | ha
   · rw [if_pos rfl]
   · have : ¬ x.1 = a.1 := fun e => h.1 (e ▸ List.mem_map_of_mem ha)
     rw [if_neg this]
     exact chV_mem h.2 ha
theorem fix_keys {l : List Dep} {cs : List Int} {old : List All} {t : Int} (hn : (l.map (fun d => d.1)).Nodup) : ((fixV l cs old t).map (fun a => a.1)).Nodup := by
 unfold fixV
 rw [List.map_map]
 exact ((List.filter_sublist (l := l)).map (fun d : Dep => d.1)).nodup hn
theorem fix_mem {l : List Dep} {cs : List Int} {old : List All} {t : Int} {a : All} (h : a ∈ fixV l cs old t) : ∃ d ∈ l, fixB cs old t d = true ∧ a = (d.1, (chV old d.1).1) := by
 unfold fixV at h
 obtain ⟨d, h1, rfl⟩ := List.mem_map.1 h
 obtain ⟨h2, h3⟩ := List.mem_filter.1 h1
 exact ⟨d, h2, h3, rfl⟩
theorem mem_fix {l : List Dep} {cs : List Int} {old : List All} {t : Int} {d : Dep} (h : d ∈ l) (hb : fixB cs old t d = true) : (d.1, (chV old d.1).1) ∈ fixV l cs old t := by
 unfold fixV
 exact List.mem_map_of_mem (f := fun d : Dep => (d.1, (chV old d.1).1)) (List.mem_filter.2 ⟨h, hb⟩)
/-- What a departure that is fixed says. -/
theorem fix_home {l : List Dep} {cs : List Int} {old : List All} {t : Int} {f : Flt} (h : (chV (fixV l cs old t) f).2 = true) :
 ∃ d ∈ l, d.1 = f ∧ isOpenV d t = true ∧ (f, (chV old f).1) ∈ fixV l cs old t ∧ ∃ k : Nat, k < cs.length ∧ homeV cs old f = k ∧ ∀ z, cs.getD k z = (chV old f).1 := by
 have h1 := chV_in h
 obtain ⟨d, hd, hb, e⟩ := fix_mem h1
 have e1 : d.1 = f := (congrArg Prod.fst e).symm
 subst e1
 have hm := mem_fix hd hb
 unfold fixB at hb
 simp only [Bool.and_eq_true] at hb
 obtain ⟨⟨b1, b2⟩, b3⟩ := hb
 refine ⟨d, hd, rfl, b2, hm, ?_⟩
 rcases home_spec cs old d.1 with ⟨_, g2⟩ | ⟨k, g1, g2, _, _, g5⟩
 · rw [b1, b3] at g2; cases g2
 · exact ⟨k, g1, g2, g5⟩
/-- The needs, for the plain search. -/
def ndsV (l : List Dep) (cs : List Int) (old : List All) (t : Int) : List RlM.Nd := (actV l t).map (fun d => toNd (ndA cs old (fixV l cs old t) d))
theorem nds_eq (l : List Dep) (cs : List Int) (old : List All) (t : Int) : (needV l cs old (fixV l cs old t) t).map toNd = ndsV l cs old t := by
 rw [need_act, List.map_map]; rfl
theorem nds_asc {l : List Dep} {cs : List Int} {old : List All} {t : Int} (hv : ∀ d ∈ l, validV d = true) : RlM.Asc (ndsV l cs old t) := by
 unfold ndsV
 refine ⟨fun d hd => ?_, ?_⟩
 · obtain ⟨d0, h1, rfl⟩ := List.mem_map.1 hd
   exact (act_time hv h1).1
 · rw [List.pairwise_map]
   exact act_sorted l t
theorem nds_pos {l : List Dep} {cs : List Int} {old : List All} {t : Int} (hv : ∀ d ∈ l, validV d = true) : ∀ d ∈ ndsV l cs old t, d.frm < d.to := by
 intro d hd
 obtain ⟨d0, h1, rfl⟩ := List.mem_map.1 hd
 exact (act_time hv h1).2.1
theorem nds_fix {l : List Dep} {cs : List Int} {old : List All} {t : Int} (hv : ∀ d ∈ l, validV d = true) (hn : (l.map (fun d => d.1)).Nodup) :
 ∀ d ∈ ndsV l cs old t, d.fixed = true → 0 ≤ d.home ∧ d.home < (cs.length : Nat) ∧ ∀ e ∈ ndsV l cs old t, d.frm ≤ e.frm := by
 intro d hd hf
 obtain ⟨d1, h1, rfl⟩ := List.mem_map.1 hd
 obtain ⟨d2, h2, e2, h3, _, k, h4, h5, _⟩ := fix_home (show (chV (fixV l cs old t) d1.1).2 = true from hf)
 have hh : (toNd (ndA cs old (fixV l cs old t) d1)).home = (k : Int) := h5
 refine ⟨by omega, by omega, fun e he => ?_⟩
 obtain ⟨e1, h6, rfl⟩ := List.mem_map.1 he
 obtain ⟨d0, h7, h8, rfl⟩ := act_mem h1
 have : d2 = d0 := nodup_uniq (f := fun d : Dep => d.1) hn h2 h7 e2
 subst this
 have h9 := (act_time hv h6).2.2.1
 have h10 := opn_opens t d2
 have h11 := (isOpenV_iff d2 t).1 h3
 show (opn t d2).opens ≤ e1.opens
 omega
theorem nds_apart {l : List Dep} {cs : List Int} {old : List All} {t : Int} (hn : (l.map (fun d => d.1)).Nodup) (hx : ((fixV l cs old t).map (fun a => a.2)).Nodup) :
 (ndsV l cs old t).Pairwise (fun a b => a.fixed = true → b.fixed = true → a.home ≠ b.home) := by
 unfold ndsV
 rw [List.pairwise_map]
 have h := act_flts (l := l) (t := t) hn
 rw [List.Nodup, List.pairwise_map] at h
 refine h.imp ?_
 intro a b hab ha hb e
 obtain ⟨_, _, _, _, m1, k1, c1, c2, c3⟩ := fix_home (show (chV (fixV l cs old t) a.1).2 = true from ha)
 obtain ⟨_, _, _, _, m2, k2, c4, c5, c6⟩ := fix_home (show (chV (fixV l cs old t) b.1).2 = true from hb)
 have e1 : homeV cs old a.1 = homeV cs old b.1 := e
 have e2 : k1 = k2 := by omega
 subst e2
 have e3 : (chV old a.1).1 = (chV old b.1).1 := (c3 0).symm.trans (c6 0)
 have := nodup_uniq (f := fun a : All => a.2) hx m1 m2 e3
 exact hab (Prod.mk.inj this).1
theorem ls_eq (l : List Dep) (cs : List Int) (old : List All) (t : Int) (n : Nat) : lsV (needV l cs old (fixV l cs old t) t) n st0 = RlM.least n (ndsV l cs old t) (List.replicate 6 0) := by
 unfold lsV
 rw [← nds_eq]; rfl
theorem nds_len (l : List Dep) (cs : List Int) (old : List All) (t : Int) : (ndsV l cs old t).length = actN l t := by
 unfold ndsV; rw [List.length_map, actV_len]
theorem opn_cnt {l : List Dep} {cs : List Int} {old : List All} {t : Int} (hv : ∀ d ∈ l, validV d = true) (x : Int) : (ndsV l cs old t).countP (RlM.opn x) = cnt (actV l t) x := by
 unfold ndsV cnt
 rw [List.countP_map]
 refine List.countP_congr fun d hd => ?_
 have h := (act_time hv hd).2.2.2.2.1
 show (decide (d.opens ≤ x) && decide (x < d.closes)) = true ↔ isOpenV d x = true
 unfold isOpenV
 rw [decide_eq_true h, Bool.true_and]
/-- There is a repair exactly if at no time too many are open. -/
theorem ls_iff {l : List Dep} {cs : List Int} {old : List All} {t : Int} (hv : ∀ d ∈ l, validV d = true) (hn : (l.map (fun d => d.1)).Nodup) (hx : ((fixV l cs old t).map (fun a => a.2)).Nodup)
 (ha : actN l t ≤ 16) (hc : cs.length ≤ 6) : lsV (needV l cs old (fixV l cs old t) t) cs.length st0 < 17 ↔ ∀ x, cnt (actV l t) x ≤ cs.length := by
 rw [ls_eq]
 have h1 := RlM.least_iff (n := cs.length) (ds := ndsV l cs old t) (fr := List.replicate 6 0) (by rw [nds_len]; show (_ : Int) < 17; omega)
 rw [show (RlM.nn : Int) = 17 from rfl] at h1
 rw [h1]
 constructor
 · rintro ⟨p, hp⟩ x
   rw [← opn_cnt (cs := cs) (old := old) hv]
   exact RlM.exists_only ((RlM.path0 (nds_asc hv) hc).1 hp) x
 · intro h
   exact RlM.exists_of (nds_asc hv) (nds_pos hv) hc (nds_fix hv hn) (nds_apart hn hx) (fun x => by rw [opn_cnt hv]; exact h x)
theorem argR_all {l : List Dep} {cs : List Int} {t : Int} (h : argR l cs t = 0) : (∀ d ∈ l, validV d = true) ∧ (l.map (fun d => d.1)).Nodup ∧ actN l t ≤ 16 ∧ cs.length ≤ 6 ∧ cs.all (fun c => decide (0 ≤ c)) = true ∧ ascI cs = true := by
 unfold argR at h
 by_cases h1 : validateV l = 0
 · rw [if_neg (by omega)] at h
   by_cases h2 : (actN l t : Int) > 16 ∨ (cs.length : Int) > 6
   · rw [if_pos h2] at h; omega
   · rw [if_neg h2] at h
     by_cases h3 : cs.all (fun c => decide (0 ≤ c)) = false
     · rw [if_pos h3] at h; omega
     · rw [if_neg h3] at h
       by_cases h4 : ascI cs = false
       · rw [if_pos h4] at h; omega
       · have h5 := valid_ok h1
         exact ⟨h5.2.1, nodup_flts h5.2.2, by omega, by omega, by simpa using h3, by simpa using h4⟩
 · rw [if_pos h1] at h; omega
/-- The way that is found. -/
theorem path_ok {l : List Dep} {cs : List Int} {old : List All} {t : Int} (h : lsV (needV l cs old (fixV l cs old t) t) cs.length st0 < 17) :
 RlM.Path cs.length (ndsV l cs old t) (List.replicate 6 0) (pathR (needV l cs old (fixV l cs old t) t) cs.length) ∧
 RlM.cost (ndsV l cs old t) (pathR (needV l cs old (fixV l cs old t) t) cs.length) = lsV (needV l cs old (fixV l cs old t) t) cs.length st0 := by
 have h2 := ls_eq l cs old t cs.length
 have h3 := RlM.first_ok (n := cs.length) (ds := ndsV l cs old t) (fr := List.replicate 6 0) (rest := lsV (needV l cs old (fixV l cs old t) t) cs.length st0) h2.symm h
 have e : pathR (needV l cs old (fixV l cs old t) t) cs.length = RlM.first cs.length (ndsV l cs old t) (List.replicate 6 0) (lsV (needV l cs old (fixV l cs old t) t) cs.length st0) := by
  unfold pathR; rw [nds_eq]; rfl
 rw [e]
 exact ⟨h3.1, h3.2.1⟩
theorem allR_len {ds : List Ned} {cs : List Int} {p : List Nat} (h : p.length = ds.length) : (allR ds cs p).length = ds.length := by
 unfold allR; rw [List.length_map, List.length_zip]; omega
end Go.Proofs.YtdeihcabmpcaoaaGreat

/- The law: there is a repair exactly if at no time too many are open. -/
set_option linter.unusedSimpArgs false
set_option linter.unusedVariables false
set_option maxRecDepth 100000
set_option maxHeartbeats 8000000
namespace Go.Proofs.YtdeihcabmpcaoaaGreat
open Go.Ev

theorem schedL_pos : ∀ (n : Nat) (s : Src) (k : Int), 0 ≤ s.2 → 0 ≤ (schedL n s k).2.2
 | 0, _, _, h => h
 | n + 1, s, k, h => by
   have h1 := Src.step_pos s h
   unfold schedL
   split
   · split
     · exact h1
     · exact schedL_pos n _ _ (Src.step_pos _ (Src.step_pos _ (Src.step_pos _ (Src.step_pos _ (Src.step_pos _ (Src.step_pos _ h1))))))
   · exact h
theorem schedV_pos (s : Src) (n : Int) (h : 0 ≤ s.2) : 0 ≤ (schedV s n).2.2 := schedL_pos _ _ _ (Src.step_pos s h)
/-- What is valid: the repair, in two cases. -/
theorem rvd_ok {l : List Dep} {cs : List Int} {old : List All} {t : Int} (h : rvdV l cs old t = 0) : argR l cs t = 0 ∧ ((fixV l cs old t).map (fun a => a.2)).Nodup := by
 unfold rvdV at h
 by_cases h1 : argR l cs t = 0
 · rw [if_neg (by omega)] at h
   refine ⟨h1, ?_⟩
   apply Classical.byContradiction
   intro h2
   rw [if_pos h2] at h; omega
 · rw [if_pos h1] at h; exact absurd h h1
theorem rep_of {l : List Dep} {cs : List Int} {old : List All} {t : Int} (h : argR l cs t = 0) (hx : ((fixV l cs old t).map (fun a => a.2)).Nodup) :
 repV l cs old t = if 17 ≤ lsV (needV l cs old (fixV l cs old t) t) cs.length st0 then ([], 11)
  else (sortAl (allR (needV l cs old (fixV l cs old t) t) cs (pathR (needV l cs old (fixV l cs old t) t) cs.length)), 0) := by
 unfold repV
 rw [if_neg (by omega), if_neg (by simp only [Classical.not_not]; exact hx)]
theorem exists_law {l : List Dep} {cs : List Int} {old : List All} {t : Int} (h : rvdV l cs old t = 0) :
 ((peakV (actV l t)).2 > (cs.length : Int) → repV l cs old t = ([], 11)) ∧ (¬ (peakV (actV l t)).2 > (cs.length : Int) → (repV l cs old t).2 = 0 ∧ (repV l cs old t).1.length = (actV l t).length) := by
 obtain ⟨h1, h2⟩ := rvd_ok h
 obtain ⟨a1, a2, a3, a4, _, _⟩ := argR_all h1
 have hi := ls_iff a1 a2 h2 a3 a4
 have hp := pk_facts (actV l t)
 simp only [openV_cnt] at hp
 rw [rep_of h1 h2]
 refine ⟨fun hk => ?_, fun hk => ?_⟩
 · rw [if_pos]
   apply Classical.byContradiction
   intro hl
   have := hi.1 (by omega) (peakV (actV l t)).1
   omega
 · have hl := hi.2 (fun x => by have := hp.2.2.2.1 x; omega)
   rw [if_neg (by omega)]
   refine ⟨rfl, ?_⟩
   rw [(sortAl_perm _).length_eq]
   have hpl := RlM.path_len (path_ok hl).1
   rw [nds_len] at hpl
   rw [allR_len (by rw [hpl, need_act, List.length_map, actV_len]), need_act, List.length_map]
end Go.Proofs.YtdeihcabmpcaoaaGreat

/- The contract of fits: whether allocations are a repair. -/
set_option linter.unusedSimpArgs false
set_option linter.unusedVariables false
set_option maxRecDepth 100000
set_option maxHeartbeats 8000000
namespace Go.Proofs.YtdeihcabmpcaoaaGreat
open Go.Ev

def zD : Dep := ((ByteArray.empty, 0, ByteArray.empty, 0), ByteArray.empty, 0, 0, 0, 0, 0)
/-- Two departures with one chute at one time. -/
def clsh (A : List Dep) (p : List All) (i k : Nat) : Bool :=
 decide ((chV p (A.getD i zD).1).1 = (chV p (A.getD k zD).1).1) && decide ((A.getD k zD).opens < (A.getD i zD).closes) && decide ((A.getD i zD).opens < (A.getD k zD).closes)
def fitI (A : List Dep) (cs : List Int) (p : List All) (i : Nat) : Bool :=
 (chV p (A.getD i zD).1).2 && cs.any (fun y : Int => decide ((chV p (A.getD i zD).1).1 = y)) && (List.range i).all (fun k => !clsh A p i k)
def fitB (l : List Dep) (cs : List Int) (was p : List All) (t : Int) : Bool :=
 decide (p.length = (actV l t).length) && (List.range (actV l t).length).all (fitI (actV l t) cs p) && (fixV l cs was t).all (fun a => decide ((chV p a.1).1 = a.2))
end Go.Proofs.YtdeihcabmpcaoaaGreat

/- The plain law: allocations as a function of the flights; a repair of a repair. -/
set_option linter.unusedSimpArgs false
set_option linter.unusedVariables false
set_option maxRecDepth 100000
set_option maxHeartbeats 4000000
namespace Go.Proofs.YtdeihcabmpcaoaaGreat
open Go.Ev

theorem ascI_pair : ∀ {cs : List Int}, ascI cs = true → cs.Pairwise (· < ·)
 | [], _ => List.Pairwise.nil
 | [a], _ => List.pairwise_singleton _ _
 | a :: b :: l, h => by
   unfold ascI at h
   simp only [Bool.and_eq_true, decide_eq_true_eq] at h
   have ih := ascI_pair h.2
   refine List.pairwise_cons.2 ⟨fun c hc => ?_, ih⟩
   rcases List.mem_cons.1 hc with rfl | hc
   · exact h.1
   · have := (List.pairwise_cons.1 ih).1 c hc
     omega
theorem asc_at {cs : List Int} (h : cs.Pairwise (· < ·)) {i j : Nat} (hi : i < cs.length) (hj : j < cs.length) (e : cs.getD i 0 = cs.getD j 0) : i = j := by
 rw [List.getD_eq_getElem?_getD, List.getD_eq_getElem?_getD, List.getElem?_eq_getElem hi, List.getElem?_eq_getElem hj] at e
 have e : cs[i] = cs[j] := e
 have hp := List.pairwise_iff_getElem.1 h
 rcases Nat.lt_trichotomy i j with hlt | heq | hlt
 · have := hp i j hi hj hlt; omega
 · exact heq
 · have := hp j i hj hi hlt; omega
/-- The allocations of departures along a way. -/
def alcs (A : List Dep) (cs : List Int) (w : List Nat) : List All := (A.zip w).map (fun q => (q.1.1, cs.getD q.2 0))
theorem alcs_eq (A : List Dep) (cs : List Int) (f : Dep → Ned) (hf : ∀ d, (f d).1 = d.1) : ∀ (A : List Dep) (w : List Nat), allR (A.map f) cs w = alcs A cs w
 | [], _ => rfl
 | _ :: _, [] => rfl
 | d :: A, c :: w => by
   show ((f d).1, cs.getD c 0) :: allR (A.map f) cs w = (d.1, cs.getD c 0) :: alcs A cs w
   rw [hf, alcs_eq A cs f hf A w]
theorem alcs_keys (A : List Dep) (cs : List Int) : ∀ (A : List Dep) (w : List Nat), w.length = A.length → (alcs A cs w).map (fun a => a.1) = A.map (fun d => d.1)
 | [], _, _ => rfl
 | _ :: _, [], h => by simp at h
 | d :: A, c :: w, h => by
   show d.1 :: (alcs A cs w).map (fun a => a.1) = d.1 :: A.map (fun d => d.1)
   rw [alcs_keys A cs A w (by simpa using h)]
theorem map_zip {α β : Type} (g : α → β) : ∀ (A : List α) (w : List β), w.length = A.length → (∀ q ∈ A.zip w, g q.1 = q.2) → w = A.map g
 | [], [], _, _ => rfl
 | [], _ :: _, h, _ => by simp at h
 | _ :: _, [], h, _ => by simp at h
 | a :: A, b :: w, h, hq => by
   rw [List.map_cons, ← map_zip g A w (by simpa using h) (fun q hm => hq q (List.mem_cons_of_mem _ hm)), hq (a, b) List.mem_cons_self]
/-- A list of allocations that is a way's, in any order. -/
structure IsW (A : List Dep) (cs : List Int) (w : List Nat) (p : List All) : Prop where
 len : w.length = A.length
 lt : ∀ c ∈ w, c < cs.length
 perm : p.Perm (alcs A cs w)
section
variable {A : List Dep} {cs : List Int} {w : List Nat} {p : List All}
theorem IsW.keys (h : IsW A cs w p) (hn : (A.map (fun d => d.1)).Nodup) : (p.map (fun a => a.1)).Nodup := by
 refine ((h.perm.map (fun a => a.1)).nodup_iff).2 ?_
 rw [alcs_keys A cs A w h.len]; exact hn
theorem IsW.at_ (h : IsW A cs w p) (hn : (A.map (fun d => d.1)).Nodup) (ha : cs.Pairwise (· < ·)) : ∀ q ∈ A.zip w, q.2 < cs.length ∧ chV p q.1.1 = (cs.getD q.2 0, true) ∧ homeV cs p q.1.1 = (q.2 : Int) := by
 intro q hq
 have h1 := h.lt q.2 (List.of_mem_zip hq).2
 have h2 : (q.1.1, cs.getD q.2 0) ∈ p := h.perm.mem_iff.2 (List.mem_map_of_mem (f := fun q : Dep × Nat => (q.1.1, cs.getD q.2 0)) hq)
 have h3 := chV_mem (h.keys hn) h2
 refine ⟨h1, h3, ?_⟩
 rcases home_spec cs p q.1.1 with ⟨g1, g2⟩ | ⟨k, g1, g2, g3, g4, g5⟩
 · rw [h3] at g2
   have : inC cs (cs.getD q.2 0) = true := by
    unfold inC
    rcases idxF_spec (fun y : Int => decide (cs.getD q.2 0 = y)) cs 0 (Int.le_refl 0) with ⟨e1, e2⟩ | ⟨i, _, e1, _, _⟩
    · have hm : cs.getD q.2 0 ∈ cs := by
       rw [List.getD_eq_getElem?_getD, List.getElem?_eq_getElem h1]; exact List.getElem_mem h1
      have := e2 _ hm
      simp at this
    · rw [e1]; simp
   rw [this] at g2; cases g2
 · have g6 := g5 0
   rw [h3] at g6
   have := asc_at ha g1 h1 g6
   rw [g2, this]
/-- The chute's place, by the flight. -/
def gF (cs : List Int) (p : List All) (f : Flt) : Nat := (homeV cs p f).toNat
theorem IsW.map (h : IsW A cs w p) (hn : (A.map (fun d => d.1)).Nodup) (ha : cs.Pairwise (· < ·)) : w = A.map (fun d => gF cs p d.1) :=
 map_zip (fun d => gF cs p d.1) A w h.len (fun q hq => by
  have := (h.at_ hn ha q hq).2.2
  show (homeV cs p q.1.1).toNat = q.2
  omega)
theorem zip_mem {α β : Type} : ∀ {A : List α} {w : List β}, w.length = A.length → ∀ d ∈ A, ∃ c, (d, c) ∈ A.zip w
 | [], _, _, d, hd => by cases hd
 | a :: A, [], h, d, hd => by simp at h
 | a :: A, c :: w, h, d, hd => by
   rcases List.mem_cons.1 hd with rfl | hd
   · exact ⟨c, List.mem_cons_self⟩
   · obtain ⟨c', hc⟩ := zip_mem (A := A) (w := w) (by simpa using h) d hd
     exact ⟨c', List.mem_cons_of_mem _ hc⟩
theorem IsW.dep (h : IsW A cs w p) (hn : (A.map (fun d => d.1)).Nodup) (ha : cs.Pairwise (· < ·)) : ∀ d ∈ A, gF cs p d.1 < cs.length ∧ chV p d.1 = (cs.getD (gF cs p d.1) 0, true) ∧ homeV cs p d.1 = (gF cs p d.1 : Int) := by
 intro d hd
 obtain ⟨c, hc⟩ := zip_mem h.len d hd
 obtain ⟨h1, h2, h3⟩ := h.at_ hn ha _ hc
 have e : gF cs p d.1 = c := by unfold gF; rw [h3]; rfl
 rw [e]; exact ⟨h1, h2, h3⟩
end
/-- What a repair is. -/
theorem rep_facts {l : List Dep} {cs : List Int} {old : List All} {t : Int} (h : (repV l cs old t).2 = 0) (h0 : argR l cs t = 0) :
 ((fixV l cs old t).map (fun a => a.2)).Nodup ∧ lsV (needV l cs old (fixV l cs old t) t) cs.length st0 < 17 ∧
 IsW (actV l t) cs (pathR (needV l cs old (fixV l cs old t) t) cs.length) (repV l cs old t).1 ∧
 (repV l cs old t).1 = sortAl (alcs (actV l t) cs (pathR (needV l cs old (fixV l cs old t) t) cs.length)) := by
 have hx : ((fixV l cs old t).map (fun a => a.2)).Nodup := by
  apply Classical.byContradiction
  intro hx
  unfold repV at h
  rw [if_neg (by omega), if_pos hx] at h
  simp at h
 rw [rep_of h0 hx] at h ⊢
 by_cases hl : 17 ≤ lsV (needV l cs old (fixV l cs old t) t) cs.length st0
 · rw [if_pos hl] at h; simp at h
 · rw [if_neg hl]
   have hp := (path_ok (l := l) (cs := cs) (old := old) (t := t) (by omega)).1
   have h1 := RlM.path_len hp
   rw [nds_len, ← actV_len] at h1
   have e : allR (needV l cs old (fixV l cs old t) t) cs (pathR (needV l cs old (fixV l cs old t) t) cs.length) = alcs (actV l t) cs (pathR (needV l cs old (fixV l cs old t) t) cs.length) := by
    generalize pathR (needV l cs old (fixV l cs old t) t) cs.length = w
    rw [need_act]
    exact alcs_eq (actV l t) cs _ (fun d => rfl) _ w
   refine ⟨hx, by omega, ⟨h1, RlM.path_lt hp, ?_⟩, by rw [e]⟩
   rw [← e]
   exact sortAl_perm _
theorem open_act {l : List Dep} {t u : Int} (h : t ≤ u) {d : Dep} (hd : d ∈ l) (ho : isOpenV d u = true) : closedV d t = false := by
 have := (isOpenV_iff d u).1 ho
 unfold closedV
 rw [decide_eq_true this.1, decide_eq_false (by omega)]; rfl
end Go.Proofs.YtdeihcabmpcaoaaGreat

/- The law: repairing a repair moves nothing. -/
set_option linter.unusedSimpArgs false
set_option linter.unusedVariables false
set_option maxRecDepth 100000
set_option maxHeartbeats 8000000
namespace Go.Proofs.YtdeihcabmpcaoaaGreat
open Go.Ev

/-- The arguments of the laws are valid. -/
theorem gen_args {x : List Dep} {c : List Int} {t : Int} (h1 : validateV x = 0) (h2 : x.length ≤ 16) (h3 : c.length ≤ 6) (h4 : ∀ y ∈ c, 0 < y) (h5 : ascI c = true) : argR x c t = 0 := by
 have := actN_le x t
 unfold argR
 rw [if_neg (by omega), if_neg (by omega), if_neg, if_neg (by rw [h5]; simp)]
 rw [Bool.not_eq_false, List.all_eq_true]
 intro y hy
 exact decide_eq_true (by have := h4 y hy; omega)
/-- What the repair's errors are. -/
theorem rep_err {l : List Dep} {cs : List Int} {old : List All} {t : Int} (h0 : argR l cs t = 0) : ((repV l cs old t).2 = 0 ∨ (repV l cs old t).2 = 11 ∨ (repV l cs old t).2 = 7) ∧ ((repV l cs old t).2 = 7 ↔ ¬ ((fixV l cs old t).map (fun a => a.2)).Nodup) := by
 unfold repV
 rw [if_neg (by omega)]
 by_cases hx : ((fixV l cs old t).map (fun a => a.2)).Nodup
 · rw [if_neg (by simp only [Classical.not_not]; exact hx)]
   split <;> simp [hx]
 · rw [if_pos hx]; simp [hx]
end Go.Proofs.YtdeihcabmpcaoaaGreat

/- The plain law: what fits, what has moved, for allocations along a way; the trial of all ways. -/
set_option linter.unusedSimpArgs false
set_option linter.unusedVariables false
set_option maxRecDepth 100000
set_option maxHeartbeats 4000000
namespace Go.Proofs.YtdeihcabmpcaoaaGreat
open Go.Ev

theorem getD_at {α : Type} {A : List α} {i : Nat} (h : i < A.length) (z : α) : A.getD i z = A[i] := by
 rw [List.getD_eq_getElem?_getD, List.getElem?_eq_getElem h]; rfl
/-- Allocations along a way are a repair exactly if the way fits. -/
theorem fit_iff {l : List Dep} {cs : List Int} {was p : List All} {t : Int} {w : List Nat} (hv : ∀ d ∈ l, validV d = true) (hn : (l.map (fun d => d.1)).Nodup) (ha : cs.Pairwise (· < ·))
 (h : IsW (actV l t) cs w p) : fitB l cs was p t = true ↔ RlM.Fit cs.length (ndsV l cs was t) w := by
 have hnA := act_flts (l := l) (t := t) hn
 have hdep := h.dep hnA ha
 have hw := h.map hnA ha
 have hasc := nds_asc (cs := cs) (old := was) (t := t) hv
 unfold ndsV at hasc
 have hsym := RlM.fit_sym (n := cs.length) (g := fun d : Dep => gF cs p d.1) hasc (fun d hd => (act_time hv hd).2.1)
 rw [show ndsV l cs was t = (actV l t).map (fun d => toNd (ndA cs was (fixV l cs was t) d)) from rfl, hw, hsym]
 have hlen : p.length = (actV l t).length := by
  rw [h.perm.length_eq]; unfold alcs; rw [List.length_map, List.length_zip, h.len]; omega
 unfold fitB
 rw [decide_eq_true hlen, Bool.true_and, Bool.and_eq_true, List.all_eq_true, List.all_eq_true]
 have hin : ∀ i (hi : i < (actV l t).length), (chV p ((actV l t).getD i zD).1).2 = true ∧ cs.any (fun y : Int => decide ((chV p ((actV l t).getD i zD).1).1 = y)) = true := fun i hi => by
  rw [getD_at hi]
  obtain ⟨k1, k2, _⟩ := hdep _ (List.getElem_mem hi)
  rw [k2]
  refine ⟨rfl, ?_⟩
  rw [List.any_eq_true]
  exact ⟨cs.getD (gF cs p ((actV l t)[i]).1) 0, by rw [getD_at k1]; exact List.getElem_mem k1, by simp⟩
 have hcl : ∀ i j (hi : i < (actV l t).length) (hj : j < (actV l t).length), clsh (actV l t) p j i = true ↔ (gF cs p ((actV l t)[i]).1 = gF cs p ((actV l t)[j]).1 ∧ RlM.Ovl (toNd (ndA cs was (fixV l cs was t) (actV l t)[i])) (toNd (ndA cs was (fixV l cs was t) (actV l t)[j]))) := fun i j hi hj => by
  unfold clsh
  rw [getD_at hi, getD_at hj]
  obtain ⟨k1, k2, _⟩ := hdep _ (List.getElem_mem hi)
  obtain ⟨k3, k4, _⟩ := hdep _ (List.getElem_mem hj)
  rw [k2, k4]
  simp only [Bool.and_eq_true, decide_eq_true_eq]
  constructor
  · rintro ⟨⟨e1, e2⟩, e3⟩
    exact ⟨(asc_at ha k3 k1 e1).symm, e2, e3⟩
  · rintro ⟨e1, e2, e3⟩
    exact ⟨⟨by rw [e1], e2⟩, e3⟩
 constructor
 · rintro ⟨h1, h2⟩
   refine ⟨fun d hd => ⟨(hdep d hd).1, fun hf => ?_⟩, ?_⟩
   · obtain ⟨_, _, _, _, m, k, g1, g2, g3⟩ := fix_home (show (chV (fixV l cs was t) d.1).2 = true from hf)
     have e1 := of_decide_eq_true (h2 _ m)
     obtain ⟨k1, k2, _⟩ := hdep d hd
     have e1 : (chV p d.1).1 = (chV was d.1).1 := e1
     rw [k2] at e1
     have := asc_at ha k1 g1 (e1.trans (g3 0).symm)
     show (gF cs p d.1 : Int) = homeV cs was d.1
     rw [g2, this]
   · rw [List.pairwise_iff_getElem]
     intro i j hi hj hij e o
     have h3 := h1 j (List.mem_range.2 hj)
     unfold fitI at h3
     simp only [Bool.and_eq_true, List.all_eq_true] at h3
     have h4 := h3.2 i (List.mem_range.2 hij)
     rw [(hcl i j hi hj).2 ⟨e, o⟩] at h4
     cases h4
 · rintro ⟨h1, h2⟩
   refine ⟨fun j hj => ?_, fun a hm => ?_⟩
   · have hj := List.mem_range.1 hj
     unfold fitI
     rw [(hin j hj).1, (hin j hj).2, Bool.true_and, Bool.true_and, List.all_eq_true]
     intro i hi
     have hi := List.mem_range.1 hi
     cases hc : clsh (actV l t) p j i with
     | false => rfl
     | true =>
       obtain ⟨e, o⟩ := (hcl i j (by omega) hj).1 hc
       exact absurd o (List.pairwise_iff_getElem.1 h2 i j (by omega) hj hi e)
   · obtain ⟨d0, hd, hb, rfl⟩ := fix_mem hm
     have hb2 := hb
     unfold fixB at hb
     simp only [Bool.and_eq_true] at hb
     have hA := mem_act hd (open_act (Int.le_refl t) hd hb.1.2)
     have hf : (chV (fixV l cs was t) d0.1).2 = true := by rw [chV_mem (fix_keys hn) (mem_fix hd hb2)]
     have h3 := (h1 _ hA).2 hf
     obtain ⟨k1, k2, _⟩ := hdep _ hA
     obtain ⟨_, _, _, _, _, k, g1, g2, g3⟩ := fix_home hf
     have h3 : (gF cs p d0.1 : Int) = homeV cs was d0.1 := h3
     have e : gF cs p d0.1 = k := by omega
     have k2 : chV p d0.1 = (cs.getD (gF cs p d0.1) 0, true) := k2
     refine decide_eq_true ?_
     show (chV p d0.1).1 = (chV was d0.1).1
     rw [k2, e]; exact g3 0
end Go.Proofs.YtdeihcabmpcaoaaGreat

/- The contracts of the functions that the statements about the makeup reach: Check. -/
set_option linter.unusedSimpArgs false
set_option linter.unusedVariables false
set_option maxRecDepth 100000
set_option maxHeartbeats 4000000
namespace Go.Proofs.YtdeihcabmpcaoaaGreat
open Go.Ev

def depAt (l : List Dep) (i : Int) : Dep := l.getD i.toNat ((ByteArray.empty, 0, ByteArray.empty, 0), ByteArray.empty, 0, 0, 0, 0, 0)
theorem find_bd (l : List Dep) (f : Flt) : -1 ≤ findV l f ∧ findV l f < l.length := by
 unfold findV
 rcases idxF_spec (fun d : Dep => decide (d.1 = f)) l 0 (Int.le_refl _) with ⟨h, _⟩ | ⟨i, hi, h, _⟩ <;> omega
end Go.Proofs.YtdeihcabmpcaoaaGreat

/- A part of the proof. -/
/- The plain law: Check accepts what Plan returns. -/
set_option linter.unusedSimpArgs false
set_option linter.unusedVariables false
set_option maxRecDepth 100000
set_option maxHeartbeats 4000000
namespace Go.Proofs.YtdeihcabmpcaoaaGreat
open Go.Ev

theorem of_ascI : ∀ {cs : List Int}, ascI cs = true → cs.Pairwise (· < ·)
 | [], _ => List.Pairwise.nil
 | [a], _ => List.pairwise_singleton _ a
 | a :: b :: l, h => by
   have h' : (decide (a < b) && ascI (b :: l)) = true := h
   rw [Bool.and_eq_true, decide_eq_true_eq] at h'
   have ih := of_ascI h'.2
   refine List.pairwise_cons.2 ⟨fun x hx => ?_, ih⟩
   rcases List.mem_cons.1 hx with rfl | hx
   · exact h'.1
   · have := (List.pairwise_cons.1 ih).1 x hx; omega
/-- One departure with a flight. -/
def One (P : List Dep) : Prop := ∀ d ∈ P, ∀ e ∈ P, d.1 = e.1 → d = e
theorem one_of {P : List Dep} (h : P.Pairwise (fun a b => fltC a.1 b.1 < 0)) : One P := by
 intro d hd e he h1
 induction P with
 | nil => cases hd
 | cons c P ih =>
   obtain ⟨g1, g2⟩ := List.pairwise_cons.1 h
   have hz : ∀ x : Flt, ¬ fltC x x < 0 := fun x => by have := (fltC_cmp.eq x x).2 rfl; omega
   rcases List.mem_cons.1 hd with h2 | h2 <;> rcases List.mem_cons.1 he with h3 | h3
   · rw [h2, h3]
   · have := g1 e h3; rw [← h2, h1] at this; exact absurd this (hz _)
   · have := g1 d h2; rw [← h3, h1] at this; exact absurd this (hz _)
   · exact ih g2 h2 h3
theorem idxF_mem {c : Int} : ∀ {cs : List Int} {k : Int}, 0 ≤ k → c ∈ cs → idxF (fun y : Int => decide (c = y)) cs k ≥ 0
 | y :: cs, k, hk, h => by
   unfold idxF
   split
   · omega
   · rename_i hn
     rcases List.mem_cons.1 h with rfl | h
     · exact absurd (decide_eq_true rfl) hn
     · exact idxF_mem (by omega) h
theorem mem_idxF {c : Int} : ∀ {cs : List Int} {k : Int}, idxF (fun y : Int => decide (c = y)) cs k ≥ 0 → c ∈ cs
 | [], k, h => by unfold idxF at h; omega
 | y :: cs, k, h => by
   unfold idxF at h
   split at h
   · rename_i hy
     rw [of_decide_eq_true hy]; exact List.mem_cons_self
   · exact List.mem_cons_of_mem _ (mem_idxF h)
theorem place_at {d : Dep} : ∀ {cs fr : List Int} {c : Int} {fr' : List Int}, place d cs fr = some (c, fr') → ∃ (j : Nat) (h : j < cs.length) (h' : j < fr.length), cs[j] = c ∧ fr[j] ≤ d.opens ∧ fr' = fr.set j d.closes
 | c :: cs, f :: fs, x, fr', h => by
   unfold place at h
   split at h
   · rename_i hf
     cases h
     exact ⟨0, by simp, by simp, rfl, hf, rfl⟩
   · cases hp : place d cs fs with
     | none => rw [hp] at h; cases h
     | some r =>
       obtain ⟨r1, r2⟩ := r
       rw [hp] at h
       cases h
       obtain ⟨j, h1, h2, h3, h4, h5⟩ := place_at hp
       exact ⟨j + 1, by simpa using h1, by simpa using h2, by simpa using h3, by simpa using h4, by rw [h5]; rfl⟩
 | [], _, _, _, h => by simp [place] at h
 | _ :: _, [], _, _, h => by simp [place] at h
/-- No two at one chute at one time. -/
def Free (P : List Dep) (a b : All) : Prop := a.2 = b.2 → ∀ d ∈ P, ∀ e ∈ P, d.1 = a.1 → e.1 = b.1 → overV d e = false ∧ overV e d = false
theorem over_not {d e : Dep} (h : d.closes ≤ e.opens) : overV d e = false ∧ overV e d = false := by
 unfold overV
 constructor
 · refine decide_eq_false ?_
   (repeat' split) <;> omega
 · refine decide_eq_false ?_
   (repeat' split) <;> omega
theorem greedy_free (P : List Dep) (hP : One P) (cs : List Int) (hcs : cs.Pairwise (· < ·)) : ∀ (ds : List Dep) (fr : List Int), fr.length = cs.length → (∀ d ∈ ds, d ∈ P ∧ d.opens < d.closes) →
 (∀ a ∈ greedy ds cs fr, ∃ d ∈ ds, d.1 = a.1 ∧ ∃ (j : Nat) (h : j < cs.length) (h' : j < fr.length), cs[j] = a.2 ∧ fr[j] ≤ d.opens) ∧ (greedy ds cs fr).Pairwise (Free P)
 | [], _, _, _ => ⟨by intro a h; simp [greedy] at h, List.Pairwise.nil⟩
 | d :: ds, fr, hl, hd => by
   have hd0 := hd d (by simp)
   have hds : ∀ e ∈ ds, e ∈ P ∧ e.opens < e.closes := fun e he => hd e (List.mem_cons_of_mem _ he)
   unfold greedy
   cases hp : place d cs fr with
   | none =>
     obtain ⟨u, v⟩ := greedy_free P hP cs hcs ds fr hl hds
     exact ⟨fun a ha => by obtain ⟨e, he, x⟩ := u a ha; exact ⟨e, List.mem_cons_of_mem _ he, x⟩, v⟩
   | some r =>
     obtain ⟨c, fr'⟩ := r
     dsimp only
     obtain ⟨j, j1, j2, j3, j4, j5⟩ := place_at hp
     have hl' : fr'.length = cs.length := (place_len hp).trans hl
     obtain ⟨u, v⟩ := greedy_free P hP cs hcs ds fr' hl' hds
     refine ⟨fun a ha => ?_, List.pairwise_cons.2 ⟨fun b hb => ?_, v⟩⟩
     · rcases List.mem_cons.1 ha with rfl | ha
       · exact ⟨d, by simp, rfl, j, j1, j2, j3, j4⟩
       · obtain ⟨e, he, x1, k, k1, k2, k3, k4⟩ := u a ha
         refine ⟨e, List.mem_cons_of_mem _ he, x1, k, k1, by omega, k3, ?_⟩
         subst j5
         rw [List.getElem_set] at k4
         split at k4
         · rename_i e1
           subst e1
           omega
         · exact k4
     · obtain ⟨e, he, x1, k, k1, k2, k3, k4⟩ := u b hb
       intro hc d' hd' e' he' y1 y2
       dsimp only at hc y1
       have ed : d' = d := hP d' hd' d hd0.1 y1
       have ee : e' = e := hP e' he' e (hds e he).1 (y2.trans x1.symm)
       have hjk : j = k := by
        have h1 : cs[j] = cs[k] := by rw [j3, k3]; exact hc
        rcases Nat.lt_trichotomy j k with h | h | h
        · have := List.pairwise_iff_getElem.1 hcs j k j1 k1 h; omega
        · exact h
        · have := List.pairwise_iff_getElem.1 hcs k j k1 j1 h; omega
       subst hjk
       subst j5
       rw [List.getElem_set_self] at k4
       rw [ed, ee]
       exact over_not k4
theorem find_dep {l : List Dep} (hone : One l) {d : Dep} (hd : d ∈ l) : 0 ≤ findV l d.1 ∧ depAt l (findV l d.1) = d := by
 unfold findV
 rcases idxF_spec (fun e : Dep => decide (e.1 = d.1)) l 0 (Int.le_refl _) with ⟨_, h⟩ | ⟨i, hi, h1, h2, _⟩
 · have := h d hd
   simp at this
 · rw [h1]
   refine ⟨by omega, ?_⟩
   unfold depAt
   rw [show ((0 : Int) + (i : Int)).toNat = i by omega]
   have e : l[i] = d := hone _ (List.getElem_mem hi) _ hd (by simpa using h2)
   simp [hi, e]
theorem free_symm {P : List Dep} {a b : All} (h : Free P a b) : Free P b a := fun hc d hd e he h1 h2 => (h hc.symm e he d hd h2 h1).symm
theorem keys_eq {l : List Dep} {G : List All} (hp : l.Pairwise (fun a b => fltC a.1 b.1 < 0)) (h : (keysOf G).Perm (l.map (fun d => d.1))) : keysOf (sortAl G) = l.map (fun d => d.1) := by
 have h1 : (keysOf (sortAl G)).Perm (l.map (fun d => d.1)) := ((sortAl_perm G).map _).trans h
 refine List.Perm.eq_of_pairwise (le := fun a b => fltC a b ≤ 0) (fun a b _ _ u v => ?_) ?_ ?_ h1
 · have := fltC_cmp.anti a b
   have e : fltC a b = 0 := by omega
   exact (fltC_cmp.eq _ _).1 e
 · unfold keysOf
   rw [List.pairwise_map]
   exact sortAl_sorted G
 · rw [List.pairwise_map]
   exact hp.imp (fun h => by omega)
end Go.Proofs.YtdeihcabmpcaoaaGreat

/- The plain law: what a repair does when a chute fails; a repair of nothing is a plan. -/
set_option linter.unusedSimpArgs false
set_option linter.unusedVariables false
set_option maxRecDepth 100000
set_option maxHeartbeats 4000000
namespace Go.Proofs.YtdeihcabmpcaoaaGreat
open Go.Ev

/-- What the plan has. -/
theorem plan_facts {l : List Dep} {cs : List Int} (ha : argsV l cs = 0) (hp : ¬ (peakV l).2 > (cs.length : Int)) :
 keysOf (sortAl (greedyV l cs)) = (planV l).map (fun d => d.1) ∧ (∀ a ∈ sortAl (greedyV l cs), a.2 ∈ cs) ∧ (sortAl (greedyV l cs)).Pairwise (Free (planV l)) := by
 obtain ⟨a1, a2, a3, a4, a5⟩ := args_ok ha
 obtain ⟨g1, g2, g3⟩ := valid_ok a1
 have hsub : (planV l).Sublist l := List.filter_sublist
 obtain ⟨k1, k2, k3, k4⟩ := plan_keys ha
 have hPp := g3.sublist hsub
 obtain ⟨u, v⟩ := greedy_free (planV l) (one_of hPp) cs (of_ascI a5) (isort (planV l)) (List.replicate cs.length 0) (by simp) (fun d hd => by
  have := (isort_perm _).mem_iff.1 hd
  exact ⟨this, (k4 d this).2.1⟩)
 have hperm := sortAl_perm (greedyV l cs)
 refine ⟨keys_eq hPp (plan_full ha hp), fun a h => ?_, (List.Perm.pairwise_iff (fun h => free_symm h) hperm).2 v⟩
 obtain ⟨d, _, _, j, j1, _, j3, _⟩ := u a (hperm.mem_iff.1 h)
 rw [← j3]; exact List.getElem_mem j1
theorem pair_in {α : Type} {R : α → α → Prop} {l : List α} (hs : ∀ a b, R a b → R b a) (h : l.Pairwise R) {a b : α} (ha : a ∈ l) (hb : b ∈ l) (hne : a ≠ b) : R a b := by
 obtain ⟨i, hi, rfl⟩ := List.getElem_of_mem ha
 obtain ⟨j, hj, rfl⟩ := List.getElem_of_mem hb
 have hp := List.pairwise_iff_getElem.1 h
 rcases Nat.lt_trichotomy i j with hlt | heq | hlt
 · exact hp i j hi hj hlt
 · subst heq; exact absurd rfl hne
 · exact hs _ _ (hp j i hj hi hlt)
theorem open_over {d e : Dep} {t : Int} (h1 : isOpenV d t = true) (h2 : isOpenV e t = true) : overV d e = true := by
 have o1 := (isOpenV_iff d t).1 h1
 have o2 := (isOpenV_iff e t).1 h2
 unfold overV
 refine decide_eq_true ?_
 (repeat' split) <;> omega
theorem inC_of {cs : List Int} {c : Int} (h : c ∈ cs) : inC cs c = true := by
 unfold inC; exact decide_eq_true (idxF_mem (Int.le_refl 0) h)
theorem plan_at {l : List Dep} {cs : List Int} {P : List All} (hn : (l.map (fun d => d.1)).Nodup) (hk : keysOf P = (planV l).map (fun d => d.1)) (hc : ∀ a ∈ P, a.2 ∈ cs) {d : Dep} (hd : d ∈ l) (hs : d.state = 0) :
 (d.1, (chV P d.1).1) ∈ P ∧ (chV P d.1).2 = true ∧ (chV P d.1).1 ∈ cs := by
 have hd2 : d ∈ planV l := List.mem_filter.2 ⟨hd, decide_eq_true hs⟩
 have hm : d.1 ∈ keysOf P := by rw [hk]; exact List.mem_map_of_mem hd2
 obtain ⟨a, ha, e⟩ := List.mem_map.1 hm
 have hnP : (P.map (fun a => a.1)).Nodup := by
  show (keysOf P).Nodup
  rw [hk]; exact ((List.filter_sublist (l := l)).map (fun d : Dep => d.1)).nodup hn
 have h1 := chV_mem hnP ha
 rw [e] at h1
 rw [h1]
 refine ⟨?_, rfl, hc a ha⟩
 rw [← e]; exact ha
/-- Who is fixed has a chute of its own. -/
theorem plan_fix {l : List Dep} {cs rest : List Int} {P : List All} {t : Int} (hn : (l.map (fun d => d.1)).Nodup) (hk : keysOf P = (planV l).map (fun d => d.1)) (hc : ∀ a ∈ P, a.2 ∈ cs) (hf : P.Pairwise (Free (planV l))) :
 ((fixV l rest P t).map (fun a => a.2)).Nodup := by
 rw [List.Nodup, List.pairwise_map]
 have hkk := fix_keys (l := l) (cs := rest) (old := P) (t := t) hn
 rw [List.Nodup, List.pairwise_map] at hkk
 refine hkk.imp_of_mem ?_
 intro a b ha hb hab e
 obtain ⟨d, hd, hdb, rfl⟩ := fix_mem ha
 obtain ⟨d', hd', hdb', rfl⟩ := fix_mem hb
 unfold fixB at hdb hdb'
 simp only [Bool.and_eq_true] at hdb hdb'
 have s1 := ((isOpenV_iff d t).1 hdb.1.2).1
 have s2 := ((isOpenV_iff d' t).1 hdb'.1.2).1
 have m1 := (plan_at hn hk hc hd s1).1
 have m2 := (plan_at hn hk hc hd' s2).1
 have hne : d.1 ≠ d'.1 := hab
 have hfr := pair_in (fun a b h => free_symm h) hf m1 m2 (fun h => hne (Prod.mk.inj h).1)
 have := (hfr e d (List.mem_filter.2 ⟨hd, decide_eq_true s1⟩) d' (List.mem_filter.2 ⟨hd', decide_eq_true s2⟩) rfl rfl).1
 rw [open_over hdb.1.2 hdb'.1.2] at this
 cases this
theorem rep_in {l : List Dep} {cs : List Int} {old : List All} {t : Int} (h : (repV l cs old t).2 = 0) (h0 : argR l cs t = 0) :
 ∀ a ∈ (repV l cs old t).1, a.2 ∈ cs ∧ chV (repV l cs old t).1 a.1 = (a.2, true) ∧ ∃ d ∈ l, closedV d t = false ∧ d.1 = a.1 := by
 obtain ⟨a1, a2, a3, a4, a5, a6⟩ := argR_all h0
 obtain ⟨x1, x2, x3, x4⟩ := rep_facts h h0
 have hnA := act_flts (l := l) (t := t) a2
 intro a ha
 have hm := x3.perm.mem_iff.1 ha
 unfold alcs at hm
 obtain ⟨q, hq, rfl⟩ := List.mem_map.1 hm
 obtain ⟨y1, y2, y3⟩ := x3.at_ hnA (ascI_pair a6) q hq
 refine ⟨?_, y2, ?_⟩
 · show cs.getD q.2 0 ∈ cs
   rw [List.getD_eq_getElem?_getD, List.getElem?_eq_getElem y1]; exact List.getElem_mem y1
 · obtain ⟨d0, z1, z2, z3⟩ := act_mem (List.of_mem_zip hq).1
   refine ⟨d0, z1, z2, ?_⟩
   show d0.1 = q.1.1
   rw [z3]; rfl
theorem rep_fit {l : List Dep} {cs : List Int} {old : List All} {t : Int} (h : (repV l cs old t).2 = 0) (h0 : argR l cs t = 0) : fitB l cs old (repV l cs old t).1 t = true := by
 obtain ⟨a1, a2, a3, a4, a5, a6⟩ := argR_all h0
 obtain ⟨x1, x2, x3, x4⟩ := rep_facts h h0
 exact (fit_iff a1 a2 (ascI_pair a6) x3).2 ((RlM.path0 (nds_asc a1) a4).1 (path_ok x2).1)
/-- A chute fails. -/
theorem fails_law {l : List Dep} {cs rest : List Int} {P : List All} {t c0 : Int} (hone : One l) (h0 : argR l rest t = 0) (hk : keysOf P = (planV l).map (fun d => d.1)) (hc : ∀ a ∈ P, a.2 ∈ cs) (hf : P.Pairwise (Free (planV l)))
 (hrest : ∀ y ∈ cs, y ≠ c0 → y ∈ rest) :
 ((repV l rest P t).2 = 0 ∨ (repV l rest P t).2 = 11) ∧ ((repV l rest P t).2 = 11 → (peakV (actV l t)).2 > (rest.length : Int)) ∧
 ((repV l rest P t).2 = 0 → ∀ a ∈ (repV l rest P t).1, inC rest a.2 = true ∧ 0 ≤ findV l a.1 ∧ ((chV P a.1).1 ≠ c0 → (chV P a.1).1 ≠ a.2 → isOpenV (depAt l (findV l a.1)) t = false)) := by
 obtain ⟨a1, a2, a3, a4, a5, a6⟩ := argR_all h0
 have hx := plan_fix (rest := rest) (t := t) a2 hk hc hf
 obtain ⟨r1, r2⟩ := rep_err (old := P) h0
 have hrv : rvdV l rest P t = 0 := by
  unfold rvdV; rw [if_neg (by omega), if_neg (by simpa using hx)]
 obtain ⟨e1, e2⟩ := exists_law hrv
 refine ⟨?_, fun h => ?_, fun h a ha => ?_⟩
 · rcases r1 with h | h | h
   · exact .inl h
   · exact .inr h
   · exact absurd hx (r2.1 h)
 · apply Classical.byContradiction
   intro hn
   have := (e2 hn).1; omega
 · obtain ⟨b1, b2, d0, z1, z2, z3⟩ := rep_in h h0 a ha
   obtain ⟨y1, y2⟩ := find_dep hone z1
   rw [← z3]
   refine ⟨inC_of b1, y1, fun g1 g2 => ?_⟩
   rw [y2]
   cases ho : isOpenV d0 t with
   | false => rfl
   | true =>
     obtain ⟨q1, q2, q3⟩ := plan_at a2 hk hc z1 ((isOpenV_iff d0 t).1 ho).1
     have hb : fixB rest P t d0 = true := by
      unfold fixB; rw [q2, ho, inC_of (hrest _ q3 g1)]; rfl
     have hft := rep_fit h h0
     unfold fitB at hft
     simp only [Bool.and_eq_true, List.all_eq_true] at hft
     have := of_decide_eq_true (hft.2 _ (mem_fix z1 hb))
     have this : (chV (repV l rest P t).1 d0.1).1 = (chV P d0.1).1 := this
     rw [z3, b2, ← z3] at this
     exact absurd this.symm g2
end Go.Proofs.YtdeihcabmpcaoaaGreat
