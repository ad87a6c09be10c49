/- The plain law: what is known already is right; the order of the allocations. -/
import Derived.Test.YtfaoonbnbdlgaaaRlRQToF
import Derived.Test.YtfaoonbnbdlgaaaRlLay
set_option linter.unusedSimpArgs false
set_option linter.unusedVariables false
set_option maxRecDepth 100000
set_option maxHeartbeats 4000000
namespace Go.Proofs.Ytfaoonbnbdlgaaa
open Go.Ev

def con34 : Con := { ps := [.d true (.pair yFL (.int .i64)), .d true (.pair yFL (.int .i64))], rs := [.d false (.int .i64)], pre := fun _ => True, out := fun x => (fltC x.1.1 x.2.1.1, ()), nw := id }
theorem c34 : CtrOk Try.prog 34 con34.ctr :=
 con_sound (G := ⟨[(35, con35.ctr)], [], [], [], []⟩) tab_ok (EnvOk.cons c35 has35 EnvOk.nil) rfl Try.func34 rfl con34 31 (by kernel_rfl) (by decide) (by decide) rfl (by decide) rfl (by
  rintro ⟨⟨a, (x : Int)⟩, ⟨b, (y : Int)⟩, _⟩ hpre hwf X hT hG hk hK
  (simp -implicitDefEqProofs (maxSteps := 4000000) only [go_sem, Bool.not_eq_true', Bool.not_eq_false', Bool.or_eq_true, Bool.or_eq_false_iff, Bool.and_eq_true, Bool.and_eq_false_iff, decide_eq_true_eq, decide_eq_false_iff_not, Classical.not_not, not_or, maxLen, con34, con35, hT, hG, hk, hK, Try.results34] at hwf ⊢); (try simp (disch := decide +kernel) only [drawn, true_and, and_true]))
def con33 : RCon := sortFCon 44 (.pair yFL (.int .i64)) 34 (fun a b => fltC a.1 b.1)
theorem c33 : RCtrOk Try.prog 33 con33.rctr := sort_func (e := 44) (t := (.pair yFL (.int .i64))) Try.sortF (by decide) Try.isAgg44 Try.sizeOf44 (show StrictP Try.prog by unfold StrictP; kernel_rfl) (c := fun (a b : All) => fltC a.1 b.1) c34 has34 all_swo
def toNd (n : Ned) : RlM.Nd := ⟨n.frm, n.to, n.home, n.fixed⟩
def frL (f : Fre) : List Int := [f.1, f.2.1, f.2.2.1, f.2.2.2.1, f.2.2.2.2.1, f.2.2.2.2.2]
theorem poss_eq (n : Ned) (c : Nat) (f : Int) : possN n c f = RlM.poss (toNd n) c f := rfl
theorem price_eq (n : Ned) (c : Nat) : priceN n c = RlM.price (toNd n) c := rfl
theorem get_eq (f : Fre) {c : Nat} (h : c < 6) : f.get c = (frL f).getD c 0 := by
 rcases (by omega : c = 0 ∨ c = 1 ∨ c = 2 ∨ c = 3 ∨ c = 4 ∨ c = 5) with rfl | rfl | rfl | rfl | rfl | rfl <;> rfl
theorem aft_eq (ds : List Ned) (x : Sst) {c : Nat} (h : c < 6) : frL (aftV ds x c).2 = RlM.after (toNd (nedAt ds x.1)) c (frL x.2) := by
 obtain ⟨i, a0, a1, a2, a3, a4, a5⟩ := x
 rcases (by omega : c = 0 ∨ c = 1 ∨ c = 2 ∨ c = 3 ∨ c = 4 ∨ c = 5) with rfl | rfl | rfl | rfl | rfl | rfl <;> rfl
/-- The least number of moves from a state on. -/
def lsV (ds : List Ned) (n : Nat) (x : Sst) : Int := RlM.least n ((ds.drop x.1.toNat).map toNd) (frL x.2)
def MemOk (ds : List Ned) (n : Nat) (m : Mem6) : Prop := ∀ p ∈ m, p.2 = lsV ds n p.1
theorem lsV_bd (ds : List Ned) (n : Nat) (x : Sst) : 0 ≤ lsV ds n x ∧ lsV ds n x ≤ 17 := by
 refine ⟨?_, RlM.least_nn _ _ _⟩
 unfold lsV
 by_cases h : RlM.least n ((ds.drop x.1.toNat).map toNd) (frL x.2) < RlM.nn
 · obtain ⟨cs, _, h2⟩ := RlM.least_ex h
   have := RlM.cost_le ((ds.drop x.1.toNat).map toNd) cs
   omega
 · have : RlM.nn = 17 := rfl
   omega
theorem MemOk.bd {ds : List Ned} {n : Nat} {m : Mem6} (h : MemOk ds n m) : MB m := fun p hp => by rw [h p hp]; exact lsV_bd ds n p.1
theorem key_eq {a b : Sst} (h : keyEq KS a b = true) : a = b := by
 obtain ⟨i, a0, a1, a2, a3, a4, a5⟩ := a
 obtain ⟨j, b0, b1, b2, b3, b4, b5⟩ := b
 simp only [keyEq, Bool.and_eq_true, decide_eq_true_eq] at h
 obtain ⟨h0, h1, h2, h3, h4, h5, h6⟩ := h
 subst h0 h1 h2 h3 h4 h5 h6
 rfl
theorem drop_at {ds : List Ned} {i : Int} (h0 : 0 ≤ i) (h : i < ds.length) : ds.drop i.toNat = nedAt ds i :: ds.drop (i + 1).toNat := by
 have hi : i.toNat < ds.length := by omega
 rw [List.drop_eq_getElem_cons hi, show (i + 1).toNat = i.toNat + 1 by omega]
 unfold nedAt
 rw [List.getD_eq_getElem?_getD, List.getElem?_eq_getElem hi]; rfl
theorem lsV_step {ds : List Ned} {n : Nat} {x : Sst} (h0 : 0 ≤ x.1) (h : x.1 < ds.length) (h6 : n ≤ 6) :
 lsV ds n x = (List.range n).foldl (RlM.stepL (toNd (nedAt ds x.1)) (frL x.2) (fun c => RlM.least n ((ds.drop (x.1 + 1).toNat).map toNd) (RlM.after (toNd (nedAt ds x.1)) c (frL x.2)))) 17 := by
 unfold lsV
 rw [drop_at h0 h]
 rfl
theorem lsV_aft {ds : List Ned} {n : Nat} {x : Sst} {c : Nat} (h : c < 6) : lsV ds n (aftV ds x c) = RlM.least n ((ds.drop (x.1 + 1).toNat).map toNd) (RlM.after (toNd (nedAt ds x.1)) c (frL x.2)) := by
 unfold lsV
 rw [aft_eq ds x h]
 rfl
theorem min_eq (a b : Int) : minI a b = min a b := by unfold minI; split <;> omega
theorem fold_ok {ds : List Ned} {n : Nat} {x : Sst} {f : Sst → Mem6 → Int × Mem6} (hf : ∀ c m, c < n → MemOk ds n m → (f (aftV ds x c) m).1 = lsV ds n (aftV ds x c) ∧ MemOk ds n (f (aftV ds x c) m).2) (h6 : n ≤ 6) :
 ∀ (l : List Nat) (q : Int × Mem6), (∀ c ∈ l, c < n) → MemOk ds n q.2 →
   (l.foldl (stepW ds f x) q).1 = l.foldl (RlM.stepL (toNd (nedAt ds x.1)) (frL x.2) (fun c => RlM.least n ((ds.drop (x.1 + 1).toNat).map toNd) (RlM.after (toNd (nedAt ds x.1)) c (frL x.2)))) q.1 ∧ MemOk ds n (l.foldl (stepW ds f x) q).2
 | [], q, _, h => ⟨rfl, h⟩
 | c :: l, q, hl, h => by
   have hc := hl c List.mem_cons_self
   simp only [List.foldl_cons]
   have key : (stepW ds f x q c).1 = RlM.stepL (toNd (nedAt ds x.1)) (frL x.2) (fun c => RlM.least n ((ds.drop (x.1 + 1).toNat).map toNd) (RlM.after (toNd (nedAt ds x.1)) c (frL x.2))) q.1 c ∧ MemOk ds n (stepW ds f x q c).2 := by
    unfold stepW RlM.stepL
    rw [poss_eq, get_eq x.2 (show c < 6 by omega)]
    by_cases hp : RlM.poss (toNd (nedAt ds x.1)) c ((frL x.2).getD c 0) = true
    · rw [if_pos hp, if_pos hp]
      have := hf c q.2 hc h
      refine ⟨?_, this.2⟩
      dsimp only
      rw [min_eq, this.1, lsV_aft (by omega), price_eq]
    · rw [if_neg hp, if_neg hp]
      exact ⟨rfl, h⟩
   have ih := fold_ok hf h6 l (stepW ds f x q c) (fun c hc => hl c (List.mem_cons_of_mem _ hc)) key.2
   rw [key.1] at ih
   exact ih
theorem lw_ok {ds : List Ned} {n : Nat} (h6 : n ≤ 6) : ∀ (k : Nat) (x : Sst) (m : Mem6), MemOk ds n m → 0 ≤ x.1 → x.1 ≤ ds.length → (ds.length : Int) - x.1 < k →
 (lwV ds n k x m).1 = lsV ds n x ∧ MemOk ds n (lwV ds n k x m).2
 | 0, x, m, _, _, h, h2 => absurd h2 (by omega)
 | k + 1, x, m, hm, h0, h1, h2 => by
   unfold lwV
   by_cases he : x.1 = ds.length
   · rw [if_pos he]
     refine ⟨?_, hm⟩
     unfold lsV
     rw [List.drop_of_length_le (by omega)]; rfl
   · rw [if_neg he]
     cases hg : mget (kt := KS) (β := Int) m x with
     | some v =>
       obtain ⟨p, hp, e1, e2⟩ := mget_mem hg
       refine ⟨?_, hm⟩
       rw [key_eq e2]
       show v = _
       rw [← e1]; exact hm p hp
     | none =>
       have hf : ∀ c m, c < n → MemOk ds n m → (lwV ds n k (aftV ds x c) m).1 = lsV ds n (aftV ds x c) ∧ MemOk ds n (lwV ds n k (aftV ds x c) m).2 := fun c m hc hm =>
        lw_ok h6 k (aftV ds x c) m hm (by show 0 ≤ x.1 + 1; omega) (by show x.1 + 1 ≤ _; omega) (by show _ - (x.1 + 1) < _; omega)
       have a := fold_ok (x := x) hf h6 (List.range n) (17, m) (fun c hc => List.mem_range.1 hc) hm
       rw [← lsV_step h0 (by omega) h6] at a
       refine ⟨a.1, fun p hp => ?_⟩
       rcases mset_mem p hp with h | h
       · rw [h]; exact a.1
       · exact a.2 p h
end Go.Proofs.Ytfaoonbnbdlgaaa

/- The contract of replan.Repair. -/
set_option linter.unusedSimpArgs false
set_option linter.unusedVariables false
set_option maxRecDepth 100000
set_option maxHeartbeats 16000000
namespace Go.Proofs.Ytfaoonbnbdlgaaa
open Go.Ev

structure CC where
 ctr : Ctr
def conL29 : CC := ⟨scB (leastC 17).ctr⟩
theorem cL29 : CtrOk Try.prog 29 conL29.ctr := scB_ok (leastOk 17)
def conL31 : CC := ⟨scB con31.ctr⟩
theorem cL31 : CtrOk Try.prog 31 conL31.ctr := scB_ok c31
theorem argR_ok {l : List Dep} {cs : List Int} {t : Int} (h : argR l cs t = 0) : (∀ d ∈ l, validV d = true) ∧ actN l t ≤ 16 ∧ cs.length ≤ 6 := by
 unfold argR at h
 by_cases h1 : validateV l = 0
 · rw [if_neg (by omega)] at h
   by_cases h2 : (actN l t : Int) > 16 ∨ (cs.length : Int) > 6
   · rw [if_pos h2] at h; omega
   · exact ⟨(valid_ok h1).2.1, by omega, by omega⟩
 · rw [if_pos h1] at h; omega
theorem first_cons {n : Nat} {d : RlM.Nd} {ds : List RlM.Nd} {fr : List Int} {rest : Int} {c : Nat} (h : (List.range n).find? (RlM.okc n (d :: ds) fr rest) = some c) :
 RlM.first n (d :: ds) fr rest = c :: RlM.first n ds (RlM.after d c fr) (rest - RlM.price d c) := by
 rw [RlM.first, h]
def allR (ds : List Ned) (cs : List Int) (l : List Nat) : List All := (ds.zip l).map (fun p => (p.1.1, cs.getD p.2 0))
def st0 : Sst := (0, 0, 0, 0, 0, 0, 0)
def pathR (ds : List Ned) (n : Nat) : List Nat := RlM.first n (ds.map toNd) (frL st0.2) (lsV ds n st0)
def repV (l : List Dep) (cs : List Int) (old : List All) (t : Int) : List All × Int :=
 if argR l cs t ≠ 0 then ([], argR l cs t)
 else if ¬ ((fixV l cs old t).map (fun a => a.2)).Nodup then ([], 7)
 else if 17 ≤ lsV (needV l cs old (fixV l cs old t) t) cs.length st0 then ([], 11)
 else (sortAl (allR (needV l cs old (fixV l cs old t) t) cs (pathR (needV l cs old (fixV l cs old t) t) cs.length)), 0)
theorem allR_keys (cs : List Int) : ∀ (ds : List Ned) (l : List Nat), ((allR ds cs l).map (fun a => a.1)).Sublist (ds.map (fun d => d.1))
 | [], _ => List.Sublist.refl _
 | _ :: _, [] => List.nil_sublist _
 | d :: ds, c :: l => (allR_keys cs ds l).cons_cons d.1
theorem need_nodup {l : List Dep} {cs : List Int} {old fx : List All} {t : Int} (h : argR l cs t = 0) : ((needV l cs old fx t).map (fun d => d.1)).Nodup := by
 have h1 : validateV l = 0 := by
  unfold argR at h
  by_cases h1 : validateV l = 0
  · exact h1
  · rw [if_pos h1] at h; exact absurd h h1
 have h2 := nodup_flts (valid_ok h1).2.2
 have h3 : ((rawN l cs old fx t).map (fun d => d.1)).Nodup := by
  unfold rawN
  rw [List.map_map]
  exact ((List.filter_sublist (l := l)).map (fun d : Dep => d.1)).nodup h2
 unfold needV
 exact ((isortN_perm _).map (fun d => d.1)).nodup_iff.2 h3
def con11 : Con := { ps := [.d false (.sl yDP), .d false (.sl (.int .i64)), .d false (.sl (.pair yFL (.int .i64))), .d false (.int .i64)], rs := [.d false (.sl (.pair yFL (.int .i64))), .d false (.int .i64)], pre := fun (x : List Dep × List Int × List All × Int × Unit) => x.1.length ≤ 1048576, out := fun (x : List Dep × List Int × List All × Int × Unit) => ((repV x.1 x.2.1 x.2.2.1 x.2.2.2.1).1, (repV x.1 x.2.1 x.2.2.1 x.2.2.2.1).2, ()), nw := id }
theorem c11 : CtrOk Try.prog 11 con11.ctr :=
 con_sound (G := ⟨[(26, con26.ctr), (27, con27.ctr), (28, con28.ctr), (29, conL29.ctr), (30, con30.ctr), (31, conL31.ctr), (32, con32.ctr)], [(33, con33.rctr)], [], [], []⟩) tab_ok (EnvOk.cons c26 has26 (EnvOk.cons c27 has27 (EnvOk.cons c28 has28 (EnvOk.cons cL29 has29 (EnvOk.cons c30 has30 (EnvOk.cons cL31 has31 (EnvOk.cons c32 has32 (EnvOk.rcons c33 has33 EnvOk.nil)))))))) rfl Try.func11 rfl con11 162338775944588150378167130898191 (by kernel_rfl) (by decide) (by decide) rfl (by decide) rfl (by
  rintro ⟨(l : List Dep), (cs : List Int), (old : List All), (t : Int), _⟩ hpre hwf X hT hG hk hK
  have hl : l.length ≤ 1048576 := hpre
  (simp -implicitDefEqProofs (maxSteps := 4000000) only [go_sem, Bool.not_eq_true', Bool.not_eq_false', Bool.or_eq_true, Bool.or_eq_false_iff, Bool.and_eq_true, Bool.and_eq_false_iff, decide_eq_true_eq, decide_eq_false_iff_not, Classical.not_not, not_or, maxLen, con11, con26, con27, con28, conL29, con30, conL31, con32, con33, hT, hG, hk, hK, Try.results11, leastC, con31] at hwf ⊢); (try simp (disch := decide +kernel) only [drawn, true_and, and_true])
  clear hwf
  refine ⟨hl, fun _ => ⟨fun h => ?_, fun h0 => ⟨hl, fun _ hfl => ?_⟩⟩⟩
  · rw [show repV l cs old t = ([], argR l cs t) from if_pos h]
    exact ⟨rfl, rfl⟩
  have e0 : repV l cs old t = if ¬ ((fixV l cs old t).map (fun a => a.2)).Nodup then ([], 7)
   else if 17 ≤ lsV (needV l cs old (fixV l cs old t) t) cs.length st0 then ([], 11)
   else (sortAl (allR (needV l cs old (fixV l cs old t) t) cs (pathR (needV l cs old (fixV l cs old t) t) cs.length)), 0) := if_neg (by omega)
  generalize hfx : fixV l cs old t = fx at hfl e0
  refine evk_loop ⟨{ i : Nat // i ≤ fx.length ∧ ((fx.take i).map (fun a => a.2)).Nodup }, 1000, fun i => [(0, .one (.sl yDP l false)), (1, .one (.sl (.int .i64) cs false)), (2, .one (.sl (.pair yFL (.int .i64)) old false)), (3, .one (.int .i64 t)), (11, .one (.sl (.pair yFL (.int .i64)) fx false)), (35, .one (.sl (.pair yFL (.int .i64)) fx false)), (36, .one (.int .i64 fx.length)), (37, .one (.int .i64 i.1))],
   fun i => [], fun i => fx.length - i.1⟩ ⟨0, Nat.zero_le _, by simp⟩ ?_ ?_
  · simp only [go_sem]
    rfl
  · rintro ⟨i, (hi : i ≤ fx.length), (hnd : ((fx.take i).map (fun a : All => a.2)).Nodup)⟩
    (simp -implicitDefEqProofs (maxSteps := 4000000) only [go_sem, Bool.not_eq_true', Bool.not_eq_false', Bool.or_eq_true, Bool.or_eq_false_iff, Bool.and_eq_true, Bool.and_eq_false_iff, decide_eq_true_eq, decide_eq_false_iff_not, Classical.not_not, not_or, maxLen, con11, con26, con27, con28, conL29, con30, conL31, con32, con33, hT, hG, hk, hK, Try.results11, leastC, con31]); (try simp (disch := decide +kernel) only [drawn, true_and, and_true])
    refine ⟨fun hlt => ?_, fun hge => ?_⟩
    · have hi' : i < fx.length := by omega
      have ek : ∀ z, fx.getD (i : Int).toNat z = fx[i] := fun z => by simp [hi']
      simp only [ek]
      simp only [Int.toNat_natCast]
      have hpl : (fx.take i).length = i := by rw [List.length_take]; omega
      refine ⟨by omega, fun _ _ => ⟨by omega, fun _ => ?_⟩⟩
      refine evk_loop ⟨{ j : Nat // j ≤ i ∧ ∀ a ∈ fx.take j, a.2 ≠ fx[i].2 }, 2000, fun j => [(0, .one (.sl yDP l false)), (1, .one (.sl (.int .i64) cs false)), (2, .one (.sl (.pair yFL (.int .i64)) old false)), (3, .one (.int .i64 t)), (11, .one (.sl (.pair yFL (.int .i64)) fx false)), (13, .one (.loc 64 0)), (35, .one (.sl (.pair yFL (.int .i64)) fx false)), (36, .one (.int .i64 fx.length)), (37, .one (.int .i64 i)), (44, .one (.sl (.pair yFL (.int .i64)) (fx.take i) false)), (45, .one (.int .i64 i)), (46, .one (.int .i64 j.1))],
       fun _ => [(64, .cells 44 (expl (.pair yFL (.int .i64)) fx[i]))], fun j => i - j.1⟩ ⟨0, Nat.zero_le _, by simp⟩ ?_ ?_
      · simp only [go_sem]
        simp only [hpl, List.drop_zero]
        exact ⟨rfl, trivial⟩
      · rintro ⟨j, (hj : j ≤ i), (hne : ∀ a ∈ fx.take j, a.2 ≠ fx[i].2)⟩
        (simp -implicitDefEqProofs (maxSteps := 4000000) only [go_sem, Bool.not_eq_true', Bool.not_eq_false', Bool.or_eq_true, Bool.or_eq_false_iff, Bool.and_eq_true, Bool.and_eq_false_iff, decide_eq_true_eq, decide_eq_false_iff_not, Classical.not_not, not_or, maxLen, con11, con26, con27, con28, conL29, con30, conL31, con32, con33, hT, hG, hk, hK, Try.results11, leastC, con31]); (try simp (disch := decide +kernel) only [drawn, true_and, and_true])
        have hjx : j < i → ∀ z, (fx.take i).getD (j : Int).toNat z = fx[j]'(by omega) := fun h z => by
         simp [h, List.getElem?_eq_getElem (show j < fx.length by omega)]
        refine ⟨fun hlt => ?_, fun hge => ?_⟩
        · simp only [hjx (by omega)]
          have hmem : fx[j]'(by omega) ∈ fx.take i := by
           rw [List.mem_take_iff_getElem]
           exact ⟨j, by omega, rfl⟩
          refine ⟨by omega, fun _ _ => ⟨fun h => ?_, fun h => ⟨by omega, ?_⟩⟩⟩
          · rw [if_pos (fun hn => by
             have e : fx = fx.take i ++ fx[i] :: fx.drop (i + 1) := by rw [List.getElem_cons_drop hi', List.take_append_drop]
             rw [e, List.map_append, List.map_cons, List.nodup_append] at hn
             exact hn.2.2 _ (List.mem_map_of_mem hmem) _ List.mem_cons_self h.symm)] at e0
            rw [e0]; exact ⟨rfl, rfl⟩
          · refine fin_lp ⟨j + 1, by omega, fun a ha => ?_⟩ ?_ ?_
            · rw [List.take_succ_eq_append_getElem (show j < fx.length by omega)] at ha
              rcases List.mem_append.1 ha with ha | ha
              · exact hne a ha
              · rw [List.mem_singleton.1 ha]; exact fun k => h k.symm
            · simp only [go_sem]
              omega
            · dsimp only; omega
        · obtain rfl : j = i := by omega
          refine ⟨by omega, ?_⟩
          refine fin_lp ⟨j + 1, by omega, ?_⟩ ?_ ?_
          · rw [List.take_succ_eq_append_getElem hi', List.map_append, List.nodup_append]
            refine ⟨hnd, by simp, fun a ha b hb hab => ?_⟩
            obtain ⟨z, hz, rfl⟩ := List.mem_map.1 ha
            have : b = fx[j].2 := by simpa using hb
            exact hne z hz (hab.trans this)
          · simp only [go_sem]
            omega
          · dsimp only; omega
    · rw [List.take_of_length_le (by omega)] at hnd
      rw [if_neg (by simp only [Classical.not_not]; exact hnd)] at e0
      obtain ⟨g1, g2, g3⟩ := argR_ok h0
      have hdl : (needV l cs old fx t).length ≤ 16 := by unfold needV; rw [isortN_len, rawN_len]; exact g2
      generalize hds : needV l cs old fx t = ds at hdl e0
      obtain ⟨n, hn⟩ : ∃ n, cs.length = n := ⟨_, rfl⟩
      have hlw := lw_ok (ds := ds) (n := n) (by omega) 17 st0 [] (fun p hp => by cases hp) (by decide) (by show (0 : Int) ≤ _; omega) (by show (_ : Int) - 0 < _; omega)
      rw [hn] at e0
      simp only [hn, Int.toNat_natCast]
      refine ⟨⟨hl, g1, g2⟩, fun _ _ => ⟨⟨Int.le_refl _, by omega, by omega, by omega, by omega, by omega, fun p hp => by cases hp⟩, fun _ => ⟨fun h => ?_, fun h => ?_⟩⟩⟩
      · rw [if_pos (by rw [← hlw.1]; exact h)] at e0
        rw [e0]; exact ⟨rfl, rfl⟩
      rw [if_neg (by rw [← hlw.1]; exact h)] at e0
      change ¬ (lwV ds n 17 st0 []).1 ≥ 17 at h
      rw [hlw.1] at h
      refine evk_loop ⟨{ q : Nat × Fre × Int × List All × Mem6 // q.1 ≤ ds.length ∧ MemOk ds n q.2.2.2.2 ∧ q.2.2.1 = lsV ds n ((q.1 : Int), q.2.1) ∧ q.2.2.1 < 17 ∧ q.2.2.2.1.length = q.1 ∧ q.2.2.2.1 ++ allR (ds.drop q.1) cs (RlM.first n ((ds.drop q.1).map toNd) (frL q.2.1) q.2.2.1) = allR ds cs (pathR ds n) }, 3000,
       fun q => [(1, .one (.sl (.int .i64) cs false)), (16, .one (.loc 70 0)), (17, .one (.loc 72 0)), (18, .one (.int .i64 q.1.2.2.1)), (19, .one (.row 73))],
       fun q => [(70, .scell [.sl (.pair yFL (.pair (.int .i64) (.pair (.int .i64) (.pair (.int .i64) .bool)))) ds false, .int .i64 n, .map 71]), (72, .cells 72 [.int .i64 q.1.1, .int .i64 q.1.2.1.1, .int .i64 q.1.2.1.2.1, .int .i64 q.1.2.1.2.2.1, .int .i64 q.1.2.1.2.2.2.1, .int .i64 q.1.2.1.2.2.2.2.1, .int .i64 q.1.2.1.2.2.2.2.2]), (73, .row 44 (.pair yFL (.int .i64)) q.1.2.2.2.1), (71, .mapb (.pair (.int .i64) (.pair (.int .i64) yBR)) (.int .i64) true false q.1.2.2.2.2)],
       fun q => ds.length - q.1.1⟩ ⟨(0, st0.2, lsV ds n st0, [], (lwV ds n 17 st0 []).2), Nat.zero_le _, hlw.2, rfl, by dsimp only; omega, rfl, rfl⟩ ?_ ?_
      · simp only [go_sem]
        exact ⟨rfl, rfl, rfl, rfl, rfl, rfl, rfl, rfl, hlw.1⟩
      · rintro ⟨⟨i, ⟨(a0 : Int), (a1 : Int), (a2 : Int), (a3 : Int), (a4 : Int), (a5 : Int)⟩, (rest : Int), (acc : List All), (m : Mem6)⟩, (hi : i ≤ ds.length), (hm : MemOk ds n m), (hr : rest = lsV ds n ((i : Int), a0, a1, a2, a3, a4, a5)), (hr17 : rest < 17), (hal : acc.length = i), (hacc : acc ++ allR (ds.drop i) cs (RlM.first n ((ds.drop i).map toNd) (frL (a0, a1, a2, a3, a4, a5)) rest) = allR ds cs (pathR ds n))⟩
        (simp -implicitDefEqProofs (maxSteps := 4000000) only [go_sem, Bool.not_eq_true', Bool.not_eq_false', Bool.or_eq_true, Bool.or_eq_false_iff, Bool.and_eq_true, Bool.and_eq_false_iff, decide_eq_true_eq, decide_eq_false_iff_not, Classical.not_not, not_or, maxLen, con11, con26, con27, con28, conL29, con30, conL31, con32, con33, hT, hG, hk, hK, Try.results11, leastC, con31, sortFCon]); (try simp (disch := decide +kernel) only [drawn, true_and, and_true])
        refine fun _ => ⟨fun hlt => ⟨by omega, fun _ hw => ?_⟩, fun hge => ?_⟩
        · obtain ⟨x, hx⟩ : ∃ x : Sst, ((i : Int), a0, a1, a2, a3, a4, a5) = x := ⟨_, rfl⟩
          have hx1 : x.1 = (i : Int) := by rw [← hx]
          have hx2 : (a0, a1, a2, a3, a4, a5) = x.2 := by rw [← hx]
          rw [hx] at hr
          rw [hx2] at hacc
          obtain ⟨NA, hNA⟩ : ∃ NA : Ned, ds.getD ((i : Int)).toNat ((ByteArray.empty, 0, ByteArray.empty, 0), 0, 0, 0, false) = NA := ⟨_, rfl⟩
          rw [hNA] at hw ⊢
          have hNA2 : nedAt ds x.1 = NA := by rw [hx1]; exact hNA
          have hdr : ds.drop i = NA :: ds.drop (i + 1) := by
           have := drop_at (ds := ds) (i := (i : Int)) (by omega) (by omega)
           rwa [show nedAt ds (i : Int) = NA from hNA, show ((i : Int) + 1).toNat = i + 1 by omega, Int.toNat_natCast] at this
          have hok : ∀ c : Nat, c < n → RlM.okc n ((ds.drop i).map toNd) (frL x.2) rest c = (possN NA c (x.2.get c) && decide (priceN NA c + lsV ds n (aftV ds x c) = rest)) := fun c hc => by
           rw [hdr, lsV_aft (by omega), hNA2, hx1, show ((i : Int) + 1).toNat = i + 1 by omega, get_eq _ (show c < 6 by omega)]
           rfl
          refine evk_loop ⟨{ q : Int × Mem6 // 0 ≤ q.1 ∧ q.1 ≤ n ∧ MemOk ds n q.2 ∧ ∀ c : Nat, (c : Int) < q.1 → RlM.okc n ((ds.drop i).map toNd) (frL x.2) rest c = false }, 4000,
           fun q => [(1, .one (.sl (.int .i64) cs false)), (16, .one (.loc 70 0)), (17, .one (.loc 72 0)), (18, .one (.int .i64 rest)), (19, .one (.row 73)), (20, .one (.loc 74 0)), (85, .one (.int .i64 n)), (86, .one (.int .i64 q.1.1))],
           fun q => [(70, .scell [.sl (.pair yFL (.pair (.int .i64) (.pair (.int .i64) (.pair (.int .i64) .bool)))) ds false, .int .i64 n, .map 71]), (72, .cells 72 [.int .i64 i, .int .i64 a0, .int .i64 a1, .int .i64 a2, .int .i64 a3, .int .i64 a4, .int .i64 a5]), (74, .cells 75 (expl (.pair yFL (.pair (.int .i64) (.pair (.int .i64) (.pair (.int .i64) .bool)))) NA)), (73, .row 44 (.pair yFL (.int .i64)) acc), (71, .mapb (.pair (.int .i64) (.pair (.int .i64) yBR)) (.int .i64) true false q.1.2)],
           fun q => (n - q.1.1).toNat⟩ ⟨(0, m), Int.le_refl 0, by dsimp only; omega, hm, fun c hc => absurd hc (by dsimp only; omega)⟩ ?_ ?_
          · simp only [go_sem]
          · rintro ⟨⟨(c : Int), (mm : Mem6)⟩, (hc0 : 0 ≤ c), (hcn : c ≤ n), (hmm : MemOk ds n mm), (hno : ∀ c' : Nat, (c' : Int) < c → RlM.okc n ((ds.drop i).map toNd) (frL x.2) rest c' = false)⟩
            obtain ⟨c, rfl⟩ := Int.eq_ofNat_of_zero_le hc0
            by_cases hlt2 : c < n
            · have hok1 := hok c hlt2
              have hlc := lw_ok (ds := ds) (n := n) (by omega) 17 (aftV ds x c) mm hmm (by show 0 ≤ x.1 + 1; omega) (by show x.1 + 1 ≤ _; omega) (by show _ - (x.1 + 1) < _; omega)
              have hbc := lwV_bd ds n 17 (aftV ds x c) mm hmm.bd
              have hpb := priceN_bd NA c
              have hn1 : possN NA c (x.2.get c) = false → ∀ c' : Nat, (c' : Int) < (c : Int) + 1 → RlM.okc n ((ds.drop i).map toNd) (frL x.2) rest c' = false := fun h c' hc' => by
               by_cases e : c' = c
               · rw [e, hok1, h]; rfl
               · exact hno c' (by omega)
              have hn2 : ¬ priceN NA c + (lwV ds n 17 (aftV ds x c) mm).1 = rest → ∀ c' : Nat, (c' : Int) < (c : Int) + 1 → RlM.okc n ((ds.drop i).map toNd) (frL x.2) rest c' = false := fun h c' hc' => by
               by_cases e : c' = c
               · rw [hlc.1] at h
                 rw [e, hok1, decide_eq_false h, Bool.and_false]
               · exact hno c' (by omega)
              have hfd : possN NA c (x.2.get c) = true → priceN NA c + (lwV ds n 17 (aftV ds x c) mm).1 = rest → RlM.first n ((ds.drop i).map toNd) (frL x.2) rest = c :: RlM.first n ((ds.drop (i + 1)).map toNd) (frL (aftV ds x c).2) (rest - priceN NA c) := fun h1 h2 => by
               rw [hlc.1] at h2
               have hf : (List.range n).find? (RlM.okc n ((ds.drop i).map toNd) (frL x.2) rest) = some c := by
                rw [List.find?_range_eq_some]
                refine ⟨by rw [hok1, h1, decide_eq_true h2]; rfl, List.mem_range.2 hlt2, fun j hj => by rw [hno j (by omega)]; rfl⟩
               rw [hdr] at hf ⊢
               rw [List.map_cons] at hf ⊢
               rw [first_cons hf, aft_eq ds x (show c < 6 by omega), hNA2]
               rfl
              have hst2 : possN NA c (x.2.get c) = true → priceN NA c + (lwV ds n 17 (aftV ds x c) mm).1 = rest →
               i + 1 ≤ ds.length ∧ MemOk ds n (lwV ds n 17 (aftV ds x c) mm).2 ∧ rest - priceN NA c = lsV ds n (((i + 1 : Nat) : Int), (aftV ds x c).2) ∧ rest - priceN NA c < 17 ∧ (acc ++ [(NA.1, cs.getD c 0)]).length = i + 1 ∧
               (acc ++ [(NA.1, cs.getD c 0)]) ++ allR (ds.drop (i + 1)) cs (RlM.first n ((ds.drop (i + 1)).map toNd) (frL (aftV ds x c).2) (rest - priceN NA c)) = allR ds cs (pathR ds n) := fun h1 h2 => by
               have e1 : (((i + 1 : Nat) : Int), (aftV ds x c).2) = aftV ds x c := by
                have : (aftV ds x c).1 = ((i + 1 : Nat) : Int) := by show x.1 + 1 = _; omega
                rw [← this]
               refine ⟨by omega, hlc.2, by rw [e1, ← hlc.1]; omega, by omega, by rw [List.length_append, List.length_singleton]; omega, ?_⟩
               rw [← hacc, hfd h1 h2, hdr, List.append_assoc]
               rfl
              have hcc : c = 0 ∨ c = 1 ∨ c = 2 ∨ c = 3 ∨ c = 4 ∨ c = 5 := by omega
              clear hok1 hw
              rcases hcc with rfl | rfl | rfl | rfl | rfl | rfl
              · have hg0 : x.2.get ((0 : Nat) : Int) = a0 := by rw [← hx]; rfl
                subst hx
                rw [hg0] at hn1 hfd hst2
                simp only [Int.cast_ofNat_Int, Nat.reduceAdd] at hn1 hn2 hfd hst2 hlc hbc hpb
                (simp -implicitDefEqProofs (maxSteps := 4000000) only [go_sem, Bool.not_eq_true', Bool.not_eq_false', Bool.or_eq_true, Bool.or_eq_false_iff, Bool.and_eq_true, Bool.and_eq_false_iff, decide_eq_true_eq, decide_eq_false_iff_not, Classical.not_not, not_or, maxLen, con11, con26, con27, con28, conL29, con30, conL31, con32, con33, hT, hG, hk, hK, Try.results11, leastC, con31, Int.cast_ofNat_Int, Int.reduceLE, Int.reduceLT, and_self, Int.le_refl, Int.reduceToNat, Ty.dflt]); (try simp (disch := decide +kernel) only [drawn, true_and, and_true])
                simp only [Int.toNat_natCast]
                refine ⟨fun _ => ⟨fun h => ⟨by omega, ?_⟩, fun h => ⟨⟨by omega, by omega, by omega⟩, fun _ _ => ⟨⟨by show 0 ≤ (i : Int) + 1; omega, by show (i : Int) + 1 ≤ _; omega, by omega, by omega, by omega, by show _ - ((i : Int) + 1) < _; omega, hmm.bd⟩, fun _ => ⟨by omega, fun h2 => ⟨by omega, fun _ _ => ⟨by omega, fun _ => ⟨by omega, ?_⟩⟩⟩, fun h2 => ⟨by omega, ?_⟩⟩⟩⟩⟩, fun h => absurd hlt2 (by omega)⟩
                · refine fin_lp ⟨(1, mm), by dsimp only; omega, by dsimp only; omega, hmm, hn1 h⟩ ?_ (by dsimp only; omega)
                  simp only [go_sem]
                  try rfl
                · refine fin_lp ⟨(i + 1, (aftV ds ((i : Int), a0, a1, a2, a3, a4, a5) 0).2, rest - priceN NA 0, acc ++ [(NA.1, cs.getD 0 0)], (lwV ds n 17 (aftV ds ((i : Int), a0, a1, a2, a3, a4, a5) 0) mm).2), hst2 h h2⟩ ?_ (by dsimp only; omega)
                  simp only [go_sem]
                  show (i : Int) + 1 = _
                  omega
                · refine fin_lp ⟨(1, (lwV ds n 17 (aftV ds ((i : Int), a0, a1, a2, a3, a4, a5) 0) mm).2), by dsimp only; omega, by dsimp only; omega, hlc.2, hn2 h2⟩ ?_ (by dsimp only; omega)
                  simp only [go_sem]
                  try rfl
              · have hg0 : x.2.get ((1 : Nat) : Int) = a1 := by rw [← hx]; rfl
                subst hx
                rw [hg0] at hn1 hfd hst2
                simp only [Int.cast_ofNat_Int, Nat.reduceAdd] at hn1 hn2 hfd hst2 hlc hbc hpb
                (simp -implicitDefEqProofs (maxSteps := 4000000) only [go_sem, Bool.not_eq_true', Bool.not_eq_false', Bool.or_eq_true, Bool.or_eq_false_iff, Bool.and_eq_true, Bool.and_eq_false_iff, decide_eq_true_eq, decide_eq_false_iff_not, Classical.not_not, not_or, maxLen, con11, con26, con27, con28, conL29, con30, conL31, con32, con33, hT, hG, hk, hK, Try.results11, leastC, con31, Int.cast_ofNat_Int, Int.reduceLE, Int.reduceLT, and_self, Int.le_refl, Int.reduceToNat, Ty.dflt]); (try simp (disch := decide +kernel) only [drawn, true_and, and_true])
                simp only [Int.toNat_natCast]
                refine ⟨fun _ => ⟨fun h => ⟨by omega, ?_⟩, fun h => ⟨⟨by omega, by omega, by omega⟩, fun _ _ => ⟨⟨by show 0 ≤ (i : Int) + 1; omega, by show (i : Int) + 1 ≤ _; omega, by omega, by omega, by omega, by show _ - ((i : Int) + 1) < _; omega, hmm.bd⟩, fun _ => ⟨by omega, fun h2 => ⟨by omega, fun _ _ => ⟨by omega, fun _ => ⟨by omega, ?_⟩⟩⟩, fun h2 => ⟨by omega, ?_⟩⟩⟩⟩⟩, fun h => absurd hlt2 (by omega)⟩
                · refine fin_lp ⟨(2, mm), by dsimp only; omega, by dsimp only; omega, hmm, hn1 h⟩ ?_ (by dsimp only; omega)
                  simp only [go_sem]
                  try rfl
                · refine fin_lp ⟨(i + 1, (aftV ds ((i : Int), a0, a1, a2, a3, a4, a5) 1).2, rest - priceN NA 1, acc ++ [(NA.1, cs.getD 1 0)], (lwV ds n 17 (aftV ds ((i : Int), a0, a1, a2, a3, a4, a5) 1) mm).2), hst2 h h2⟩ ?_ (by dsimp only; omega)
                  simp only [go_sem]
                  show (i : Int) + 1 = _
                  omega
                · refine fin_lp ⟨(2, (lwV ds n 17 (aftV ds ((i : Int), a0, a1, a2, a3, a4, a5) 1) mm).2), by dsimp only; omega, by dsimp only; omega, hlc.2, hn2 h2⟩ ?_ (by dsimp only; omega)
                  simp only [go_sem]
                  try rfl
              · have hg0 : x.2.get ((2 : Nat) : Int) = a2 := by rw [← hx]; rfl
                subst hx
                rw [hg0] at hn1 hfd hst2
                simp only [Int.cast_ofNat_Int, Nat.reduceAdd] at hn1 hn2 hfd hst2 hlc hbc hpb
                (simp -implicitDefEqProofs (maxSteps := 4000000) only [go_sem, Bool.not_eq_true', Bool.not_eq_false', Bool.or_eq_true, Bool.or_eq_false_iff, Bool.and_eq_true, Bool.and_eq_false_iff, decide_eq_true_eq, decide_eq_false_iff_not, Classical.not_not, not_or, maxLen, con11, con26, con27, con28, conL29, con30, conL31, con32, con33, hT, hG, hk, hK, Try.results11, leastC, con31, Int.cast_ofNat_Int, Int.reduceLE, Int.reduceLT, and_self, Int.le_refl, Int.reduceToNat, Ty.dflt]); (try simp (disch := decide +kernel) only [drawn, true_and, and_true])
                simp only [Int.toNat_natCast]
                refine ⟨fun _ => ⟨fun h => ⟨by omega, ?_⟩, fun h => ⟨⟨by omega, by omega, by omega⟩, fun _ _ => ⟨⟨by show 0 ≤ (i : Int) + 1; omega, by show (i : Int) + 1 ≤ _; omega, by omega, by omega, by omega, by show _ - ((i : Int) + 1) < _; omega, hmm.bd⟩, fun _ => ⟨by omega, fun h2 => ⟨by omega, fun _ _ => ⟨by omega, fun _ => ⟨by omega, ?_⟩⟩⟩, fun h2 => ⟨by omega, ?_⟩⟩⟩⟩⟩, fun h => absurd hlt2 (by omega)⟩
                · refine fin_lp ⟨(3, mm), by dsimp only; omega, by dsimp only; omega, hmm, hn1 h⟩ ?_ (by dsimp only; omega)
                  simp only [go_sem]
                  try rfl
                · refine fin_lp ⟨(i + 1, (aftV ds ((i : Int), a0, a1, a2, a3, a4, a5) 2).2, rest - priceN NA 2, acc ++ [(NA.1, cs.getD 2 0)], (lwV ds n 17 (aftV ds ((i : Int), a0, a1, a2, a3, a4, a5) 2) mm).2), hst2 h h2⟩ ?_ (by dsimp only; omega)
                  simp only [go_sem]
                  show (i : Int) + 1 = _
                  omega
                · refine fin_lp ⟨(3, (lwV ds n 17 (aftV ds ((i : Int), a0, a1, a2, a3, a4, a5) 2) mm).2), by dsimp only; omega, by dsimp only; omega, hlc.2, hn2 h2⟩ ?_ (by dsimp only; omega)
                  simp only [go_sem]
                  try rfl
              · have hg0 : x.2.get ((3 : Nat) : Int) = a3 := by rw [← hx]; rfl
                subst hx
                rw [hg0] at hn1 hfd hst2
                simp only [Int.cast_ofNat_Int, Nat.reduceAdd] at hn1 hn2 hfd hst2 hlc hbc hpb
                (simp -implicitDefEqProofs (maxSteps := 4000000) only [go_sem, Bool.not_eq_true', Bool.not_eq_false', Bool.or_eq_true, Bool.or_eq_false_iff, Bool.and_eq_true, Bool.and_eq_false_iff, decide_eq_true_eq, decide_eq_false_iff_not, Classical.not_not, not_or, maxLen, con11, con26, con27, con28, conL29, con30, conL31, con32, con33, hT, hG, hk, hK, Try.results11, leastC, con31, Int.cast_ofNat_Int, Int.reduceLE, Int.reduceLT, and_self, Int.le_refl, Int.reduceToNat, Ty.dflt]); (try simp (disch := decide +kernel) only [drawn, true_and, and_true])
                simp only [Int.toNat_natCast]
                refine ⟨fun _ => ⟨fun h => ⟨by omega, ?_⟩, fun h => ⟨⟨by omega, by omega, by omega⟩, fun _ _ => ⟨⟨by show 0 ≤ (i : Int) + 1; omega, by show (i : Int) + 1 ≤ _; omega, by omega, by omega, by omega, by show _ - ((i : Int) + 1) < _; omega, hmm.bd⟩, fun _ => ⟨by omega, fun h2 => ⟨by omega, fun _ _ => ⟨by omega, fun _ => ⟨by omega, ?_⟩⟩⟩, fun h2 => ⟨by omega, ?_⟩⟩⟩⟩⟩, fun h => absurd hlt2 (by omega)⟩
                · refine fin_lp ⟨(4, mm), by dsimp only; omega, by dsimp only; omega, hmm, hn1 h⟩ ?_ (by dsimp only; omega)
                  simp only [go_sem]
                  try rfl
                · refine fin_lp ⟨(i + 1, (aftV ds ((i : Int), a0, a1, a2, a3, a4, a5) 3).2, rest - priceN NA 3, acc ++ [(NA.1, cs.getD 3 0)], (lwV ds n 17 (aftV ds ((i : Int), a0, a1, a2, a3, a4, a5) 3) mm).2), hst2 h h2⟩ ?_ (by dsimp only; omega)
                  simp only [go_sem]
                  show (i : Int) + 1 = _
                  omega
                · refine fin_lp ⟨(4, (lwV ds n 17 (aftV ds ((i : Int), a0, a1, a2, a3, a4, a5) 3) mm).2), by dsimp only; omega, by dsimp only; omega, hlc.2, hn2 h2⟩ ?_ (by dsimp only; omega)
                  simp only [go_sem]
                  try rfl
              · have hg0 : x.2.get ((4 : Nat) : Int) = a4 := by rw [← hx]; rfl
                subst hx
                rw [hg0] at hn1 hfd hst2
                simp only [Int.cast_ofNat_Int, Nat.reduceAdd] at hn1 hn2 hfd hst2 hlc hbc hpb
                (simp -implicitDefEqProofs (maxSteps := 4000000) only [go_sem, Bool.not_eq_true', Bool.not_eq_false', Bool.or_eq_true, Bool.or_eq_false_iff, Bool.and_eq_true, Bool.and_eq_false_iff, decide_eq_true_eq, decide_eq_false_iff_not, Classical.not_not, not_or, maxLen, con11, con26, con27, con28, conL29, con30, conL31, con32, con33, hT, hG, hk, hK, Try.results11, leastC, con31, Int.cast_ofNat_Int, Int.reduceLE, Int.reduceLT, and_self, Int.le_refl, Int.reduceToNat, Ty.dflt]); (try simp (disch := decide +kernel) only [drawn, true_and, and_true])
                simp only [Int.toNat_natCast]
                refine ⟨fun _ => ⟨fun h => ⟨by omega, ?_⟩, fun h => ⟨⟨by omega, by omega, by omega⟩, fun _ _ => ⟨⟨by show 0 ≤ (i : Int) + 1; omega, by show (i : Int) + 1 ≤ _; omega, by omega, by omega, by omega, by show _ - ((i : Int) + 1) < _; omega, hmm.bd⟩, fun _ => ⟨by omega, fun h2 => ⟨by omega, fun _ _ => ⟨by omega, fun _ => ⟨by omega, ?_⟩⟩⟩, fun h2 => ⟨by omega, ?_⟩⟩⟩⟩⟩, fun h => absurd hlt2 (by omega)⟩
                · refine fin_lp ⟨(5, mm), by dsimp only; omega, by dsimp only; omega, hmm, hn1 h⟩ ?_ (by dsimp only; omega)
                  simp only [go_sem]
                  try rfl
                · refine fin_lp ⟨(i + 1, (aftV ds ((i : Int), a0, a1, a2, a3, a4, a5) 4).2, rest - priceN NA 4, acc ++ [(NA.1, cs.getD 4 0)], (lwV ds n 17 (aftV ds ((i : Int), a0, a1, a2, a3, a4, a5) 4) mm).2), hst2 h h2⟩ ?_ (by dsimp only; omega)
                  simp only [go_sem]
                  show (i : Int) + 1 = _
                  omega
                · refine fin_lp ⟨(5, (lwV ds n 17 (aftV ds ((i : Int), a0, a1, a2, a3, a4, a5) 4) mm).2), by dsimp only; omega, by dsimp only; omega, hlc.2, hn2 h2⟩ ?_ (by dsimp only; omega)
                  simp only [go_sem]
                  try rfl
              · have hg0 : x.2.get ((5 : Nat) : Int) = a5 := by rw [← hx]; rfl
                subst hx
                rw [hg0] at hn1 hfd hst2
                simp only [Int.cast_ofNat_Int, Nat.reduceAdd] at hn1 hn2 hfd hst2 hlc hbc hpb
                (simp -implicitDefEqProofs (maxSteps := 4000000) only [go_sem, Bool.not_eq_true', Bool.not_eq_false', Bool.or_eq_true, Bool.or_eq_false_iff, Bool.and_eq_true, Bool.and_eq_false_iff, decide_eq_true_eq, decide_eq_false_iff_not, Classical.not_not, not_or, maxLen, con11, con26, con27, con28, conL29, con30, conL31, con32, con33, hT, hG, hk, hK, Try.results11, leastC, con31, Int.cast_ofNat_Int, Int.reduceLE, Int.reduceLT, and_self, Int.le_refl, Int.reduceToNat, Ty.dflt]); (try simp (disch := decide +kernel) only [drawn, true_and, and_true])
                simp only [Int.toNat_natCast]
                refine ⟨fun _ => ⟨fun h => ⟨by omega, ?_⟩, fun h => ⟨⟨by omega, by omega, by omega⟩, fun _ _ => ⟨⟨by show 0 ≤ (i : Int) + 1; omega, by show (i : Int) + 1 ≤ _; omega, by omega, by omega, by omega, by show _ - ((i : Int) + 1) < _; omega, hmm.bd⟩, fun _ => ⟨by omega, fun h2 => ⟨by omega, fun _ _ => ⟨by omega, fun _ => ⟨by omega, ?_⟩⟩⟩, fun h2 => ⟨by omega, ?_⟩⟩⟩⟩⟩, fun h => absurd hlt2 (by omega)⟩
                · refine fin_lp ⟨(6, mm), by dsimp only; omega, by dsimp only; omega, hmm, hn1 h⟩ ?_ (by dsimp only; omega)
                  simp only [go_sem]
                  try rfl
                · refine fin_lp ⟨(i + 1, (aftV ds ((i : Int), a0, a1, a2, a3, a4, a5) 5).2, rest - priceN NA 5, acc ++ [(NA.1, cs.getD 5 0)], (lwV ds n 17 (aftV ds ((i : Int), a0, a1, a2, a3, a4, a5) 5) mm).2), hst2 h h2⟩ ?_ (by dsimp only; omega)
                  simp only [go_sem]
                  show (i : Int) + 1 = _
                  omega
                · refine fin_lp ⟨(6, (lwV ds n 17 (aftV ds ((i : Int), a0, a1, a2, a3, a4, a5) 5) mm).2), by dsimp only; omega, by dsimp only; omega, hlc.2, hn2 h2⟩ ?_ (by dsimp only; omega)
                  simp only [go_sem]
                  try rfl
            · exfalso
              obtain rfl : c = n := by omega
              have hx0 := lsV_step (ds := ds) (n := c) (x := x) (by omega) (by omega) (by omega)
              rcases RlM.fold_ex (d := toNd (nedAt ds x.1)) (fr := frL x.2) (f := fun k => RlM.least c ((ds.drop (x.1 + 1).toNat).map toNd) (RlM.after (toNd (nedAt ds x.1)) k (frL x.2))) (List.range c) 17 with h | ⟨k, hk1, hk2, hk3⟩
              · rw [← hx0] at h; omega
              · have hk4 := List.mem_range.1 hk1
                have := hno k (by omega)
                rw [hok k hk4, poss_eq, get_eq _ (show k < 6 by omega), ← hNA2, hk2, price_eq, lsV_aft (by omega), ← hk3, ← hx0, hr] at this
                simp at this
        · rw [List.drop_of_length_le (by omega)] at hacc
          have hA : acc = allR ds cs (pathR ds n) := by rw [← hacc]; exact (List.append_nil _).symm
          have hnk : (acc.map (fun a => a.1)).Nodup := by
           rw [hA]
           refine (allR_keys cs ds _).nodup ?_
           rw [← hds]
           exact need_nodup h0
          refine ⟨by omega, fun a h => ?_⟩
          rw [e0, ← hA]
          exact ⟨rfl, sortAl_eq hnk h.1 h.2⟩)
end Go.Proofs.Ytfaoonbnbdlgaaa
