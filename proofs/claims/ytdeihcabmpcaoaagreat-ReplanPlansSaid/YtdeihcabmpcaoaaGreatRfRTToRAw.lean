/- The plain law: what is known already is right; the order of the allocations. -/
import Derived.Test.YtdeihcabmpcaoaaGreatRfROToF
import Derived.Test.YtdeihcabmpcaoaaGreatRfLay
set_option linter.unusedSimpArgs false
set_option linter.unusedVariables false
set_option maxRecDepth 100000
set_option maxHeartbeats 4000000
namespace Go.Proofs.YtdeihcabmpcaoaaGreat
open Go.Ev

def con40 : Con := { ps := [.d true (.pair yFL (.int .i64)), .d true (.pair yFL (.int .i64))], rs := [.d false (.int .i64)], pre := fun _ => True, out := fun x => (fltC x.1.1 x.2.1.1, ()), nw := id }
theorem c40 : CtrOk Tryz.prog 40 con40.ctr :=
 con_sound (G := ⟨[(41, con41.ctr)], [], [], [], []⟩) tab_ok (EnvOk.cons c41 has41 EnvOk.nil) rfl Tryz.func40 rfl con40 31 (by kernel_rfl) (by decide) (by decide) rfl (by decide) rfl (by
  rintro ⟨⟨a, (x : Int)⟩, ⟨b, (y : Int)⟩, _⟩ hpre hwf X hT hG hk hK
  (simp -implicitDefEqProofs (maxSteps := 4000000) only [go_sem, Bool.not_eq_true', Bool.not_eq_false', Bool.or_eq_true, Bool.or_eq_false_iff, Bool.and_eq_true, Bool.and_eq_false_iff, decide_eq_true_eq, decide_eq_false_iff_not, Classical.not_not, not_or, maxLen, con40, con41, hT, hG, hk, hK, Tryz.results40] at hwf ⊢); (try simp (disch := decide +kernel) only [drawn, true_and, and_true]))
def conR39 : RCon := sortFCon 46 (.pair yFL (.int .i64)) 40 (fun a b => fltC a.1 b.1)
theorem cR39 : RCtrOk Tryz.prog 39 conR39.rctr := sort_func (e := 46) (t := (.pair yFL (.int .i64))) Tryz.sortF (by decide) Tryz.isAgg46 Tryz.sizeOf46 (show StrictP Tryz.prog by unfold StrictP; kernel_rfl) (c := fun (a b : All) => fltC a.1 b.1) c40 has40 all_swo
def toNd (n : Ned) : RlM.Nd := ⟨n.frm, n.to, n.home, n.fixed⟩
def frL (f : Fre) : List Int := [f.1, f.2.1, f.2.2.1, f.2.2.2.1, f.2.2.2.2.1, f.2.2.2.2.2]
theorem poss_eq (n : Ned) (c : Nat) (f : Int) : possN n c f = RlM.poss (toNd n) c f := rfl
theorem price_eq (n : Ned) (c : Nat) : priceN n c = RlM.price (toNd n) c := rfl
theorem get_eq (f : Fre) {c : Nat} (h : c < 6) : f.get c = (frL f).getD c 0 := by
 rcases (by omega : c = 0 ∨ c = 1 ∨ c = 2 ∨ c = 3 ∨ c = 4 ∨ c = 5) with rfl | rfl | rfl | rfl | rfl | rfl <;> rfl
theorem aft_eq (ds : List Ned) (x : Sst) {c : Nat} (h : c < 6) : frL (aftV ds x c).2 = RlM.after (toNd (nedAt ds x.1)) c (frL x.2) := by
 obtain ⟨i, a0, a1, a2, a3, a4, a5⟩ := x
 rcases (by omega : c = 0 ∨ c = 1 ∨ c = 2 ∨ c = 3 ∨ c = 4 ∨ c = 5) with rfl | rfl | rfl | rfl | rfl | rfl <;> rfl
/-- The least number of moves from a state on. -/
def lsV (ds : List Ned) (n : Nat) (x : Sst) : Int := RlM.least n ((ds.drop x.1.toNat).map toNd) (frL x.2)
def MemOk (ds : List Ned) (n : Nat) (m : Mem6) : Prop := ∀ p ∈ m, p.2 = lsV ds n p.1
theorem lsV_bd (ds : List Ned) (n : Nat) (x : Sst) : 0 ≤ lsV ds n x ∧ lsV ds n x ≤ 17 := by
 refine ⟨?_, RlM.least_nn _ _ _⟩
 unfold lsV
 by_cases h : RlM.least n ((ds.drop x.1.toNat).map toNd) (frL x.2) < RlM.nn
 · obtain ⟨cs, _, h2⟩ := RlM.least_ex h
   have := RlM.cost_le ((ds.drop x.1.toNat).map toNd) cs
   omega
 · have : RlM.nn = 17 := rfl
   omega
theorem MemOk.bd {ds : List Ned} {n : Nat} {m : Mem6} (h : MemOk ds n m) : MB m := fun p hp => by rw [h p hp]; exact lsV_bd ds n p.1
theorem key_eq {a b : Sst} (h : keyEq KS a b = true) : a = b := by
 obtain ⟨i, a0, a1, a2, a3, a4, a5⟩ := a
 obtain ⟨j, b0, b1, b2, b3, b4, b5⟩ := b
 simp only [keyEq, Bool.and_eq_true, decide_eq_true_eq] at h
 obtain ⟨h0, h1, h2, h3, h4, h5, h6⟩ := h
 subst h0 h1 h2 h3 h4 h5 h6
 rfl
theorem drop_at {ds : List Ned} {i : Int} (h0 : 0 ≤ i) (h : i < ds.length) : ds.drop i.toNat = nedAt ds i :: ds.drop (i + 1).toNat := by
 have hi : i.toNat < ds.length := by omega
 rw [List.drop_eq_getElem_cons hi, show (i + 1).toNat = i.toNat + 1 by omega]
 unfold nedAt
 rw [List.getD_eq_getElem?_getD, List.getElem?_eq_getElem hi]; rfl
theorem lsV_step {ds : List Ned} {n : Nat} {x : Sst} (h0 : 0 ≤ x.1) (h : x.1 < ds.length) (h6 : n ≤ 6) :
 lsV ds n x = (List.range n).foldl (RlM.stepL (toNd (nedAt ds x.1)) (frL x.2) (fun c => RlM.least n ((ds.drop (x.1 + 1).toNat).map toNd) (RlM.after (toNd (nedAt ds x.1)) c (frL x.2)))) 17 := by
 unfold lsV
 rw [drop_at h0 h]
 rfl
theorem lsV_aft {ds : List Ned} {n : Nat} {x : Sst} {c : Nat} (h : c < 6) : lsV ds n (aftV ds x c) = RlM.least n ((ds.drop (x.1 + 1).toNat).map toNd) (RlM.after (toNd (nedAt ds x.1)) c (frL x.2)) := by
 unfold lsV
 rw [aft_eq ds x h]
 rfl
theorem min_eq (a b : Int) : minI a b = min a b := by unfold minI; split <;> omega
theorem fold_ok {ds : List Ned} {n : Nat} {x : Sst} {f : Sst → Mem6 → Int × Mem6} (hf : ∀ c m, c < n → MemOk ds n m → (f (aftV ds x c) m).1 = lsV ds n (aftV ds x c) ∧ MemOk ds n (f (aftV ds x c) m).2) (h6 : n ≤ 6) :
 ∀ (l : List Nat) (q : Int × Mem6), (∀ c ∈ l, c < n) → MemOk ds n q.2 →
   (l.foldl (stepW ds f x) q).1 = l.foldl (RlM.stepL (toNd (nedAt ds x.1)) (frL x.2) (fun c => RlM.least n ((ds.drop (x.1 + 1).toNat).map toNd) (RlM.after (toNd (nedAt ds x.1)) c (frL x.2)))) q.1 ∧ MemOk ds n (l.foldl (stepW ds f x) q).2
 | [], q, _, h => ⟨rfl, h⟩
 | c :: l, q, hl, h => by
   have hc := hl c List.mem_cons_self
   simp only [List.foldl_cons]
   have key : (stepW ds f x q c).1 = RlM.stepL (toNd (nedAt ds x.1)) (frL x.2) (fun c => RlM.least n ((ds.drop (x.1 + 1).toNat).map toNd) (RlM.after (toNd (nedAt ds x.1)) c (frL x.2))) q.1 c ∧ MemOk ds n (stepW ds f x q c).2 := by
    unfold stepW RlM.stepL
    rw [poss_eq, get_eq x.2 (show c < 6 by omega)]
    by_cases hp : RlM.poss (toNd (nedAt ds x.1)) c ((frL x.2).getD c 0) = true
    · rw [if_pos hp, if_pos hp]
      have := hf c q.2 hc h
      refine ⟨?_, this.2⟩
      dsimp only
      rw [min_eq, this.1, lsV_aft (by omega), price_eq]
    · rw [if_neg hp, if_neg hp]
      exact ⟨rfl, h⟩
   have ih := fold_ok hf h6 l (stepW ds f x q c) (fun c hc => hl c (List.mem_cons_of_mem _ hc)) key.2
   rw [key.1] at ih
   exact ih
theorem lw_ok {ds : List Ned} {n : Nat} (h6 : n ≤ 6) : ∀ (k : Nat) (x : Sst) (m : Mem6), MemOk ds n m → 0 ≤ x.1 → x.1 ≤ ds.length → (ds.length : Int) - x.1 < k →
 (lwV ds n k x m).1 = lsV ds n x ∧ MemOk ds n (lwV ds n k x m).2
 | 0, x, m, _, _, h, h2 => absurd h2 (by omega)
 | k + 1, x, m, hm, h0, h1, h2 => by
   unfold lwV
   by_cases he : x.1 = ds.length
   · rw [if_pos he]
     refine ⟨?_, hm⟩
     unfold lsV
     rw [List.drop_of_length_le (by omega)]; rfl
   · rw [if_neg he]
     cases hg : mget (kt := KS) (β := Int) m x with
     | some v =>
       obtain ⟨p, hp, e1, e2⟩ := mget_mem hg
       refine ⟨?_, hm⟩
       rw [key_eq e2]
       show v = _
       rw [← e1]; exact hm p hp
     | none =>
       have hf : ∀ c m, c < n → MemOk ds n m → (lwV ds n k (aftV ds x c) m).1 = lsV ds n (aftV ds x c) ∧ MemOk ds n (lwV ds n k (aftV ds x c) m).2 := fun c m hc hm =>
        lw_ok h6 k (aftV ds x c) m hm (by show 0 ≤ x.1 + 1; omega) (by show x.1 + 1 ≤ _; omega) (by show _ - (x.1 + 1) < _; omega)
       have a := fold_ok (x := x) hf h6 (List.range n) (17, m) (fun c hc => List.mem_range.1 hc) hm
       rw [← lsV_step h0 (by omega) h6] at a
       refine ⟨a.1, fun p hp => ?_⟩
       rcases mset_mem p hp with h | h
       · rw [h]; exact a.1
       · exact a.2 p h
end Go.Proofs.YtdeihcabmpcaoaaGreat

/- The contract of replan.Repair. -/
set_option linter.unusedSimpArgs false
set_option linter.unusedVariables false
set_option maxRecDepth 100000
set_option maxHeartbeats 16000000
namespace Go.Proofs.YtdeihcabmpcaoaaGreat
open Go.Ev

structure CC where
 ctr : Ctr
def conL35 : CC := ⟨scB (leastC 17).ctr⟩
theorem cL35 : CtrOk Tryz.prog 35 conL35.ctr := scB_ok (leastOk 17)
def conL37 : CC := ⟨scB con37.ctr⟩
theorem cL37 : CtrOk Tryz.prog 37 conL37.ctr := scB_ok c37
theorem argR_ok {l : List Dep} {cs : List Int} {t : Int} (h : argR l cs t = 0) : (∀ d ∈ l, validV d = true) ∧ actN l t ≤ 16 ∧ cs.length ≤ 6 := by
 unfold argR at h
 by_cases h1 : validateV l = 0
 · rw [if_neg (by omega)] at h
   by_cases h2 : (actN l t : Int) > 16 ∨ (cs.length : Int) > 6
   · rw [if_pos h2] at h; omega
   · exact ⟨(valid_ok h1).2.1, by omega, by omega⟩
 · rw [if_pos h1] at h; omega
theorem first_cons {n : Nat} {d : RlM.Nd} {ds : List RlM.Nd} {fr : List Int} {rest : Int} {c : Nat} (h : (List.range n).find? (RlM.okc n (d :: ds) fr rest) = some c) :
 RlM.first n (d :: ds) fr rest = c :: RlM.first n ds (RlM.after d c fr) (rest - RlM.price d c) := by
 rw [RlM.first, h]
def allR (ds : List Ned) (cs : List Int) (l : List Nat) : List All := (ds.zip l).map (fun p => (p.1.1, cs.getD p.2 0))
def st0 : Sst := (0, 0, 0, 0, 0, 0, 0)
def pathR (ds : List Ned) (n : Nat) : List Nat := RlM.first n (ds.map toNd) (frL st0.2) (lsV ds n st0)
def repV (l : List Dep) (cs : List Int) (old : List All) (t : Int) : List All × Int :=
 if argR l cs t ≠ 0 then ([], argR l cs t)
 else if ¬ ((fixV l cs old t).map (fun a => a.2)).Nodup then ([], 7)
 else if 17 ≤ lsV (needV l cs old (fixV l cs old t) t) cs.length st0 then ([], 11)
 else (sortAl (allR (needV l cs old (fixV l cs old t) t) cs (pathR (needV l cs old (fixV l cs old t) t) cs.length)), 0)
theorem allR_keys (cs : List Int) : ∀ (ds : List Ned) (l : List Nat), ((allR ds cs l).map (fun a => a.1)).Sublist (ds.map (fun d => d.1))
 | [], _ => List.Sublist.refl _
 | _ :: _, [] => List.nil_sublist _
 | d :: ds, c :: l => (allR_keys cs ds l).cons_cons d.1
theorem need_nodup {l : List Dep} {cs : List Int} {old fx : List All} {t : Int} (h : argR l cs t = 0) : ((needV l cs old fx t).map (fun d => d.1)).Nodup := by
 have h1 : validateV l = 0 := by
  unfold argR at h
  by_cases h1 : validateV l = 0
  · exact h1
  · rw [if_pos h1] at h; exact absurd h h1
 have h2 := nodup_flts (valid_ok h1).2.2
 have h3 : ((rawN l cs old fx t).map (fun d => d.1)).Nodup := by
  unfold rawN
  rw [List.map_map]
  exact ((List.filter_sublist (l := l)).map (fun d : Dep => d.1)).nodup h2
 unfold needV
 exact ((isortN_perm _).map (fun d => d.1)).nodup_iff.2 h3
def con11 : Con := { ps := [.d false (.sl yDP), .d false (.sl (.int .i64)), .d false (.sl (.pair yFL (.int .i64))), .d false (.int .i64)], rs := [.d false (.sl (.pair yFL (.int .i64))), .d false (.int .i64)], pre := fun (x : List Dep × List Int × List All × Int × Unit) => x.1.length ≤ 1048576, out := fun (x : List Dep × List Int × List All × Int × Unit) => ((repV x.1 x.2.1 x.2.2.1 x.2.2.2.1).1, (repV x.1 x.2.1 x.2.2.1 x.2.2.2.1).2, ()), nw := id }
theorem c11 : CtrOk Tryz.prog 11 con11.ctr :=
 con_sound (G := ⟨[(32, con32.ctr), (33, con33.ctr), (34, con34.ctr), (35, conL35.ctr), (36, con36.ctr), (37, conL37.ctr), (38, con38.ctr)], [(39, conR39.rctr)], [], [], []⟩) tab_ok (EnvOk.cons c32 has32 (EnvOk.cons c33 has33 (EnvOk.cons c34 has34 (EnvOk.cons cL35 has35 (EnvOk.cons c36 has36 (EnvOk.cons cL37 has37 (EnvOk.cons c38 has38 (EnvOk.rcons cR39 has39 EnvOk.nil)))))))) rfl Tryz.func11 rfl con11 162338775944588150378167130898191 (by kernel_rfl) (by decide) (by decide) rfl (by decide) rfl (by
  rintro ⟨(l : List Dep), (cs : List Int), (old : List All), (t : Int), _⟩ hpre hwf X hT hG hk hK
  have hl : l.length ≤ 1048576 := hpre
  (simp -implicitDefEqProofs (maxSteps := 4000000) only [go_sem, Bool.not_eq_true', Bool.not_eq_false', Bool.or_eq_true, Bool.or_eq_false_iff, Bool.and_eq_true, Bool.and_eq_false_iff, decide_eq_true_eq, decide_eq_false_iff_not, Classical.not_not, not_or, maxLen, con11, con32, con33, con34, conL35, con36, conL37, con38, conR39, hT, hG, hk, hK, Tryz.results11, leastC, con37] at hwf ⊢); (try simp (disch := decide +kernel) only [drawn, true_and, and_true])
  clear hwf
  refine ⟨hl, fun _ => ⟨fun h => ?_, fun h0 => ⟨hl, fun _ hfl => ?_⟩⟩⟩
  · rw [show repV l cs old t = ([], argR l cs t) from if_pos h]
    exact ⟨rfl, rfl⟩
  have e0 : repV l cs old t = if ¬ ((fixV l cs old t).map (fun a => a.2)).Nodup then ([], 7)
   else if 17 ≤ lsV (needV l cs old (fixV l cs old t) t) cs.length st0 then ([], 11)
   else (sortAl (allR (needV l cs old (fixV l cs old t) t) cs (pathR (needV l cs old (fixV l cs old t) t) cs.length)), 0) := if_neg (by omega)
  generalize hfx : fixV l cs old t = fx at hfl e0
  refine evk_loop ⟨{ i : Nat // i ≤ fx.length ∧ ((fx.take i).map (fun a => a.2)).Nodup }, 1000, fun i => [(0, .one (.sl yDP l false)), (1, .one (.sl (.int .i64) cs false)), (2, .one (.sl (.pair yFL (.int .i64)) old false)), (3, .one (.int .i64 t)), (11, .one (.sl (.pair yFL (.int .i64)) fx false)), (35, .one (.sl (.pair yFL (.int .i64)) fx false)), (36, .one (.int .i64 fx.length)), (37, .one (.int .i64 i.1))],
   fun i => [], fun i => fx.length - i.1⟩ ⟨0, Nat.zero_le _, by simp⟩ ?_ ?_
  · simp only [go_sem]
    rfl
  · rintro ⟨i, (hi : i ≤ fx.length), (hnd : ((fx.take i).map (fun a : All => a.2)).Nodup)⟩
    (simp -implicitDefEqProofs (maxSteps := 4000000) only [go_sem, Bool.not_eq_true', Bool.not_eq_false', Bool.or_eq_true, Bool.or_eq_false_iff, Bool.and_eq_true, Bool.and_eq_false_iff, decide_eq_true_eq, decide_eq_false_iff_not, Classical.not_not, not_or, maxLen, con11, con32, con33, con34, conL35, con36, conL37, con38, conR39, hT, hG, hk, hK, Tryz.results11, leastC, con37]); (try simp (disch := decide +kernel) only [drawn, true_and, and_true])
    refine ⟨fun hlt => ?_, fun hge => ?_⟩
    · have hi' : i < fx.length := by omega
      have ek : ∀ z, fx.getD (i : Int).toNat z = fx[i] := fun z => by simp [hi']
      simp only [ek]
      simp only [Int.toNat_natCast]
      have hpl : (fx.take i).length = i := by rw [List.length_take]; omega
      refine ⟨by omega, fun _ _ => ⟨by omega, fun _ => ?_⟩⟩
      refine evk_loop ⟨{ j : Nat // j ≤ i ∧ ∀ a ∈ fx.take j, a.2 ≠ fx[i].2 }, 2000, fun j => [(0, .one (.sl yDP l false)), (1, .one (.sl (.int .i64) cs false)), (2, .one (.sl (.pair yFL (.int .i64)) old false)), (3, .one (.int .i64 t)), (11, .one (.sl (.pair yFL (.int .i64)) fx false)), (13, .one (.loc 64 0)), (35, .one (.sl (.pair yFL (.int .i64)) fx false)), (36, .one (.int .i64 fx.length)), (37, .one (.int .i64 i)), (44, .one (.sl (.pair yFL (.int .i64)) (fx.take i) false)), (45, .one (.int .i64 i)), (46, .one (.int .i64 j.1))],
       fun _ => [(64, .cells 46 (expl (.pair yFL (.int .i64)) fx[i]))], fun j => i - j.1⟩ ⟨0, Nat.zero_le _, by simp⟩ ?_ ?_
      · simp only [go_sem]
        simp only [hpl, List.drop_zero]
        exact ⟨rfl, trivial⟩
      · rintro ⟨j, (hj : j ≤ i), (hne : ∀ a ∈ fx.take j, a.2 ≠ fx[i].2)⟩
        (simp -implicitDefEqProofs (maxSteps := 4000000) only [go_sem, Bool.not_eq_true', Bool.not_eq_false', Bool.or_eq_true, Bool.or_eq_false_iff, Bool.and_eq_true, Bool.and_eq_false_iff, decide_eq_true_eq, decide_eq_false_iff_not, Classical.not_not, not_or, maxLen, con11, con32, con33, con34, conL35, con36, conL37, con38, conR39, hT, hG, hk, hK, Tryz.results11, leastC, con37]); (try simp (disch := decide +kernel) only [drawn, true_and, and_true])
        have hjx : j < i → ∀ z, (fx.take i).getD (j : Int).toNat z = fx[j]'(by omega) := fun h z => by
         simp [h, List.getElem?_eq_getElem (show j < fx.length by omega)]
        refine ⟨fun hlt => ?_, fun hge => ?_⟩
        · simp only [hjx (by omega)]
          have hmem : fx[j]'(by omega) ∈ fx.take i := by
           rw [List.mem_take_iff_getElem]
           exact ⟨j, by omega, rfl⟩
          refine ⟨by omega, fun _ _ => ⟨fun h => ?_, fun h => ⟨by omega, ?_⟩⟩⟩
          · rw [if_pos (fun hn => by
             have e : fx = fx.take i ++ fx[i] :: fx.drop (i + 1) := by rw [List.getElem_cons_drop hi', List.take_append_drop]
             rw [e, List.map_append, List.map_cons, List.nodup_append] at hn
             exact hn.2.2 _ (List.mem_map_of_mem hmem) _ List.mem_cons_self h.symm)] at e0
            rw [e0]; exact ⟨rfl, rfl⟩
          · refine fin_lp ⟨j + 1, by omega, fun a ha => ?_⟩ ?_ ?_
            · rw [List.take_succ_eq_append_getElem (show j < fx.length by omega)] at ha
              rcases List.mem_append.1 ha with ha | ha
              · exact hne a ha
              · rw [List.mem_singleton.1 ha]; exact fun k => h k.symm
            · simp only [go_sem]
              omega
            · dsimp only; omega
        · obtain rfl : j = i := by omega
          refine ⟨by omega, ?_⟩
          refine fin_lp ⟨j + 1, by omega, ?_⟩ ?_ ?_
          · rw [List.take_succ_eq_append_getElem hi', List.map_append, List.nodup_append]
            refine ⟨hnd, by simp, fun a ha b hb hab => ?_⟩
            obtain ⟨z, hz, rfl⟩ := List.mem_map.1 ha
            have : b = fx[j].2 := by simpa using hb
            exact hne z hz (hab.trans this)
          · simp only [go_sem]
            omega
          · dsimp only; omega
    · rw [List.take_of_length_le (by omega)] at hnd
      rw [if_neg (by simp only [Classical.not_not]; exact hnd)] at e0
      obtain ⟨g1, g2, g3⟩ := argR_ok h0
      have hdl : (needV l cs old fx t).length ≤ 16 := by unfold needV; rw [isortN_len, rawN_len]; exact g2
      generalize hds : needV l cs old fx t = ds at hdl e0
      obtain ⟨n, hn⟩ : ∃ n, cs.length = n := ⟨_, rfl⟩
      have hlw := lw_ok (ds := ds) (n := n) (by omega) 17 st0 [] (fun p hp => by cases hp) (by decide) (by show (0 : Int) ≤ _; omega) (by show (_ : Int) - 0 < _; omega)
      rw [hn] at e0
      simp only [hn, Int.toNat_natCast]
      refine ⟨⟨hl, g1, g2⟩, fun _ _ => ⟨⟨Int.le_refl _, by omega, by omega, by omega, by omega, by omega, fun p hp => by cases hp⟩, fun _ => ⟨fun h => ?_, fun h => ?_⟩⟩⟩
      · rw [if_pos (by rw [← hlw.1]; exact h)] at e0
        rw [e0]; exact ⟨rfl, rfl⟩
      rw [if_neg (by rw [← hlw.1]; exact h)] at e0
      change ¬ (lwV ds n 17 st0 []).1 ≥ 17 at h
      rw [hlw.1] at h
      refine evk_loop ⟨{ q : Nat × Fre × Int × List All × Mem6 // q.1 ≤ ds.length ∧ MemOk ds n q.2.2.2.2 ∧ q.2.2.1 = lsV ds n ((q.1 : Int), q.2.1) ∧ q.2.2.1 < 17 ∧ q.2.2.2.1.length = q.1 ∧ q.2.2.2.1 ++ allR (ds.drop q.1) cs (RlM.first n ((ds.drop q.1).map toNd) (frL q.2.1) q.2.2.1) = allR ds cs (pathR ds n) }, 3000,
       fun q => [(1, .one (.sl (.int .i64) cs false)), (16, .one (.loc 70 0)), (17, .one (.loc 72 0)), (18, .one (.int .i64 q.1.2.2.1)), (19, .one (.row 73))],
       fun q => [(70, .scell [.sl (.pair yFL (.pair (.int .i64) (.pair (.int .i64) (.pair (.int .i64) .bool)))) ds false, .int .i64 n, .map 71]), (72, .cells 78 [.int .i64 q.1.1, .int .i64 q.1.2.1.1, .int .i64 q.1.2.1.2.1, .int .i64 q.1.2.1.2.2.1, .int .i64 q.1.2.1.2.2.2.1, .int .i64 q.1.2.1.2.2.2.2.1, .int .i64 q.1.2.1.2.2.2.2.2]), (73, .row 46 (.pair yFL (.int .i64)) q.1.2.2.2.1), (71, .mapb (.pair (.int .i64) (.pair (.int .i64) yBR)) (.int .i64) true false q.1.2.2.2.2)],
       fun q => ds.length - q.1.1⟩ ⟨(0, st0.2, lsV ds n st0, [], (lwV ds n 17 st0 []).2), Nat.zero_le _, hlw.2, rfl, by dsimp only; omega, rfl, rfl⟩ ?_ ?_
      · simp only [go_sem]
        exact ⟨rfl, rfl, rfl, rfl, rfl, rfl, rfl, rfl, hlw.1⟩
      · rintro ⟨⟨i, ⟨(a0 : Int), (a1 : Int), (a2 : Int), (a3 : Int), (a4 : Int), (a5 : Int)⟩, (rest : Int), (acc : List All), (m : Mem6)⟩, (hi : i ≤ ds.length), (hm : MemOk ds n m), (hr : rest = lsV ds n ((i : Int), a0, a1, a2, a3, a4, a5)), (hr17 : rest < 17), (hal : acc.length = i), (hacc : acc ++ allR (ds.drop i) cs (RlM.first n ((ds.drop i).map toNd) (frL (a0, a1, a2, a3, a4, a5)) rest) = allR ds cs (pathR ds n))⟩
        (simp -implicitDefEqProofs (maxSteps := 4000000) only [go_sem, Bool.not_eq_true', Bool.not_eq_false', Bool.or_eq_true, Bool.or_eq_false_iff, Bool.and_eq_true, Bool.and_eq_false_iff, decide_eq_true_eq, decide_eq_false_iff_not, Classical.not_not, not_or, maxLen, con11, con32, con33, con34, conL35, con36, conL37, con38, conR39, hT, hG, hk, hK, Tryz.results11, leastC, con37, sortFCon]); (try simp (disch := decide +kernel) only [drawn, true_and, and_true])
        refine fun _ => ⟨fun hlt => ⟨by omega, fun _ hw => ?_⟩, fun hge => ?_⟩
        · obtain ⟨x, hx⟩ : ∃ x : Sst, ((i : Int), a0, a1, a2, a3, a4, a5) = x := ⟨_, rfl⟩
          have hx1 : x.1 = (i : Int) := by rw [← hx]
          have hx2 : (a0, a1, a2, a3, a4, a5) = x.2 := by rw [← hx]
          rw [hx] at hr
          rw [hx2] at hacc
          obtain ⟨NA, hNA⟩ : ∃ NA : Ned, ds.getD ((i : Int)).toNat ((ByteArray.empty, 0, ByteArray.empty, 0), 0, 0, 0, false) = NA := ⟨_, rfl⟩
          rw [hNA] at hw ⊢
          have hNA2 : nedAt ds x.1 = NA := by rw [hx1]; exact hNA
          have hdr : ds.drop i = NA :: ds.drop (i + 1) := by
           have := drop_at (ds := ds) (i := (i : Int)) (by omega) (by omega)
           rwa [show nedAt ds (i : Int) = NA from hNA, show ((i : Int) + 1).toNat = i + 1 by omega, Int.toNat_natCast] at this
          have hok : ∀ c : Nat, c < n → RlM.okc n ((ds.drop i).map toNd) (frL x.2) rest c = (possN NA c (x.2.get c) && decide (priceN NA c + lsV ds n (aftV ds x c) = rest)) := fun c hc => by
           rw [hdr, lsV_aft (by omega), hNA2, hx1, show ((i : Int) + 1).toNat = i + 1 by omega, get_eq _ (show c < 6 by omega)]
           rfl
          refine evk_loop ⟨{ q : Int × Mem6 // 0 ≤ q.1 ∧ q.1 ≤ n ∧ MemOk ds n q.2 ∧ ∀ c : Nat, (c : Int) < q.1 → RlM.okc n ((ds.drop i).map toNd) (frL x.2) rest c = false }, 4000,
           fun q => [(1, .one (.sl (.int .i64) cs false)), (16, .one (.loc 70 0)), (17, .one (.loc 72 0)), (18, .one (.int .i64 rest)), (19, .one (.row 73)), (20, .one (.loc 74 0)), (85, .one (.int .i64 n)), (86, .one (.int .i64 q.1.1))],
           fun q => [(70, .scell [.sl (.pair yFL (.pair (.int .i64) (.pair (.int .i64) (.pair (.int .i64) .bool)))) ds false, .int .i64 n, .map 71]), (72, .cells 78 [.int .i64 i, .int .i64 a0, .int .i64 a1, .int .i64 a2, .int .i64 a3, .int .i64 a4, .int .i64 a5]), (74, .cells 81 (expl (.pair yFL (.pair (.int .i64) (.pair (.int .i64) (.pair (.int .i64) .bool)))) NA)), (73, .row 46 (.pair yFL (.int .i64)) acc), (71, .mapb (.pair (.int .i64) (.pair (.int .i64) yBR)) (.int .i64) true false q.1.2)],
           fun q => (n - q.1.1).toNat⟩ ⟨(0, m), Int.le_refl 0, by dsimp only; omega, hm, fun c hc => absurd hc (by dsimp only; omega)⟩ ?_ ?_
          · simp only [go_sem]
          · rintro ⟨⟨(c : Int), (mm : Mem6)⟩, (hc0 : 0 ≤ c), (hcn : c ≤ n), (hmm : MemOk ds n mm), (hno : ∀ c' : Nat, (c' : Int) < c → RlM.okc n ((ds.drop i).map toNd) (frL x.2) rest c' = false)⟩
            obtain ⟨c, rfl⟩ := Int.eq_ofNat_of_zero_le hc0
            by_cases hlt2 : c < n
            · have hok1 := hok c hlt2
              have hlc := lw_ok (ds := ds) (n := n) (by omega) 17 (aftV ds x c) mm hmm (by show 0 ≤ x.1 + 1; omega) (by show x.1 + 1 ≤ _; omega) (by show _ - (x.1 + 1) < _; omega)
              have hbc := lwV_bd ds n 17 (aftV ds x c) mm hmm.bd
              have hpb := priceN_bd NA c
              have hn1 : possN NA c (x.2.get c) = false → ∀ c' : Nat, (c' : Int) < (c : Int) + 1 → RlM.okc n ((ds.drop i).map toNd) (frL x.2) rest c' = false := fun h c' hc' => by
               by_cases e : c' = c
               · rw [e, hok1, h]; rfl
               · exact hno c' (by omega)
              have hn2 : ¬ priceN NA c + (lwV ds n 17 (aftV ds x c) mm).1 = rest → ∀ c' : Nat, (c' : Int) < (c : Int) + 1 → RlM.okc n ((ds.drop i).map toNd) (frL x.2) rest c' = false := fun h c' hc' => by
               by_cases e : c' = c
               · rw [hlc.1] at h
                 rw [e, hok1, decide_eq_false h, Bool.and_false]
               · exact hno c' (by omega)
              have hfd : possN NA c (x.2.get c) = true → priceN NA c + (lwV ds n 17 (aftV ds x c) mm).1 = rest → RlM.first n ((ds.drop i).map toNd) (frL x.2) rest = c :: RlM.first n ((ds.drop (i + 1)).map toNd) (frL (aftV ds x c).2) (rest - priceN NA c) := fun h1 h2 => by
               rw [hlc.1] at h2
               have hf : (List.range n).find? (RlM.okc n ((ds.drop i).map toNd) (frL x.2) rest) = some c := by
                rw [List.find?_range_eq_some]
                refine ⟨by rw [hok1, h1, decide_eq_true h2]; rfl, List.mem_range.2 hlt2, fun j hj => by rw [hno j (by omega)]; rfl⟩
               rw [hdr] at hf ⊢
               rw [List.map_cons] at hf ⊢
               rw [first_cons hf, aft_eq ds x (show c < 6 by omega), hNA2]
               rfl
              have hst2 : possN NA c (x.2.get c) = true → priceN NA c + (lwV ds n 17 (aftV ds x c) mm).1 = rest →
               i + 1 ≤ ds.length ∧ MemOk ds n (lwV ds n 17 (aftV ds x c) mm).2 ∧ rest - priceN NA c = lsV ds n (((i + 1 : Nat) : Int), (aftV ds x c).2) ∧ rest - priceN NA c < 17 ∧ (acc ++ [(NA.1, cs.getD c 0)]).length = i + 1 ∧
               (acc ++ [(NA.1, cs.getD c 0)]) ++ allR (ds.drop (i + 1)) cs (RlM.first n ((ds.drop (i + 1)).map toNd) (frL (aftV ds x c).2) (rest - priceN NA c)) = allR ds cs (pathR ds n) := fun h1 h2 => by
               have e1 : (((i + 1 : Nat) : Int), (aftV ds x c).2) = aftV ds x c := by
                have : (aftV ds x c).1 = ((i + 1 : Nat) : Int) := by show x.1 + 1 = _; omega
                rw [← this]
               refine ⟨by omega, hlc.2, by rw [e1, ← hlc.1]; omega, by omega, by rw [List.length_append, List.length_singleton]; omega, ?_⟩
               rw [← hacc, hfd h1 h2, hdr, List.append_assoc]
               rfl
              have hcc : c = 0 ∨ c = 1 ∨ c = 2 ∨ c = 3 ∨ c = 4 ∨ c = 5 := by omega
              clear hok1 hw
              rcases hcc with rfl | rfl | rfl | rfl | rfl | rfl
              · have hg0 : x.2.get ((0 : Nat) : Int) = a0 := by rw [← hx]; rfl
                subst hx
                rw [hg0] at hn1 hfd hst2
                simp only [Int.cast_ofNat_Int, Nat.reduceAdd] at hn1 hn2 hfd hst2 hlc hbc hpb
                (simp -implicitDefEqProofs (maxSteps := 4000000) only [go_sem, Bool.not_eq_true', Bool.not_eq_false', Bool.or_eq_true, Bool.or_eq_false_iff, Bool.and_eq_true, Bool.and_eq_false_iff, decide_eq_true_eq, decide_eq_false_iff_not, Classical.not_not, not_or, maxLen, con11, con32, con33, con34, conL35, con36, conL37, con38, conR39, hT, hG, hk, hK, Tryz.results11, leastC, con37, Int.cast_ofNat_Int, Int.reduceLE, Int.reduceLT, and_self, Int.le_refl, Int.reduceToNat, Ty.dflt]); (try simp (disch := decide +kernel) only [drawn, true_and, and_true])
                simp only [Int.toNat_natCast]
                refine ⟨fun _ => ⟨fun h => ⟨by omega, ?_⟩, fun h => ⟨⟨by omega, by omega, by omega⟩, fun _ _ => ⟨⟨by show 0 ≤ (i : Int) + 1; omega, by show (i : Int) + 1 ≤ _; omega, by omega, by omega, by omega, by show _ - ((i : Int) + 1) < _; omega, hmm.bd⟩, fun _ => ⟨by omega, fun h2 => ⟨by omega, fun _ _ => ⟨by omega, fun _ => ⟨by omega, ?_⟩⟩⟩, fun h2 => ⟨by omega, ?_⟩⟩⟩⟩⟩, fun h => absurd hlt2 (by omega)⟩
                · refine fin_lp ⟨(1, mm), by dsimp only; omega, by dsimp only; omega, hmm, hn1 h⟩ ?_ (by dsimp only; omega)
                  simp only [go_sem]
                  try rfl
                · refine fin_lp ⟨(i + 1, (aftV ds ((i : Int), a0, a1, a2, a3, a4, a5) 0).2, rest - priceN NA 0, acc ++ [(NA.1, cs.getD 0 0)], (lwV ds n 17 (aftV ds ((i : Int), a0, a1, a2, a3, a4, a5) 0) mm).2), hst2 h h2⟩ ?_ (by dsimp only; omega)
                  simp only [go_sem]
                  show (i : Int) + 1 = _
                  omega
                · refine fin_lp ⟨(1, (lwV ds n 17 (aftV ds ((i : Int), a0, a1, a2, a3, a4, a5) 0) mm).2), by dsimp only; omega, by dsimp only; omega, hlc.2, hn2 h2⟩ ?_ (by dsimp only; omega)
                  simp only [go_sem]
                  try rfl
              · have hg0 : x.2.get ((1 : Nat) : Int) = a1 := by rw [← hx]; rfl
                subst hx
                rw [hg0] at hn1 hfd hst2
                simp only [Int.cast_ofNat_Int, Nat.reduceAdd] at hn1 hn2 hfd hst2 hlc hbc hpb
                (simp -implicitDefEqProofs (maxSteps := 4000000) only [go_sem, Bool.not_eq_true', Bool.not_eq_false', Bool.or_eq_true, Bool.or_eq_false_iff, Bool.and_eq_true, Bool.and_eq_false_iff, decide_eq_true_eq, decide_eq_false_iff_not, Classical.not_not, not_or, maxLen, con11, con32, con33, con34, conL35, con36, conL37, con38, conR39, hT, hG, hk, hK, Tryz.results11, leastC, con37, Int.cast_ofNat_Int, Int.reduceLE, Int.reduceLT, and_self, Int.le_refl, Int.reduceToNat, Ty.dflt]); (try simp (disch := decide +kernel) only [drawn, true_and, and_true])
                simp only [Int.toNat_natCast]
                refine ⟨fun _ => ⟨fun h => ⟨by omega, ?_⟩, fun h => ⟨⟨by omega, by omega, by omega⟩, fun _ _ => ⟨⟨by show 0 ≤ (i : Int) + 1; omega, by show (i : Int) + 1 ≤ _; omega, by omega, by omega, by omega, by show _ - ((i : Int) + 1) < _; omega, hmm.bd⟩, fun _ => ⟨by omega, fun h2 => ⟨by omega, fun _ _ => ⟨by omega, fun _ => ⟨by omega, ?_⟩⟩⟩, fun h2 => ⟨by omega, ?_⟩⟩⟩⟩⟩, fun h => absurd hlt2 (by omega)⟩
                · refine fin_lp ⟨(2, mm), by dsimp only; omega, by dsimp only; omega, hmm, hn1 h⟩ ?_ (by dsimp only; omega)
                  simp only [go_sem]
                  try rfl
                · refine fin_lp ⟨(i + 1, (aftV ds ((i : Int), a0, a1, a2, a3, a4, a5) 1).2, rest - priceN NA 1, acc ++ [(NA.1, cs.getD 1 0)], (lwV ds n 17 (aftV ds ((i : Int), a0, a1, a2, a3, a4, a5) 1) mm).2), hst2 h h2⟩ ?_ (by dsimp only; omega)
                  simp only [go_sem]
                  show (i : Int) + 1 = _
                  omega
                · refine fin_lp ⟨(2, (lwV ds n 17 (aftV ds ((i : Int), a0, a1, a2, a3, a4, a5) 1) mm).2), by dsimp only; omega, by dsimp only; omega, hlc.2, hn2 h2⟩ ?_ (by dsimp only; omega)
                  simp only [go_sem]
                  try rfl
              · have hg0 : x.2.get ((2 : Nat) : Int) = a2 := by rw [← hx]; rfl
                subst hx
                rw [hg0] at hn1 hfd hst2
                simp only [Int.cast_ofNat_Int, Nat.reduceAdd] at hn1 hn2 hfd hst2 hlc hbc hpb
                (simp -implicitDefEqProofs (maxSteps := 4000000) only [go_sem, Bool.not_eq_true', Bool.not_eq_false', Bool.or_eq_true, Bool.or_eq_false_iff, Bool.and_eq_true, Bool.and_eq_false_iff, decide_eq_true_eq, decide_eq_false_iff_not, Classical.not_not, not_or, maxLen, con11, con32, con33, con34, conL35, con36, conL37, con38, conR39, hT, hG, hk, hK, Tryz.results11, leastC, con37, Int.cast_ofNat_Int, Int.reduceLE, Int.reduceLT, and_self, Int.le_refl, Int.reduceToNat, Ty.dflt]); (try simp (disch := decide +kernel) only [drawn, true_and, and_true])
                simp only [Int.toNat_natCast]
                refine ⟨fun _ => ⟨fun h => ⟨by omega, ?_⟩, fun h => ⟨⟨by omega, by omega, by omega⟩, fun _ _ => ⟨⟨by show 0 ≤ (i : Int) + 1; omega, by show (i : Int) + 1 ≤ _; omega, by omega, by omega, by omega, by show _ - ((i : Int) + 1) < _; omega, hmm.bd⟩, fun _ => ⟨by omega, fun h2 => ⟨by omega, fun _ _ => ⟨by omega, fun _ => ⟨by omega, ?_⟩⟩⟩, fun h2 => ⟨by omega, ?_⟩⟩⟩⟩⟩, fun h => absurd hlt2 (by omega)⟩
                · refine fin_lp ⟨(3, mm), by dsimp only; omega, by dsimp only; omega, hmm, hn1 h⟩ ?_ (by dsimp only; omega)
                  simp only [go_sem]
                  try rfl
                · refine fin_lp ⟨(i + 1, (aftV ds ((i : Int), a0, a1, a2, a3, a4, a5) 2).2, rest - priceN NA 2, acc ++ [(NA.1, cs.getD 2 0)], (lwV ds n 17 (aftV ds ((i : Int), a0, a1, a2, a3, a4, a5) 2) mm).2), hst2 h h2⟩ ?_ (by dsimp only; omega)
                  simp only [go_sem]
                  show (i : Int) + 1 = _
                  omega
                · refine fin_lp ⟨(3, (lwV ds n 17 (aftV ds ((i : Int), a0, a1, a2, a3, a4, a5) 2) mm).2), by dsimp only; omega, by dsimp only; omega, hlc.2, hn2 h2⟩ ?_ (by dsimp only; omega)
                  simp only [go_sem]
                  try rfl
              · have hg0 : x.2.get ((3 : Nat) : Int) = a3 := by rw [← hx]; rfl
                subst hx
                rw [hg0] at hn1 hfd hst2
                simp only [Int.cast_ofNat_Int, Nat.reduceAdd] at hn1 hn2 hfd hst2 hlc hbc hpb
                (simp -implicitDefEqProofs (maxSteps := 4000000) only [go_sem, Bool.not_eq_true', Bool.not_eq_false', Bool.or_eq_true, Bool.or_eq_false_iff, Bool.and_eq_true, Bool.and_eq_false_iff, decide_eq_true_eq, decide_eq_false_iff_not, Classical.not_not, not_or, maxLen, con11, con32, con33, con34, conL35, con36, conL37, con38, conR39, hT, hG, hk, hK, Tryz.results11, leastC, con37, Int.cast_ofNat_Int, Int.reduceLE, Int.reduceLT, and_self, Int.le_refl, Int.reduceToNat, Ty.dflt]); (try simp (disch := decide +kernel) only [drawn, true_and, and_true])
                simp only [Int.toNat_natCast]
                refine ⟨fun _ => ⟨fun h => ⟨by omega, ?_⟩, fun h => ⟨⟨by omega, by omega, by omega⟩, fun _ _ => ⟨⟨by show 0 ≤ (i : Int) + 1; omega, by show (i : Int) + 1 ≤ _; omega, by omega, by omega, by omega, by show _ - ((i : Int) + 1) < _; omega, hmm.bd⟩, fun _ => ⟨by omega, fun h2 => ⟨by omega, fun _ _ => ⟨by omega, fun _ => ⟨by omega, ?_⟩⟩⟩, fun h2 => ⟨by omega, ?_⟩⟩⟩⟩⟩, fun h => absurd hlt2 (by omega)⟩
                · refine fin_lp ⟨(4, mm), by dsimp only; omega, by dsimp only; omega, hmm, hn1 h⟩ ?_ (by dsimp only; omega)
                  simp only [go_sem]
                  try rfl
                · refine fin_lp ⟨(i + 1, (aftV ds ((i : Int), a0, a1, a2, a3, a4, a5) 3).2, rest - priceN NA 3, acc ++ [(NA.1, cs.getD 3 0)], (lwV ds n 17 (aftV ds ((i : Int), a0, a1, a2, a3, a4, a5) 3) mm).2), hst2 h h2⟩ ?_ (by dsimp only; omega)
                  simp only [go_sem]
                  show (i : Int) + 1 = _
                  omega
                · refine fin_lp ⟨(4, (lwV ds n 17 (aftV ds ((i : Int), a0, a1, a2, a3, a4, a5) 3) mm).2), by dsimp only; omega, by dsimp only; omega, hlc.2, hn2 h2⟩ ?_ (by dsimp only; omega)
                  simp only [go_sem]
                  try rfl
              · have hg0 : x.2.get ((4 : Nat) : Int) = a4 := by rw [← hx]; rfl
                subst hx
                rw [hg0] at hn1 hfd hst2
                simp only [Int.cast_ofNat_Int, Nat.reduceAdd] at hn1 hn2 hfd hst2 hlc hbc hpb
                (simp -implicitDefEqProofs (maxSteps := 4000000) only [go_sem, Bool.not_eq_true', Bool.not_eq_false', Bool.or_eq_true, Bool.or_eq_false_iff, Bool.and_eq_true, Bool.and_eq_false_iff, decide_eq_true_eq, decide_eq_false_iff_not, Classical.not_not, not_or, maxLen, con11, con32, con33, con34, conL35, con36, conL37, con38, conR39, hT, hG, hk, hK, Tryz.results11, leastC, con37, Int.cast_ofNat_Int, Int.reduceLE, Int.reduceLT, and_self, Int.le_refl, Int.reduceToNat, Ty.dflt]); (try simp (disch := decide +kernel) only [drawn, true_and, and_true])
                simp only [Int.toNat_natCast]
                refine ⟨fun _ => ⟨fun h => ⟨by omega, ?_⟩, fun h => ⟨⟨by omega, by omega, by omega⟩, fun _ _ => ⟨⟨by show 0 ≤ (i : Int) + 1; omega, by show (i : Int) + 1 ≤ _; omega, by omega, by omega, by omega, by show _ - ((i : Int) + 1) < _; omega, hmm.bd⟩, fun _ => ⟨by omega, fun h2 => ⟨by omega, fun _ _ => ⟨by omega, fun _ => ⟨by omega, ?_⟩⟩⟩, fun h2 => ⟨by omega, ?_⟩⟩⟩⟩⟩, fun h => absurd hlt2 (by omega)⟩
                · refine fin_lp ⟨(5, mm), by dsimp only; omega, by dsimp only; omega, hmm, hn1 h⟩ ?_ (by dsimp only; omega)
                  simp only [go_sem]
                  try rfl
                · refine fin_lp ⟨(i + 1, (aftV ds ((i : Int), a0, a1, a2, a3, a4, a5) 4).2, rest - priceN NA 4, acc ++ [(NA.1, cs.getD 4 0)], (lwV ds n 17 (aftV ds ((i : Int), a0, a1, a2, a3, a4, a5) 4) mm).2), hst2 h h2⟩ ?_ (by dsimp only; omega)
                  simp only [go_sem]
                  show (i : Int) + 1 = _
                  omega
                · refine fin_lp ⟨(5, (lwV ds n 17 (aftV ds ((i : Int), a0, a1, a2, a3, a4, a5) 4) mm).2), by dsimp only; omega, by dsimp only; omega, hlc.2, hn2 h2⟩ ?_ (by dsimp only; omega)
                  simp only [go_sem]
                  try rfl
              · have hg0 : x.2.get ((5 : Nat) : Int) = a5 := by rw [← hx]; rfl
                subst hx
                rw [hg0] at hn1 hfd hst2
                simp only [Int.cast_ofNat_Int, Nat.reduceAdd] at hn1 hn2 hfd hst2 hlc hbc hpb
                (simp -implicitDefEqProofs (maxSteps := 4000000) only [go_sem, Bool.not_eq_true', Bool.not_eq_false', Bool.or_eq_true, Bool.or_eq_false_iff, Bool.and_eq_true, Bool.and_eq_false_iff, decide_eq_true_eq, decide_eq_false_iff_not, Classical.not_not, not_or, maxLen, con11, con32, con33, con34, conL35, con36, conL37, con38, conR39, hT, hG, hk, hK, Tryz.results11, leastC, con37, Int.cast_ofNat_Int, Int.reduceLE, Int.reduceLT, and_self, Int.le_refl, Int.reduceToNat, Ty.dflt]); (try simp (disch := decide +kernel) only [drawn, true_and, and_true])
                simp only [Int.toNat_natCast]
                refine ⟨fun _ => ⟨fun h => ⟨by omega, ?_⟩, fun h => ⟨⟨by omega, by omega, by omega⟩, fun _ _ => ⟨⟨by show 0 ≤ (i : Int) + 1; omega, by show (i : Int) + 1 ≤ _; omega, by omega, by omega, by omega, by show _ - ((i : Int) + 1) < _; omega, hmm.bd⟩, fun _ => ⟨by omega, fun h2 => ⟨by omega, fun _ _ => ⟨by omega, fun _ => ⟨by omega, ?_⟩⟩⟩, fun h2 => ⟨by omega, ?_⟩⟩⟩⟩⟩, fun h => absurd hlt2 (by omega)⟩
                · refine fin_lp ⟨(6, mm), by dsimp only; omega, by dsimp only; omega, hmm, hn1 h⟩ ?_ (by dsimp only; omega)
                  simp only [go_sem]
                  try rfl
                · refine fin_lp ⟨(i + 1, (aftV ds ((i : Int), a0, a1, a2, a3, a4, a5) 5).2, rest - priceN NA 5, acc ++ [(NA.1, cs.getD 5 0)], (lwV ds n 17 (aftV ds ((i : Int), a0, a1, a2, a3, a4, a5) 5) mm).2), hst2 h h2⟩ ?_ (by dsimp only; omega)
                  simp only [go_sem]
                  show (i : Int) + 1 = _
                  omega
                · refine fin_lp ⟨(6, (lwV ds n 17 (aftV ds ((i : Int), a0, a1, a2, a3, a4, a5) 5) mm).2), by dsimp only; omega, by dsimp only; omega, hlc.2, hn2 h2⟩ ?_ (by dsimp only; omega)
                  simp only [go_sem]
                  try rfl
            · exfalso
              obtain rfl : c = n := by omega
              have hx0 := lsV_step (ds := ds) (n := c) (x := x) (by omega) (by omega) (by omega)
              rcases RlM.fold_ex (d := toNd (nedAt ds x.1)) (fr := frL x.2) (f := fun k => RlM.least c ((ds.drop (x.1 + 1).toNat).map toNd) (RlM.after (toNd (nedAt ds x.1)) k (frL x.2))) (List.range c) 17 with h | ⟨k, hk1, hk2, hk3⟩
              · rw [← hx0] at h; omega
              · have hk4 := List.mem_range.1 hk1
                have := hno k (by omega)
                rw [hok k hk4, poss_eq, get_eq _ (show k < 6 by omega), ← hNA2, hk2, price_eq, lsV_aft (by omega), ← hk3, ← hx0, hr] at this
                simp at this
        · rw [List.drop_of_length_le (by omega)] at hacc
          have hA : acc = allR ds cs (pathR ds n) := by rw [← hacc]; exact (List.append_nil _).symm
          have hnk : (acc.map (fun a => a.1)).Nodup := by
           rw [hA]
           refine (allR_keys cs ds _).nodup ?_
           rw [← hds]
           exact need_nodup h0
          refine ⟨by omega, fun a h => ?_⟩
          rw [e0, ← hA]
          exact ⟨rfl, sortAl_eq hnk h.1 h.2⟩)
end Go.Proofs.YtdeihcabmpcaoaaGreat

/- The contracts of the reference's functions of the chapter on repairs. -/
set_option linter.unusedSimpArgs false
set_option linter.unusedVariables false
set_option maxRecDepth 100000
set_option maxHeartbeats 8000000
namespace Go.Proofs.YtdeihcabmpcaoaaGreat
open Go.Ev

def opn (t : Int) (d : Dep) : Dep := (d.1, d.2.1, (if t > d.2.2.1 then t else d.2.2.1), d.2.2.2)
def rawA (l : List Dep) (t : Int) : List Dep := (l.filter (fun d => !closedV d t)).map (opn t)
theorem rawA_len (l : List Dep) (t : Int) : (rawA l t).length = actN l t := by
 unfold rawA actN
 rw [List.length_map, List.countP_eq_length_filter]
def actV (l : List Dep) (t : Int) : List Dep := isort (rawA l t)
theorem actV_len (l : List Dep) (t : Int) : (actV l t).length = actN l t := by unfold actV; rw [isort_len, rawA_len]
theorem home_spec (cs : List Int) (old : List All) (f : Flt) : (homeV cs old f = -1 ∧ ((chV old f).2 && inC cs (chV old f).1) = false) ∨
 ∃ k : Nat, k < cs.length ∧ homeV cs old f = k ∧ (chV old f).2 = true ∧ inC cs (chV old f).1 = true ∧ ∀ z, cs.getD k z = (chV old f).1 := by
 unfold homeV inC
 cases h : (chV old f).2
 · exact .inl ⟨rfl, rfl⟩
 · rcases idxF_spec (fun y : Int => decide ((chV old f).1 = y)) cs 0 (Int.le_refl 0) with ⟨h1, h2⟩ | ⟨k, hk, h1, h2, h3⟩
   · rw [if_pos rfl, h1]
     exact .inl ⟨rfl, rfl⟩
   · rw [if_pos rfl, h1]
     refine .inr ⟨k, hk, by omega, rfl, by simp, fun z => ?_⟩
     rw [List.getD_eq_getElem?_getD, List.getElem?_eq_getElem hk]
     exact (of_decide_eq_true h2).symm
def rvdV (l : List Dep) (cs : List Int) (old : List All) (t : Int) : Int :=
 if argR l cs t ≠ 0 then argR l cs t else if ¬ ((fixV l cs old t).map (fun a => a.2)).Nodup then 7 else 0
end Go.Proofs.YtdeihcabmpcaoaaGreat

/- The contracts of the generators of the chapter on repairs. -/
set_option linter.unusedSimpArgs false
set_option linter.unusedVariables false
set_option maxRecDepth 100000
set_option maxHeartbeats 8000000
namespace Go.Proofs.YtdeihcabmpcaoaaGreat
open Go.Ev

/-- Chutes with gaps. -/
def chX : Nat → Src → Int → List Int × Src
 | 0, s, _ => ([], s)
 | n + 1, s, c => ((c + (1 + goMod s.raw 2)) :: (chX n s.step (c + (1 + goMod s.raw 2))).1, (chX n s.step (c + (1 + goMod s.raw 2))).2)
def chsV (s : Src) (n : Int) : List Int × Src := chX (goMod s.raw (n + 1)).toNat s.step 0
theorem chX_ok : ∀ (n : Nat) (s : Src) (c : Int), (chX n s c).1.length = n ∧ (∀ x ∈ (chX n s c).1, c < x ∧ x ≤ c + 2 * n) ∧ ascI (c :: (chX n s c).1) = true ∧ (0 ≤ s.2 → 0 ≤ (chX n s c).2.2)
 | 0, s, c => ⟨rfl, by simp [chX], rfl, fun h => h⟩
 | n + 1, s, c => by
   have hb := goMod_bd s.raw 2 (by omega)
   obtain ⟨h1, h2, h3, h4⟩ := chX_ok n s.step (c + (1 + goMod s.raw 2))
   unfold chX
   refine ⟨by simp [h1], fun x hx => ?_, ?_, fun h => h4 (Src.step_pos s h)⟩
   · rcases List.mem_cons.1 hx with rfl | hx
     · omega
     · have := h2 x hx; omega
   · rw [ascI, h3, decide_eq_true (by omega)]; rfl
def con18 : Con := { ps := [.p 57 ySR, .d false (.int .i64)], rs := [.d false (.sl (.int .i64))], pre := fun (x : Src × Int × Unit) => 0 ≤ x.1.2 ∧ 0 ≤ x.2.1 ∧ x.2.1 ≤ 1000, out := fun (x : Src × Int × Unit) => ((chsV x.1 x.2.1).1, ()), nw := fun x => ((chsV x.1 x.2.1).2, x.2) }
theorem c18 : CtrOk Tryz.prog 18 con18.ctr :=
 con_sound (G := ⟨[(10, con10.ctr)], [], [], [], []⟩) tab_ok (EnvOk.cons c10 has10 EnvOk.nil) rfl Tryz.func18 rfl con18 8435 (by kernel_rfl) (by decide) (by decide) rfl (by decide) rfl (by
  rintro ⟨⟨(sl : List Int), (sa : Int)⟩, (most : Int), _⟩ hpre hwf X hT hG hk hK
  obtain ⟨h1, h2, h3⟩ : 0 ≤ sa ∧ 0 ≤ most ∧ most ≤ 1000 := hpre
  (simp -implicitDefEqProofs (maxSteps := 4000000) only [go_sem, Bool.not_eq_true', Bool.not_eq_false', Bool.or_eq_true, Bool.or_eq_false_iff, Bool.and_eq_true, Bool.and_eq_false_iff, decide_eq_true_eq, decide_eq_false_iff_not, Classical.not_not, not_or, maxLen, con18, con10, hT, hG, hk, hK, Tryz.results18] at hwf ⊢); (try simp (disch := decide +kernel) only [drawn, true_and, and_true])
  have hn0 := goMod_bd (Src.raw (sl, sa)) (most + 1) (by omega)
  have hs := Src.step_pos (sl, sa) h1
  have hv : chsV (sl, sa) most = chX (goMod (Src.raw (sl, sa)) (most + 1)).toNat (Src.step (sl, sa)) 0 := rfl
  generalize goMod (Src.raw (sl, sa)) (most + 1) = n0 at hn0 hv ⊢
  generalize Src.step (sl, sa) = s1 at hs hv ⊢
  (repeat' (with_reducible (first | refine And.intro ?_ ?_ | intro _))) <;> (try (first | with_reducible (first | done | assumption | omega | contradiction) | decide))
  refine evk_loop ⟨{ q : Src × Int × Nat × List Int // 0 ≤ q.1.2 ∧ 0 ≤ q.2.1 ∧ q.2.1 ≤ 2 * (n0 - q.2.2.1) ∧ q.2.2.2.length + q.2.2.1 ≤ n0.toNat ∧ chX n0.toNat s1 0 = (q.2.2.2 ++ (chX q.2.2.1 q.1 q.2.1).1, (chX q.2.2.1 q.1 q.2.1).2) }, 1000,
   fun q => [(0, .one (.loc 0 0)), (5, .one (.row 64)), (6, .one (.int .i64 q.1.2.1)), (7, .one (.int .i64 q.1.2.2.1))],
   fun q => [(0, .cells 57 [.sl (.int .i64) q.1.1.1 false, .int .i64 q.1.1.2]), (64, .row 3 (.int .i64) q.1.2.2.2)], fun q => q.1.2.2.1⟩
   ⟨(s1, 0, n0.toNat, []), hs, by simp, by simp only; omega, by simp, by simp⟩ ?_ ?_
  · simp only [go_sem]
    first
     | rfl
     | omega
  · rintro ⟨⟨⟨ql, qa⟩, k, i, out⟩, (c1 : 0 ≤ qa), (c2 : 0 ≤ k), (c3 : k ≤ 2 * (n0 - i)), (c5 : out.length + i ≤ n0.toNat), (c6 : chX n0.toNat s1 0 = (out ++ (chX i (ql, qa) k).1, (chX i (ql, qa) k).2))⟩
    (simp -implicitDefEqProofs (maxSteps := 4000000) only [go_sem, Bool.not_eq_true', Bool.not_eq_false', Bool.or_eq_true, Bool.or_eq_false_iff, Bool.and_eq_true, Bool.and_eq_false_iff, decide_eq_true_eq, decide_eq_false_iff_not, Classical.not_not, not_or, maxLen, con18, con10, hT, hG, hk, hK, Tryz.results18]); (try simp (disch := decide +kernel) only [drawn, true_and, and_true])
    have b3 := goMod_bd (Src.raw (ql, qa)) 2 (by omega)
    have p1 := Src.step_pos (ql, qa) c1
    refine ⟨fun hc => ?_, fun hc => ?_⟩
    · obtain ⟨j, rfl⟩ : ∃ j, i = j + 1 := ⟨i - 1, by omega⟩
      rw [chX] at c6
      (repeat' (with_reducible (first | refine And.intro ?_ ?_ | intro _))) <;> (try (first | with_reducible (first | done | assumption | omega | contradiction) | decide))
      refine fin_lp ⟨(Src.step (ql, qa), k + (1 + goMod (Src.raw (ql, qa)) 2), j, out ++ [k + (1 + goMod (Src.raw (ql, qa)) 2)]), p1, by dsimp only; omega, by dsimp only; omega, by rw [List.length_append]; simp only [List.length_singleton]; omega, by dsimp only; rw [c6]; simp⟩ (by simp only [go_sem]; first | rfl | ((repeat' apply And.intro) <;> first | rfl | assumption | omega)) (by dsimp only; omega)
    · obtain rfl : i = 0 := by omega
      rw [chX] at c6
      rw [hv, c6]
      exact ⟨rfl, rfl, by simp⟩)
end Go.Proofs.YtdeihcabmpcaoaaGreat

/- The sanity check of the chapter on repairs. -/
set_option linter.unusedSimpArgs false
set_option linter.unusedVariables false
set_option maxRecDepth 100000
set_option maxHeartbeats 8000000
namespace Go.Proofs.YtdeihcabmpcaoaaGreat
open Go.Ev

theorem cmpS_self (a : ByteArray) : cmpS a a = 0 := (cmpS_cmp.eq a a).2 rfl
def f0 : Flt := (⟨#[66, 65]⟩, 1, ByteArray.empty, 1)
def f1 : Flt := (⟨#[66, 65]⟩, 1, ByteArray.empty, 2)
def pairV : List Dep := [day1 0 10, day1 1 15]
def con29 : Con := { ps := [], rs := [.d false (.sl yDP)], pre := fun _ => True, out := fun _ => (pairV, ()), nw := id }
theorem c29 : CtrOk Tryz.prog 29 con29.ctr :=
 con_sound (G := ⟨[(20, con20.ctr)], [], [], [], []⟩) tab_ok (EnvOk.cons c20 has20 EnvOk.nil) rfl Tryz.func29 rfl con29 255 (by kernel_rfl) (by decide) (by decide) rfl (by decide) rfl (by
  rintro _ hpre hwf X hT hG hk hK
  (simp -implicitDefEqProofs (maxSteps := 4000000) only [go_sem, Bool.not_eq_true', Bool.not_eq_false', Bool.or_eq_true, Bool.or_eq_false_iff, Bool.and_eq_true, Bool.and_eq_false_iff, decide_eq_true_eq, decide_eq_false_iff_not, Classical.not_not, not_or, maxLen, con29, con20, hT, hG, hk, hK, Tryz.results29] at hwf ⊢); (try simp (disch := decide +kernel) only [drawn, true_and, and_true])
  refine fun _ => evk_loop ⟨{ i : Nat // i ≤ 2 }, 1000, fun i => [(1, .one (.row 64)), (4, .one (.row 96)), (5, .one (.int .i64 2)), (6, .one (.int .i64 i.1))],
   fun i => [(64, .row 52 yDP (pairV.take i.1)), (96, .row 3 (.int .i64) [10, 15])], fun i => 2 - i.1⟩ ⟨0, by omega⟩ ?_ ?_
  · simp only [go_sem]
    exact ⟨rfl, rfl⟩
  · rintro ⟨i, (hi : i ≤ 2)⟩
    (simp -implicitDefEqProofs (maxSteps := 4000000) only [go_sem, Bool.not_eq_true', Bool.not_eq_false', Bool.or_eq_true, Bool.or_eq_false_iff, Bool.and_eq_true, Bool.and_eq_false_iff, decide_eq_true_eq, decide_eq_false_iff_not, Classical.not_not, not_or, maxLen, con29, con20, hT, hG, hk, hK, Tryz.results29]); (try simp (disch := decide +kernel) only [drawn, true_and, and_true])
    have hl : (pairV.take i).length ≤ 2 := by rw [List.length_take]; exact Nat.le_trans (Nat.min_le_right _ _) (by decide)
    have hs : i < 2 → pairV.take (i + 1) = pairV.take i ++ [(fltsV i, ⟨#[67, 80, 72]⟩, ([10, 15] : List Int).getD (i : Int).toNat 0, ([10, 15] : List Int).getD (i : Int).toNat 0 + 10, ([10, 15] : List Int).getD (i : Int).toNat 0 + 12, 0, 0)] := fun h => by
     rcases (by omega : i = 0 ∨ i = 1) with rfl | rfl <;> rfl
    have hg : i < 2 → 10 ≤ ([10, 15] : List Int).getD (i : Int).toNat 0 ∧ ([10, 15] : List Int).getD (i : Int).toNat 0 ≤ 20 := fun h => by
     rcases (by omega : i = 0 ∨ i = 1) with rfl | rfl <;> decide
    generalize ([10, 15] : List Int).getD (i : Int).toNat 0 = t at hs hg ⊢
    (repeat' (with_reducible (first | refine And.intro ?_ ?_ | intro _))) <;> (try (first | with_reducible (first | done | assumption | omega | contradiction) | decide))
    · have h3 : i < 2 := by omega
      have := hg h3
      (repeat' (with_reducible (first | refine And.intro ?_ ?_ | intro _))) <;> (try (first | with_reducible (first | done | assumption | omega | contradiction) | decide))
      refine fin_lp ⟨i + 1, by omega⟩ ?_ ?_
      · simp only [go_sem]
        rw [hs h3]
        exact ⟨rfl, rfl⟩
      · dsimp only; omega
    · rw [List.take_of_length_le (by show 2 ≤ i; omega)])
theorem pair_valid : validateV pairV = 0 := by
 have v0 : validV (day1 0 10) = true := by decide +kernel
 have v1 : validV (day1 1 15) = true := by decide +kernel
 have c1 : fltC f0 f1 = -1 := by simp [fltC, f0, f1, cmpS_self, orV, cmpV]
 have d1 : fltC (day1 0 10).1 (day1 1 15).1 = -1 := c1
 unfold validateV pairV
 simp [valF, v0, v1, d1]
def oldP : List All := [(f0, 1), (f1, 1)]
theorem pair_args (t : Int) : argR pairV [1, 2] t = 0 := by
 unfold argR
 have h1 : actN pairV t ≤ 2 := actN_le pairV t
 have h2 : ([1, 2] : List Int).length = 2 := rfl
 rw [if_neg (by rw [pair_valid]; decide), if_neg (by rw [h2]; omega), if_neg (by decide), if_neg (by decide)]
theorem pair_fix5 : fixV pairV [1, 2] oldP 5 = [] := by decide +kernel
theorem pair_fix16 : fixV pairV [1, 2] oldP 16 = oldP := by decide +kernel
theorem pair_need : needV pairV [1, 2] oldP [] 5 = [(f0, 10, 20, 0, false), (f1, 15, 25, 0, false)] := by decide +kernel
theorem pair_ls : lsV [(f0, 10, 20, 0, false), (f1, 15, 25, 0, false)] 2 st0 = 1 := by decide +kernel
theorem pair_all : allR [(f0, 10, 20, 0, false), (f1, 15, 25, 0, false)] [1, 2] (pathR [(f0, 10, 20, 0, false), (f1, 15, 25, 0, false)] 2) = [(f0, 1), (f1, 2)] := by decide +kernel
theorem pair_sort : sortAl [(f0, 1), (f1, 2)] = [(f0, 1), (f1, 2)] := by
 have c1 : fltC f1 f0 = 1 := by simp [fltC, f0, f1, cmpS_self, orV, cmpV]
 refine (sortAl_eq ?_ (List.Perm.refl _) ?_).symm
 · decide +kernel
 · rw [List.pairwise_pair]
   rw [c1]; decide
theorem pair_rep5 : repV pairV [1, 2] oldP 5 = ([(f0, 1), (f1, 2)], 0) := by
 unfold repV
 have h2 : ([1, 2] : List Int).length = 2 := rfl
 rw [pair_args, pair_fix5, pair_need, h2, pair_ls, pair_all, pair_sort]
 decide +kernel
theorem pair_rep16 : repV pairV [1, 2] oldP 16 = ([], 7) := by
 unfold repV
 rw [pair_args, pair_fix16]
 decide +kernel
theorem pair_mov : movV [1, 2] oldP [(f0, 1), (f1, 2)] = [f1] := by decide +kernel
def con8 : Con := { ps := [], rs := [.d false .bool], pre := fun _ => True, out := fun _ => (true, ()), nw := id }
theorem c8 : CtrOk Tryz.prog 8 con8.ctr :=
 con_sound (G := ⟨[(29, con29.ctr), (11, con11.ctr), (30, con30.ctr)], [], [], [], []⟩) tab_ok (EnvOk.cons c29 has29 (EnvOk.cons c11 has11 (EnvOk.cons c30 has30 EnvOk.nil))) rfl Tryz.func8 rfl con8 223 (by kernel_rfl) (by decide) (by decide) rfl (by decide) rfl (by
  rintro _ hpre hwf X hT hG hk hK
  have hlen : pairV.length = 2 := rfl
  have e1 : ∀ z, pairV.getD (Int.toNat 0) z = day1 0 10 := fun z => rfl
  have e2 : ∀ z, pairV.getD (Int.toNat 1) z = day1 1 15 := fun z => rfl
  have e1' : ∀ z, pairV.getD 0 z = day1 0 10 := fun z => rfl
  have e3 : (day1 0 10).1 = f0 := rfl
  have e4 : (day1 1 15).1 = f1 := rfl
  have e5 : [(f0, (1 : Int)), (f1, (1 : Int))] = oldP := rfl
  have q0 : ∀ z, [(f0, (1 : Int)), (f1, (2 : Int))].getD 0 z = (f0, 1) := fun z => rfl
  have q1 : ∀ z, [(f0, (1 : Int)), (f1, (2 : Int))].getD (Int.toNat 1) z = (f1, 2) := fun z => rfl
  have q2 : ∀ z, [f1].getD 0 z = f1 := fun z => rfl
  (simp -implicitDefEqProofs (maxSteps := 4000000) only [go_sem, Bool.not_eq_true', Bool.not_eq_false', Bool.or_eq_true, Bool.or_eq_false_iff, Bool.and_eq_true, Bool.and_eq_false_iff, decide_eq_true_eq, decide_eq_false_iff_not, Classical.not_not, not_or, maxLen, con8, con29, con11, con30, hT, hG, hk, hK, Tryz.results8, hlen, e1, e2, e1', e3, e4, e5, pair_rep5, pair_rep16, pair_mov, q0, q1, q2, Int.cast_ofNat_Int, Int.reduceEq, and_self, true_implies, and_true, true_and, Int.reduceLT, Int.le_refl, Int.reduceLE] at hwf ⊢); (try simp (disch := decide +kernel) only [drawn, true_and, and_true])
  clear hwf
  (repeat' (with_reducible (first | refine And.intro ?_ ?_ | intro _))) <;> (try (first | with_reducible (first | done | assumption | omega | contradiction) | decide))
  done)
end Go.Proofs.YtdeihcabmpcaoaaGreat
