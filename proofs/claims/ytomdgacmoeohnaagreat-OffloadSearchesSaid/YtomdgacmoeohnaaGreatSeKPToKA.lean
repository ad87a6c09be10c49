/- A part. -/
import Derived.Test.YtomdgacmoeohnaaGreatSeKZToKC
import Derived.Test.YtomdgacmoeohnaaGreatEvBox
import Derived.Test.YtomdgacmoeohnaaGreatSeKOToKD
import Derived.Test.YtomdgacmoeohnaaGreatSeKTToKY
set_option maxRecDepth 100000
set_option maxHeartbeats 8000000
namespace Go.Proofs.YtomdgacmoeohnaaGreat
open Go.Ev
attribute [local go_sem] List.set_cons_succ List.set_cons_zero List.getD_cons_succ List.getD_cons_zero List.set_nil
def inT (t : Tsk) (p : Pce) : Bool := t.2.any (fun y => decide (y = p.1))
def con54 : BCon := { ps := [.d true yPC, .p 27 yTK, .bx], rs := [.d false .bool], e := 25, k := .row 41 yPL, pre := fun _ (z : List Plt) => z.length ≤ 100000000, out := fun (x : Pce × Tsk × Unit × Unit) _ => (inT x.2.1 x.1, ()), nw := fun x _ => x, nx := fun (x : Pce × Tsk × Unit × Unit) (z : List Plt) => if inT x.2.1 x.1 = true then z ++ [x.1.1] else z }
theorem c54 : CtrOk Tryz.prog 54 con54.ctr :=
 box_sound (G := ⟨[(40, con40.ctr)], [], [], [], []⟩) tab_ok (EnvOk.cons c40 has40 EnvOk.nil) rfl Tryz.func54 rfl con54 1055 (by kernel_rfl) (by decide) (by decide) rfl (by decide) rfl (by
  rintro ⟨⟨⟨(a : Int), (b : Int), (c : Int)⟩, (d : Int), (e : Int)⟩, ⟨(n : Int), (pl : List Plt)⟩, _⟩ (z : List Plt) hpre hwf X hT hG hk hK
  have hz : z.length ≤ 100000000 := hpre
  (simp -implicitDefEqProofs only [go_sem, bP, con54, con40, hT, hG, hk, hK, Tryz.results54] at hwf ⊢)
  have e0 : inT (n, pl) ((a, b, c), d, e) = pl.any (fun y => decide (y = (a, b, c))) := rfl
  rw [e0]
  refine ⟨fun h => ⟨by rw [if_neg (by rw [h]; simp)], h.symm⟩, fun h => ⟨by omega, by rw [if_pos h], h.symm⟩⟩)
theorem idxV_m1' {α : Type} {p : α → Bool} {l : List α} (h : idxV p l < 0) : idxV p l = -1 := by
 unfold idxV at h ⊢
 split at h
 · omega
 · rfl
def takI (t : Tsk) (l : List Pce) : List Plt := if 0 ≤ idxV (inT t) l then [(l.getD (idxV (inT t) l).toNat pc0).1] else []
def con85 : BCon := { ps := [.o 63 yPC, .cl 54 [.p 27 yTK, .bx]], rs := [.d false (.int .i64)], e := 25, k := .row 41 yPL, pre := fun _ (z : List Plt) => z.length ≤ 1000000, out := fun (x : List Pce × (Tsk × Unit × Unit) × Unit) _ => (idxV (inT x.2.1.1) x.1, ()), nw := fun x _ => x, nx := fun (x : List Pce × (Tsk × Unit × Unit) × Unit) (z : List Plt) => z ++ takI x.2.1.1 x.1 }
theorem c85 : CtrOk Tryz.prog 85 con85.ctr :=
 box_sound (G := ⟨[(54, con54.ctr)], [], [], [], []⟩) tab_ok (EnvOk.cons c54 has54 EnvOk.nil) rfl Tryz.func85 rfl con85 66483 (by kernel_rfl) (by decide) (by decide) rfl (by decide) rfl (by
  rintro ⟨(l : List Pce), ⟨⟨(n : Int), (pl : List Plt)⟩, _⟩, _⟩ (z : List Plt) hpre hwf X hT hG hk hK
  have hz : z.length ≤ 1000000 := hpre
  (simp -implicitDefEqProofs only [go_sem, bP, con85, con54, hT, hG, hk, hK, Tryz.results85] at hwf ⊢)
  clear hwf
  obtain ⟨t, ht⟩ : ∃ t : Tsk, (n, pl) = t := ⟨_, rfl⟩
  have hn : n = t.1 := by rw [← ht]
  have hpl : pl = t.2 := by rw [← ht]
  subst hn
  subst hpl
  clear ht
  refine fun _ => evk_loop ⟨{ i : Nat // i ≤ l.length ∧ ∀ k, k < i → inT t (l.getD k pc0) = false }, 1000, fun q => [(0, .one (.row 0)), (1, .one (.fn 54 [.loc 12 0, .loc 31 0])), (4, .one (.int .i64 0)), (7, .one (.int .i64 l.length)), (8, .one (.int .i64 q.1))], fun q => [(0, .row 63 yPC l), (12, .cells 27 [.int .i64 t.1, .sl yPL t.2 false]), (31, .cells 25 [.row 40]), (40, .row 41 yPL z)], fun q => l.length - q.1⟩ ⟨0, by omega, fun k hk => by omega⟩ ?_ ?_
  · simp only [go_sem]
    try first | rfl | (and_intros <;> first | trivial | rfl | omega)
  · rintro ⟨i, (hi : i ≤ l.length), hzz⟩
    (simp -implicitDefEqProofs only [go_sem, bP, con85, con54, hT, hG, hk, hK, Tryz.results85])
    obtain ⟨o, ho⟩ : ∃ o, l.getD i pc0 = o := ⟨_, rfl⟩
    have eo : l.getD (i : Int).toNat ((0, 0, 0), 0, 0) = o := ho
    try simp only [eo]
    have eO : ((o.1.1, o.1.2.1, o.1.2.2), o.2.1, o.2.2) = o := rfl
    try simp only [eO]
    have hidx : i < l.length → inT t o = true → idxV (inT t) l = i := fun h1 h2 => idxV_at (d := pc0) hzz h1 (by rw [ho]; exact h2)
    have htk : i < l.length → inT t o = true → takI t l = [o.1] := fun h1 h2 => by
     unfold takI
     rw [hidx h1 h2, if_pos (by omega), show ((i : Int)).toNat = i by omega, ho]
    have hno : i = l.length → idxV (inT t) l = -1 := fun h => idxV_none (d := pc0) fun k hk => hzz k (by omega)
    have htn : i = l.length → takI t l = [] := fun h => by unfold takI; rw [hno h, if_neg (by omega)]
    (repeat' with_reducible first | refine And.intro ?_ ?_ | intro _) <;> try first | with_reducible (first | assumption | omega | contradiction) | decide
    all_goals first
     | omega
     | (have h : inT t o = true := by assumption
        rw [if_pos h, htk (by omega) h])
     | (have h : inT t o = true := by assumption
        rw [hidx (by omega) h])
     | (have h : inT t o = false := by assumption
        refine fin_lp ⟨i + 1, by omega, lt_succ hzz (by rw [ho]; exact h)⟩ ?_ (by dsimp only; omega)
        simp only [go_sem]
        simp only [h, Bool.false_eq_true, if_false]
        try first | rfl | (and_intros <;> first | trivial | rfl | omega)
        done)
     | (rw [htn (by omega), List.append_nil])
     | (rw [hno (by omega)])
     | fail)
def con53 : BCon := { ps := [.oc 63 yPC, .cl 54 [.p 27 yTK, .bx]], rs := [.o 63 yPC], e := 25, k := .row 41 yPL, pre := fun (x : List Pce × (Tsk × Unit × Unit) × Unit) (z : List Plt) => x.1.length ≤ 1000 ∧ z.length ≤ 1000, out := fun (x : List Pce × (Tsk × Unit × Unit) × Unit) _ => (x.1.filter (fun y => !inT x.2.1.1 y), ()), nw := fun x _ => x, nx := fun (x : List Pce × (Tsk × Unit × Unit) × Unit) (z : List Plt) => z ++ (x.1.filter (inT x.2.1.1)).map (fun y => y.1) }
theorem c53 : CtrOk Tryz.prog 53 con53.ctr :=
 box_sound (G := ⟨[(85, con85.ctr), (54, con54.ctr)], [], [(13, 2), (38, 1), (41, 2)], [], []⟩) tab_ok (EnvOk.cons c85 has85 (EnvOk.cons c54 has54 EnvOk.nil)) rfl Tryz.func53 rfl con53 537399539 (by kernel_rfl) (by decide) (by decide) rfl (by decide) rfl (by
  rintro ⟨(l : List Pce), ⟨⟨(n : Int), (pl : List Plt)⟩, _⟩, _⟩ (z : List Plt) hpre hwf X hT hG hk hK
  obtain ⟨hl, hz⟩ : l.length ≤ 1000 ∧ z.length ≤ 1000 := hpre
  (simp -implicitDefEqProofs only [go_sem, bP, con53, con85, con54, hT, hG, hk, hK, Tryz.results53] at hwf ⊢)
  clear hwf
  obtain ⟨t, ht⟩ : ∃ t : Tsk, (n, pl) = t := ⟨_, rfl⟩
  have hn : n = t.1 := by rw [← ht]
  have hpl : pl = t.2 := by rw [← ht]
  subst hn
  subst hpl
  clear ht
  simp only [Prod.eta]
  obtain ⟨F, hF⟩ : ∃ F : Pce → Bool, F = fun x => !inT t x := ⟨_, rfl⟩
  obtain ⟨G, hG0⟩ : ∃ G : Pce → Bool, G = inT t := ⟨_, rfl⟩
  have hFa : ∀ x, F x = !inT t x := fun x => by rw [hF]
  have hGa : ∀ x, G x = inT t x := fun x => by rw [hG0]
  have hfe : (fun y => !inT t y) = F := hF.symm
  simp only [hfe]
  refine ⟨by omega, fun _ => ⟨fun h => ?_, fun h => ?_⟩⟩
  · have h1 := idxV_neg (p := inT t) (l := l) (by omega)
    have e1 : takI t l = [] := by unfold takI; rw [if_neg (by omega)]
    have e2 : l.filter (inT t) = [] := List.filter_eq_nil_iff.2 fun x hx => by rw [h1 x hx]; simp
    rw [List.filter_eq_self.2 fun x hx => by rw [hFa, h1 x hx]; rfl, e1, e2]
    exact ⟨rfl, rfl⟩
  · have hn : 0 ≤ idxV (inT t) l := by
     apply Classical.byContradiction
     intro hq
     have := idxV_m1' (p := inT t) (l := l) (by omega)
     exact h this
    obtain ⟨hi, h2, h3⟩ := idxV_spec (d := pc0) hn
    have htk : takI t l = [(l.getD (idxV (inT t) l).toNat pc0).1] := by unfold takI; rw [if_pos hn]
    obtain ⟨i, hq⟩ : ∃ i : Nat, idxV (inT t) l = i := ⟨(idxV (inT t) l).toNat, by omega⟩
    rw [hq] at hi h2 h3 htk ⊢
    have hi : i < l.length := hi
    have h2 : inT t (l.getD i pc0) = true := h2
    have h3 : ∀ k, k < i → inT t (l.getD k pc0) = false := h3
    have htk : takI t l = [(l.getD i pc0).1] := htk
    rw [htk]
    refine ⟨⟨by omega, by omega⟩, ?_⟩
    have hpre0 : ∀ x ∈ l.take i, inT t x = false := fun x hx => by
     obtain ⟨k, hk, rfl⟩ := getD_pc hx
     have hki : k < i := by rw [List.length_take] at hk; omega
     rw [List.getD_eq_getElem?_getD, List.getElem?_take_of_lt hki, ← List.getD_eq_getElem?_getD, h3 k hki]
    have b0 : (l.take i).filter F = l.take i := List.filter_eq_self.2 fun x hx => by rw [hFa, hpre0 x hx]; rfl
    have b1 : l.take i = (l.take (i + 1)).filter F := by
     rw [List.take_succ_eq_append_getElem hi, List.filter_append, b0, ← getD_lt (d := pc0) hi, List.filter_cons_of_neg (by rw [hFa, h2]; simp)]; simp
    have b2 : (l.take (i + 1)).filter G = [l.getD i pc0] := by
     rw [List.take_succ_eq_append_getElem hi, List.filter_append, List.filter_eq_nil_iff.2 (fun x hx => by rw [hGa, hpre0 x hx]; simp), ← getD_lt (d := pc0) hi, List.filter_cons_of_pos (by rw [hGa, h2])]; rfl
    refine evk_loop ⟨{ q : Nat × Nat × List Pce // q.1 ≤ q.2.1 ∧ q.2.1 ≤ l.length ∧ q.2.2.length = l.length ∧ q.2.2.take q.1 = (l.take q.2.1).filter F ∧ q.2.2.drop q.2.1 = l.drop q.2.1 }, 1000, fun q => [(0, .one (.row 0)), (1, .one (.fn 54 [.loc 12 0, .loc 31 0])), (5, .one (.int .i64 q.1.1)), (6, .one (.int .i64 q.1.2.1))], fun q => [(0, .row 63 yPC q.1.2.2), (12, .cells 27 [.int .i64 t.1, .sl yPL t.2 false]), (31, .cells 25 [.row 40]), (40, .row 41 yPL (z ++ ((l.take q.1.2.1).filter G).map (fun y => y.1)))], fun q => l.length - q.1.2.1⟩ ⟨(i, i + 1, l), Nat.le_succ i, hi, rfl, b1, rfl⟩ ?_ ?_
    · simp only [go_sem]
      rw [b2]
      try first | rfl | (and_intros <;> first | trivial | rfl | omega)
    · rintro ⟨⟨a, r, R⟩, (c1 : a ≤ r), (c2 : r ≤ l.length), (c3 : R.length = l.length), (c4 : R.take a = (l.take r).filter F), (c5 : R.drop r = l.drop r)⟩
      have hzl : (z ++ ((l.take r).filter G).map (fun y => y.1)).length ≤ 2000 := by
       have := List.length_filter_le G (l.take r)
       rw [List.length_take] at this
       rw [List.length_append, List.length_map]; omega
      (simp -implicitDefEqProofs only [go_sem, bP, con53, con85, con54, hT, hG, hk, hK, Tryz.results53])
      refine fun _ => ⟨fun hlt => ?_, fun hge => ?_⟩
      · have hr : r < R.length := by omega
        have hr2 : r < l.length := by omega
        obtain ⟨o, ho⟩ : ∃ o, l.getD r pc0 = o := ⟨_, rfl⟩
        have hRr : R.getD r pc0 = o := by
         have := congrArg (fun q => q.getD 0 pc0) c5
         simp only [List.getD_eq_getElem?_getD, List.getElem?_drop, Nat.add_zero] at this
         rw [List.getD_eq_getElem?_getD, this, ← List.getD_eq_getElem?_getD, ho]
        have eo : R.getD (r : Int).toNat ((0, 0, 0), 0, 0) = o := hRr
        have eO : ((o.1.1, o.1.2.1, o.1.2.2), o.2.1, o.2.2) = o := rfl
        have eT : ((t.1, t.2) : Tsk) = t := rfl
        try simp only [eo, eO, eT]
        have hd : R.drop (r + 1) = l.drop (r + 1) := by rw [← List.drop_drop, c5, List.drop_drop]
        have hst : ∀ H : Pce → Bool, (l.take (r + 1)).filter H = (l.take r).filter H ++ (if H o = true then [o] else []) := fun H => by
         rw [List.take_succ_eq_append_getElem hr2, List.filter_append, ← getD_lt (d := pc0) hr2, ho]
         by_cases q : H o = true
         · rw [if_pos q, List.filter_cons_of_pos q]; rfl
         · rw [if_neg q, List.filter_cons_of_neg q]; rfl
        have hs1 := hst F
        have hs2 := hst G
        (repeat' with_reducible first | refine And.intro ?_ ?_ | intro _) <;> try first | with_reducible (first | assumption | omega | contradiction) | decide
        all_goals first
         | omega
         | (have h0 : inT t o = false := by assumption
            have h1 : F o = true := by rw [hFa, h0]; rfl
            have h2 : ¬ G o = true := by rw [hGa, h0]; simp
            rw [if_pos h1] at hs1
            rw [if_neg h2, List.append_nil] at hs2
            have har : a < R.length := by omega
            refine fin_lp ⟨(a + 1, r + 1, R.set a o), by dsimp only; omega, by dsimp only; omega, by dsimp only; rw [List.length_set]; exact c3, ?_, ?_⟩ ?_ (by dsimp only; omega)
            · dsimp only
              rw [hs1, ← c4, List.take_succ_eq_append_getElem (by rw [List.length_set]; omega), List.take_set_of_le (Nat.le_refl _), List.getElem_set_self]
            · dsimp only
              rw [List.drop_set_of_lt (by omega), hd]
            · simp only [go_sem]
              rw [hs2]
              simp only [h0, Bool.false_eq_true, if_false]
              try first | rfl | (and_intros <;> first | trivial | rfl | omega)
              done)
         | (have h0 : inT t o = true := by assumption
            have h1 : ¬ F o = true := by rw [hFa, h0]; simp
            have h2 : G o = true := by rw [hGa, h0]
            rw [if_neg h1, List.append_nil] at hs1
            rw [if_pos h2] at hs2
            refine fin_lp ⟨(a, r + 1, R), by dsimp only; omega, by dsimp only; omega, c3, by dsimp only; rw [hs1]; exact c4, hd⟩ ?_ (by dsimp only; omega)
            simp only [go_sem]
            rw [hs2, List.map_append, ← List.append_assoc, if_pos h0]
            try first | rfl | (and_intros <;> first | trivial | rfl | omega)
            done)
         | fail
      · refine ⟨by omega, ?_⟩
        have hr : r = l.length := by omega
        have e1 : (a : Int).toNat = a := by omega
        have e2 : ((R.length : Int) - (a : Int)).toNat = R.length - a := by omega
        have e3 : (a + (R.length - a) ≤ R.length) = True := by rw [eq_iff_iff, iff_true]; omega
        (simp -implicitDefEqProofs only [go_sem, bP, con53, con85, con54, hT, hG, hk, hK, Tryz.results53, e1, e2, e3])
        have e5 : (R.take a).length = a := by rw [List.length_take]; omega
        have e4 : List.take a (List.take a R ++ (List.replicate (R.length - a) ((0, 0, 0), 0, 0) ++ List.drop (a + (R.length - a)) R)) = l.filter F := by
         rw [List.take_append_of_le_length (by omega), List.take_of_length_le (by omega), c4, hr, List.take_of_length_le (Nat.le_refl _)]
        have e6 : l.take r = l := by rw [hr, List.take_length]
        simp only [hfe, e6]
        try simp only [← hG0]
        (repeat' with_reducible first | refine And.intro ?_ ?_ | intro _) <;> try first | with_reducible (first | assumption | omega | contradiction) | decide
        all_goals first
         | exact e4
         | (rw [List.length_append, e5]; omega)
         | fail)
theorem putSls_p : ∀ (xs : List Cnt) (yss : List (List Pce)), putSls yPC yCT xs yss = (xs.zip yss).map (fun q => setPcs q.1 q.2)
 | [], _ => rfl
 | _ :: _, [] => rfl
 | x :: xs, y :: yss => by
   have := putSls_p xs yss
   unfold putSls at this ⊢
   rw [List.zip_cons_cons, List.map_cons, List.map_cons, this]
   rfl
theorem putSls_set (c : List Cnt) (k : Nat) (F : List Pce) (hk : k < c.length) : putSls yPC yCT (c.map (fun o => setPcs o [])) (((c.map (fun o => o.pcs)).set k []).set k F) = c.set k (setPcs (c.getD k ct0) F) := by
 rw [putSls_p, List.set_set]
 apply List.ext_getElem?
 intro i
 simp only [List.getElem?_map, List.zip_eq_zipWith, List.getElem?_zipWith, List.getElem?_set, List.length_map]
 by_cases e : k = i
 · subst e
   rw [if_pos rfl, if_pos hk, if_pos rfl, if_pos hk, List.getElem?_eq_getElem hk, getD_lt hk]
   rfl
 · rw [if_neg e, if_neg e]
   cases c[i]? <;> rfl
def perfV (c : List Cnt) (t : Tsk) : List Cnt × List Plt × Int :=
 if checkV c ≠ 0 then ([], [], checkV c) else if numIdx c t.1 < 0 then ([], [], 6)
 else (c.set (numIdx c t.1).toNat (setPcs (c.getD (numIdx c t.1).toNat ct0) ((c.getD (numIdx c t.1).toNat ct0).pcs.filter (fun y => !inT t y))), ((c.getD (numIdx c t.1).toNat ct0).pcs.filter (inT t)).map (fun y => y.1), 0)
def con20 : Con := { ps := [.d false (.sl yCT), .d true yTK], rs := [.d false (.sl yCT), .d false (.sl yPL), .d false (.int .i64)], pre := fun _ => True, out := fun (x : List Cnt × Tsk × Unit) => ((perfV x.1 x.2.1).1, (perfV x.1 x.2.1).2.1, (perfV x.1 x.2.1).2.2, ()), nw := id }
theorem c20 : CtrOk Tryz.prog 20 con20.ctr :=
 con_sound (G := ⟨[(32, con32.ctr), (38, con38.ctr), (52, conCopG.ctr), (53, con53.ctr)], [], [(30, 5), (35, 1)], [], []⟩) tab_ok (EnvOk.cons c32 has32 (EnvOk.cons c38 has38 (EnvOk.cons cCopG has52 (EnvOk.cons c53 has53 EnvOk.nil)))) rfl Tryz.func20 rfl con20 2115579 (by kernel_rfl) (by decide) (by decide) rfl (by decide) rfl (by
  rintro ⟨(c : List Cnt), ⟨(n : Int), (pl : List Plt)⟩, _⟩ hpre hwf X hT hG hk hK
  (simp -implicitDefEqProofs only [go_sem, bP, con20, con32, con38, conCopG, con53, hT, hG, hk, hK, Tryz.results20] at hwf ⊢); (try simp (disch := decide +kernel) only [drawn, true_and, and_true])
  clear hwf
  have hni := idxV_lt (fun (x : Cnt) => decide (x.num = n)) c
  have hni1 : -1 ≤ numIdx c n := hni.1
  have hni2 : numIdx c n < c.length := hni.2
  refine fun _ => ⟨fun h => ?_, fun h _ => ⟨fun h2 => ?_, fun h2 => ?_⟩⟩
  · have e : perfV c (n, pl) = ([], [], checkV c) := by unfold perfV; rw [if_pos h]
    rw [e]; exact ⟨rfl, rfl, rfl⟩
  · have e : perfV c (n, pl) = ([], [], 6) := by unfold perfV; rw [if_neg (by omega), if_pos h2]
    rw [e]; exact ⟨rfl, rfl, rfl⟩
  have hC := checkV_iff.1 h
  have hlen := hC.len
  have hpc : ∀ o ∈ c, o.pcs.length ≤ 60 := fun o ho => (hC.ok o ho).2.1
  obtain ⟨k, hkk⟩ : ∃ k : Nat, numIdx c n = k := ⟨(numIdx c n).toNat, by omega⟩
  have hkl : k < c.length := by omega
  have hF : perfV c (n, pl) = (c.set k (setPcs (c.getD k ct0) ((c.getD k ct0).pcs.filter (fun y => !inT (n, pl) y))), ((c.getD k ct0).pcs.filter (inT (n, pl))).map (fun y => y.1), 0) := by
   unfold perfV; rw [if_neg (by omega), if_neg (by show ¬ numIdx c n < 0; omega)]
   show (c.set (numIdx c n).toNat _, _, _) = _
   rw [hkk]; rfl
  have ekn : ((k : Int)).toNat = k := by omega
  have eml : (c.map (fun o => setPcs o [])).length = c.length := List.length_map _
  have eg : (c.map (fun o => o.pcs)).getD k [] = (c.getD k ct0).pcs := by rw [List.getD_eq_getElem?_getD, List.getElem?_map, List.getElem?_eq_getElem hkl, getD_lt hkl]; rfl
  have hpk := hpc _ (getD_mem (d := ct0) hkl)
  rw [hF, hkk]
  simp only [ekn, eg, putSls_set c k _ hkl]
  simp only [eml]
  refine ⟨⟨by omega, fun o ho => by have := hpc o ho; omega⟩, ⟨by omega, by omega⟩, fun _ => ⟨⟨by omega, by omega⟩, by omega, fun _ => ⟨⟨by omega, by omega⟩, fun _ => ⟨⟨trivial, hkl⟩, by and_intros <;> first | trivial | rfl⟩⟩⟩⟩)
end Go.Proofs.YtomdgacmoeohnaaGreat

/- A part. -/
set_option maxRecDepth 100000
set_option maxHeartbeats 8000000
namespace Go.Proofs.YtomdgacmoeohnaaGreat
open Go.Ev
attribute [local go_sem] List.set_cons_succ List.set_cons_zero List.getD_cons_succ List.getD_cons_zero List.set_nil
def con61 : Con := { ps := [.d false (.sl (.int .i64)), .d false (.sl (.int .i64))], rs := [.d false .bool], pre := fun x => True, out := fun (x : List Int × List Int × Unit) => (decide (x.1 = x.2.1), ()), nw := id }
theorem c61 : CtrOk Tryz.prog 61 con61.ctr :=
 con_sound (G := ⟨[], [], [], [], []⟩) tab_ok EnvOk.nil rfl Tryz.func61 rfl con61 33571891 (by kernel_rfl) (by decide) (by decide) rfl (by decide) rfl (by
  rintro ⟨(a : List Int), (b : List Int), _⟩ hpre hwf X hT hG hk hK
  (simp -implicitDefEqProofs only [go_sem, bP, con61, hT, hG, hk, hK, Tryz.results61] at hwf ⊢); (try simp (disch := decide +kernel) only [drawn, true_and, and_true])
  clear hwf
  refine fun _ _ => ⟨fun h => ?_, fun h => ?_⟩
  · rw [eq_comm, decide_eq_false_iff_not]
    intro q
    exact h (by rw [q])
  · refine evk_loop ⟨{ i : Nat // i ≤ a.length ∧ a.take i = b.take i }, 1000, fun q => [(0, .one (.sl (.int .i64) a false)), (1, .one (.sl (.int .i64) b false)), (5, .one (.int .i64 q.1))], fun q => [], fun q => a.length - q.1⟩ ⟨0, Nat.zero_le _, rfl⟩ ?_ ?_
    · simp only [go_sem]
      try first | rfl | (and_intros <;> first | trivial | rfl | omega)
    · rintro ⟨i, (hi : i ≤ a.length), (he : a.take i = b.take i)⟩
      (simp -implicitDefEqProofs only [go_sem, bP, con61, hT, hG, hk, hK, Tryz.results61]); (try simp (disch := decide +kernel) only [drawn, true_and, and_true])
      obtain ⟨o, ho⟩ : ∃ o, a.getD i 0 = o := ⟨_, rfl⟩
      have eo : a.getD (i : Int).toNat 0 = o := ho
      obtain ⟨u, hu⟩ : ∃ o, b.getD i 0 = o := ⟨_, rfl⟩
      have eu : b.getD (i : Int).toNat 0 = u := hu
      try simp only [eo, eu]
      refine fun _ => ⟨fun hlt => ?_, fun hge => ?_⟩
      · have hia : i < a.length := by omega
        have hib : i < b.length := by omega
        (repeat' with_reducible first | refine And.intro ?_ ?_ | intro _) <;> try first | with_reducible (first | assumption | omega | contradiction) | decide
        all_goals first
         | omega
         | (have hne : ¬ o = u := by assumption
            rw [eq_comm, decide_eq_false_iff_not]
            intro q
            subst q
            exact hne (ho.symm.trans hu))
         | (have hne : o = u := by assumption
            refine fin_lp ⟨i + 1, by omega, ?_⟩ ?_ (by dsimp only; omega)
            · show a.take (i + 1) = b.take (i + 1)
              rw [List.take_succ_eq_append_getElem hia, List.take_succ_eq_append_getElem hib, he, ← getD_lt (d := 0) hia, ← getD_lt (d := 0) hib, ho, hu, hne]
            · simp only [go_sem]
              try first | rfl | (and_intros <;> first | trivial | rfl | omega))
         | fail
      · rw [eq_comm, decide_eq_true_eq]
        rw [List.take_of_length_le (by omega), List.take_of_length_le (by omega)] at he
        exact he)
theorem aS1 : searchV three3 [] [platesV 1] = ([(5, [platesV 1])], 0) := by decide +kernel
theorem aT2 : tskL three3 [((platesV 1, 20, 0), 5, [3, 5])] (sortBy pltC [platesV 1]) = [(3, [platesV 1]), (5, [platesV 1])] := by decide +kernel
theorem aT3 : sortT [(3, [platesV 1]), (5, [platesV 1])] = [(3, [platesV 1]), (5, [platesV 1])] := (sortT_eq (by unfold TkN; decide) (List.Perm.refl _) (by decide +kernel)).symm
theorem aS2 : searchV three3 [((platesV 1, 20, 0), 5, [3, 5])] [platesV 1] = ([(3, [platesV 1]), (5, [platesV 1])], 0) := by
 unfold searchV
 rw [if_neg (by decide +kernel), if_neg (by decide +kernel), if_neg (by decide +kernel), aT2, aT3]
theorem aAb : aboV three3 (fltsV 0) = three3 := by
 unfold aboV
 rw [show three3.filter (onB (fltsV 0)) = three3 by decide +kernel]
 exact (sortC_eq (by unfold PosN; decide +kernel) (List.Perm.refl _) (by decide +kernel)).symm
theorem aO1 : ordV three3 (fltsV 0) [(5, [platesV 1])] = ([8, 5], 0) := by
 unfold ordV
 rw [if_neg (by decide +kernel), if_neg (by decide +kernel), aAb]
 decide +kernel
theorem aO2 : ordV three3 (fltsV 0) [(3, [platesV 1]), (5, [platesV 1])] = ([8, 5, 3], 0) := by
 unfold ordV
 rw [if_neg (by decide +kernel), if_neg (by decide +kernel), aAb]
 decide +kernel
theorem aP : perfV three3 (5, [platesV 1]) = (three0, [platesV 1], 0) := by decide +kernel
theorem aR1 : remV three0 [platesV 1] = [] := by decide +kernel
theorem aR2 : remV three3 [platesV 1] = [platesV 1] := by decide +kernel
def con23 : Con := { ps := [], rs := [.d false .bool], pre := fun _ => True, out := fun _ => (true, ()), nw := id }
theorem c23 : CtrOk Tryz.prog 23 con23.ctr :=
 con_sound (G := ⟨[(25, con25.ctr), (27, con27.ctr), (59, con59.ctr), (13, con13.ctr), (60, con60.ctr), (20, con20.ctr), (17, con17.ctr), (61, con61.ctr)], [], [(109, 4), (116, 4)], [], []⟩) tab_ok (EnvOk.cons c25 has25 (EnvOk.cons c27 has27 (EnvOk.cons c59 has59 (EnvOk.cons c13 has13 (EnvOk.cons c60 has60 (EnvOk.cons c20 has20 (EnvOk.cons c17 has17 (EnvOk.cons c61 has61 EnvOk.nil)))))))) rfl Tryz.func23 rfl con23 16383 (by kernel_rfl) (by decide) (by decide) rfl (by decide) rfl (by
  rintro _ hpre hwf X hT hG hk hK
  (simp -implicitDefEqProofs only [go_sem, bP, con23, con25, con27, con59, con13, con60, con20, con17, con61, hT, hG, hk, hK, Tryz.results23] at hwf ⊢); (try simp (disch := decide +kernel) only [drawn, true_and, and_true])
  simp only [aS1, aS2, aO1, aO2, aP, aR1, aR2]
  (repeat' with_reducible first | refine And.intro ?_ ?_ | intro _) <;> try first | with_reducible (first | assumption | omega | contradiction) | decide
  all_goals first
   | decide
   | (subst_vars; decide)
   | fail)
end Go.Proofs.YtomdgacmoeohnaaGreat

/- A part. -/
set_option maxRecDepth 100000
set_option maxHeartbeats 8000000
namespace Go.Proofs.YtomdgacmoeohnaaGreat
open Go.Ev
def tkS (c : List Cnt) (s : Src) : Tsk × Src :=
 if 0 < c.length then
  (if 0 < goMod s.step.step.step.raw 8 then (((c.getD (goMod s.step.step.step.step.raw c.length).toNat ct0).1, [platesV (goMod s.step.raw 12), platesV (goMod s.step.step.raw 12)]), s.step.step.step.step.step)
   else ((1 + goMod s.raw 12, [platesV (goMod s.step.raw 12), platesV (goMod s.step.step.raw 12)]), s.step.step.step.step))
 else ((1 + goMod s.raw 12, [platesV (goMod s.step.raw 12), platesV (goMod s.step.step.raw 12)]), s.step.step.step)
def tkL (c : List Cnt) : Nat → Src → List Tsk → List Tsk × Src
 | 0, s, o => (o, s)
 | k + 1, s, o => tkL c k (tkS c s).2 (o ++ [(tkS c s).1])
def tasksV (c : List Cnt) (most : Int) (s : Src) : List Tsk × Src := tkL c (goMod s.raw (most + 1)).toNat s.step []
theorem tkS_2 (c : List Cnt) (s : Src) : (tkS c s).1.2.length = 2 := by
 unfold tkS
 split
 · split <;> rfl
 · rfl
theorem tkS_pos {c : List Cnt} {s : Src} (h : 0 ≤ s.2) : 0 ≤ (tkS c s).2.2 := by
 have p1 := step_pos h
 have p2 := step_pos p1
 have p3 := step_pos p2
 have p4 := step_pos p3
 unfold tkS
 split
 · split
   · exact step_pos p4
   · exact p4
 · exact p3
theorem tkL_spec {c : List Cnt} : ∀ (k : Nat) {s : Src} {o : List Tsk}, 0 ≤ s.2 → (∀ t ∈ o, t.2.length ≤ 2) → 0 ≤ (tkL c k s o).2.2 ∧ (tkL c k s o).1.length = o.length + k ∧ ∀ t ∈ (tkL c k s o).1, t.2.length ≤ 2
 | 0, s, o, h, ho => ⟨h, rfl, ho⟩
 | k + 1, s, o, h, ho => by
   obtain ⟨h1, h2, h3⟩ := tkL_spec (c := c) k (s := (tkS c s).2) (o := o ++ [(tkS c s).1]) (tkS_pos h) (fun t ht => by
    rcases List.mem_append.1 ht with ht | ht
    · exact ho t ht
    · rw [List.mem_singleton.1 ht, tkS_2]; exact Nat.le_refl _)
   refine ⟨h1, ?_, h3⟩
   show (tkL c k _ _).1.length = _
   rw [h2, List.length_append, List.length_singleton]; omega
theorem tasksV_spec (c : List Cnt) {most : Int} {s : Src} (h : 0 ≤ s.2) (h0 : 0 ≤ most) : 0 ≤ (tasksV c most s).2.2 ∧ ((tasksV c most s).1.length : Int) ≤ most ∧ ∀ t ∈ (tasksV c most s).1, t.2.length ≤ 2 := by
 obtain ⟨h1, h2, h3⟩ := tkL_spec (c := c) (goMod s.raw (most + 1)).toNat (s := s.step) (o := []) (step_pos h) (fun t ht => by cases ht)
 have := goMod_bd s.raw (most + 1) (by omega)
 refine ⟨h1, ?_, h3⟩
 show ((tkL c _ _ _).1.length : Int) ≤ most
 rw [h2, List.length_nil]; omega
def conTkO : Con := { ps := [.p 67 ySR, .d false (.sl yCT), .d false (.int .i64)], rs := [.o 27 yTK], pre := fun (x : Src × List Cnt × Int × Unit) => 0 ≤ x.1.2 ∧ 0 ≤ x.2.2.1 ∧ x.2.2.1 ≤ 100, out := fun (x : Src × List Cnt × Int × Unit) => ((tasksV x.2.1 x.2.2.1 x.1).1, ()), nw := fun (x : Src × List Cnt × Int × Unit) => ((tasksV x.2.1 x.2.2.1 x.1).2, x.2) }
theorem cTkO : CtrOk Tryz.prog 19 conTkO.ctr :=
 con_sound (G := ⟨[(24, con24.ctr), (12, con12.ctr)], [], [(32, 4)], [], []⟩) tab_ok (EnvOk.cons c24 has24 (EnvOk.cons c12 has12 EnvOk.nil)) rfl Tryz.func19 rfl conTkO 17179902919 (by kernel_rfl) (by decide) (by decide) rfl (by decide) rfl (by
  rintro ⟨⟨(s : List Int), (a : Int)⟩, (c : List Cnt), (most : Int), _⟩ hpre hwf X hT hG hk hK
  obtain ⟨h1, h2, h3⟩ : 0 ≤ a ∧ 0 ≤ most ∧ most ≤ 100 := hpre
  (simp -implicitDefEqProofs only [go_sem, bP, conTkO, con24, con12, hT, hG, hk, hK, Tryz.results19] at hwf ⊢)
  clear hwf
  have hs1 : 0 ≤ (Src.step (s, a)).snd := step_pos h1
  have hkb := goMod_bd (Src.raw (s, a)) (most + 1) (by omega)
  obtain ⟨TV, hTV0⟩ : ∃ TV, tasksV c most (s, a) = TV := ⟨_, rfl⟩
  have hTV : tkL c (goMod (Src.raw (s, a)) (most + 1)).toNat (Src.step (s, a)) [] = TV := hTV0
  generalize goMod (Src.raw (s, a)) (most + 1) = K at hkb hTV ⊢
  generalize Src.step (s, a) = S1 at hs1 hTV ⊢
  obtain ⟨s1, a1⟩ := S1
  obtain ⟨kn, hkn⟩ : ∃ kn : Nat, K = kn := ⟨K.toNat, by omega⟩
  subst hkn
  have ekn : ((kn : Int)).toNat = kn := by omega
  rw [ekn] at hTV
  refine ⟨⟨by omega, by omega⟩, h1, fun _ => ?_⟩
  refine evk_loop ⟨{ q : Src × List Tsk × Nat // 0 ≤ q.1.2 ∧ q.2.1.length + q.2.2 ≤ 101 ∧ tkL c q.2.2 q.1 q.2.1 = TV }, 1000, fun q => [(0, .one (.loc 0 0)), (1, .one (.sl yCT c false)), (7, .one (.row 64)), (8, .one (.int .i64 q.1.2.2))],
   fun q => [(0, .cells 67 [.sl (.int .i64) q.1.1.1 false, .int .i64 q.1.1.2]), (64, .row 27 yTK q.1.2.1)], fun q => q.1.2.2⟩ ⟨((s1, a1), [], kn), hs1, by show 0 + kn ≤ 101; omega, hTV⟩ ?_ ?_
  · simp only [go_sem]
    try first | rfl | (and_intros <;> first | trivial | rfl | omega)
  · rintro ⟨⟨⟨s, a⟩, out, k⟩, (h1 : 0 ≤ a), (hl : out.length + k ≤ 101), (htv : tkL c k (s, a) out = TV)⟩
    (simp -implicitDefEqProofs only [go_sem, bP, conTkO, con24, con12, hT, hG, hk, hK, Tryz.results19])
    have p1 : 0 ≤ (Src.step (s, a)).snd := step_pos h1
    have p2 : 0 ≤ (Src.step (s, a)).step.snd := step_pos p1
    have p3 : 0 ≤ (Src.step (s, a)).step.step.snd := step_pos p2
    have p4 : 0 ≤ (Src.step (s, a)).step.step.step.snd := step_pos p3
    have p5 : 0 ≤ (Src.step (s, a)).step.step.step.step.snd := step_pos p4
    have r1 := goMod_bd (Src.raw (s, a)) 12 (by omega)
    have r2 : 0 < c.length → 0 ≤ goMod (Src.step (s, a)).step.step.step.raw c.length ∧ goMod (Src.step (s, a)).step.step.step.raw c.length < c.length := fun h => goMod_bd _ _ (by omega)
    have r3 : 0 < c.length → 0 ≤ goMod (Src.step (s, a)).step.step.raw c.length ∧ goMod (Src.step (s, a)).step.step.raw c.length < c.length := fun h => goMod_bd _ _ (by omega)
    let t0 : Tsk := (1 + goMod (Src.raw (s, a)) 12, [platesV (goMod (Src.step (s, a)).raw 12), platesV (goMod (Src.step (s, a)).step.raw 12)])
    let t1 : Tsk := ((c.getD (goMod (Src.step (s, a)).step.step.step.raw c.length).toNat ct0).1, [platesV (goMod (Src.step (s, a)).raw 12), platesV (goMod (Src.step (s, a)).step.raw 12)])
    have n1 : ¬ 0 < c.length → tkS c (s, a) = (t0, (Src.step (s, a)).step.step) := fun h => by unfold tkS; rw [if_neg h]
    have n2 : 0 < c.length → ¬ 0 < goMod (Src.step (s, a)).step.step.raw 8 → tkS c (s, a) = (t0, (Src.step (s, a)).step.step.step) := fun h h' => by unfold tkS; rw [if_pos h, if_neg h']
    have n3 : 0 < c.length → 0 < goMod (Src.step (s, a)).step.step.raw 8 → tkS c (s, a) = (t1, (Src.step (s, a)).step.step.step.step) := fun h h' => by unfold tkS; rw [if_pos h, if_pos h']
    have htl : ∀ (t : Tsk) (s' : Src), 0 < k → tkS c (s, a) = (t, s') → tkL c (k - 1) s' (out ++ [t]) = TV := fun t s' h0 h => by
     obtain ⟨k', rfl⟩ : ∃ k', k = k' + 1 := ⟨k - 1, by omega⟩
     rw [← htv]
     show _ = tkL c k' (tkS c (s, a)).2 (out ++ [(tkS c (s, a)).1])
     rw [h]; rfl
    have hend : k = 0 → TV = (out, (s, a)) := fun h => by rw [← htv, h]; rfl
    have ek : 0 < k → (k : Int) - 1 = ((k - 1 : Nat) : Int) := fun h => by omega
    (repeat' with_reducible first | refine And.intro ?_ ?_ | intro _) <;> try first | with_reducible (first | assumption | omega | contradiction) | decide
    all_goals first
     | omega
     | assumption
     | (have := r2 (by omega); omega)
     | (have := r3 (by omega); omega)
     | (refine fin_lp ⟨((Src.step (s, a)).step.step, out ++ [t0], k - 1), p3, by show (out ++ [_]).length + (k - 1) ≤ 101; rw [List.length_append, List.length_singleton]; omega, htl _ _ (by omega) (n1 (by omega))⟩ ?_ (by dsimp only; omega)
        simp only [go_sem]
        try simp only [ek (by omega)]
        try first | rfl | (and_intros <;> first | trivial | rfl | omega)
        done)
     | (refine fin_lp ⟨((Src.step (s, a)).step.step.step, out ++ [t0], k - 1), p4, by show (out ++ [_]).length + (k - 1) ≤ 101; rw [List.length_append, List.length_singleton]; omega, htl _ _ (by omega) (n2 (by omega) (by omega))⟩ ?_ (by dsimp only; omega)
        simp only [go_sem]
        try simp only [ek (by omega)]
        try first | rfl | (and_intros <;> first | trivial | rfl | omega)
        done)
     | (refine fin_lp ⟨((Src.step (s, a)).step.step.step.step, out ++ [t1], k - 1), p5, by show (out ++ [_]).length + (k - 1) ≤ 101; rw [List.length_append, List.length_singleton]; omega, htl _ _ (by omega) (n3 (by omega) (by omega))⟩ ?_ (by dsimp only; omega)
        simp only [go_sem]
        try simp only [ek (by omega)]
        try first | rfl | (and_intros <;> first | trivial | rfl | omega)
        done)
     | (rw [hTV0, hend (by omega)]; done)
     | (rw [hTV0, hend (by omega)]; exact ⟨rfl, rfl, rfl⟩)
     | fail)
end Go.Proofs.YtomdgacmoeohnaaGreat

/- A part. -/
set_option maxRecDepth 100000
set_option maxHeartbeats 8000000
namespace Go.Proofs.YtomdgacmoeohnaaGreat
open Go.Ev
def hasP (l : List Pce) (p : Plt) : Bool := l.any (fun x => decide (x.1 = p))
theorem holdsV_has (c : Cnt) (p : Plt) : holdsV c p = hasP c.pcs p := by
 rw [Bool.eq_iff_iff, holdsV_iff]; unfold hasP
 rw [List.any_eq_true]
 exact exists_congr fun x => and_congr_right fun _ => decide_eq_true_iff.symm
def remP (l : List Pce) (p : Plt) : List Pce := l.filter (fun x => !decide (x.1 = p))
def removeV (c : Cnt) (p : Plt) : Cnt × Int := if ctErr c ≠ 0 then (ct0, ctErr c) else if hasP c.pcs p = false then (ct0, 6) else (setPcs c (remP c.pcs p), 0)
def con57 : Con := { ps := [.d true yCT, .d true yPL], rs := [.d true yCT, .d false (.int .i64)], pre := fun _ => True, out := fun (x : Cnt × Plt × Unit) => ((removeV x.1 x.2.1).1, (removeV x.1 x.2.1).2, ()), nw := id }
theorem c57 : CtrOk Tryz.prog 57 con57.ctr :=
 con_sound (G := ⟨[(81, con81.ctr), (56, con56.ctr)], [], [], [], []⟩) tab_ok (EnvOk.cons c81 has81 (EnvOk.cons c56 has56 EnvOk.nil)) rfl Tryz.func57 rfl con57 17196913151 (by kernel_rfl) (by decide) (by decide) rfl (by decide) rfl (by
  rintro ⟨⟨(n : Int), ⟨a1, (a2 : Int), a3, (a4 : Int)⟩, (c : Int), (lm : Int), (t : Int), (p : Int), (r : Int), (l : List Pce)⟩, ⟨(p1 : Int), (p2 : Int), (p3 : Int)⟩, _⟩ hpre hwf X hT hG hk hK
  (simp -implicitDefEqProofs only [go_sem, bP, con57, con81, con56, hT, hG, hk, hK, Tryz.results57] at hwf ⊢); (try simp (disch := decide +kernel) only [drawn, true_and, and_true])
  clear hwf
  obtain ⟨C, hC⟩ : ∃ C : Cnt, (n, (a1, a2, a3, a4), c, lm, t, p, r, l) = C := ⟨_, rfl⟩
  obtain ⟨x, hx⟩ : ∃ x : Plt, (p1, p2, p3) = x := ⟨_, rfl⟩
  have hl : C.pcs = l := by rw [← hC]
  simp only [hC, hx, holdsV_has]
  (repeat' with_reducible first | refine And.intro ?_ ?_ | intro _) <;> try first | with_reducible (first | assumption | omega | contradiction) | decide
  all_goals first
   | (have h : ¬ ctErr C = 0 := by assumption
      have e : removeV C x = (ct0, ctErr C) := by unfold removeV; rw [if_pos h]
      first | (rw [e]; done) | (rw [e]; rfl))
   | (have h : ctErr C = 0 := by assumption
      have hq : hasP C.pcs x = false := by assumption
      have e : removeV C x = (ct0, 6) := by unfold removeV; rw [if_neg (by simp [h]), if_pos hq]
      first | (rw [e]; done) | (rw [e]; rfl))
   | (have h : ctErr C = 0 := by assumption
      have hq : hasP C.pcs x = true := by assumption
      have hll : l.length ≤ 60 := by rw [← hl]; exact (ctErr_iff.1 h).2.1
      have e : removeV C x = (setPcs C (remP C.pcs x), 0) := by unfold removeV; rw [if_neg (by simp [h]), if_neg (by simp [hq])]
      refine evk_loop ⟨{ i : Nat // i ≤ l.length }, 1000, fun q => [(2, .one (.loc 70 0)), (3, .one (.loc 71 0)), (4, .one (.loc 72 0)), (7, .one (.row 74)), (8, .one (.int .i64 q.1))], fun q => [(70, .cells 61 [.int .i64 n, .str a1, .int .i64 a2, .str a3, .int .i64 a4, .int .i64 c, .int .i64 lm, .int .i64 t, .int .i64 p, .int .i64 r, .sl yPC l false]), (71, .cells 41 [.int .i64 p1, .int .i64 p2, .int .i64 p3]), (72, .cells 61 [.int .i64 0, .str ByteArray.empty, .int .i64 0, .str ByteArray.empty, .int .i64 0, .int .i64 0, .int .i64 0, .int .i64 0, .int .i64 0, .int .i64 0, .row 73]), (73, .row 63 yPC []), (74, .row 63 yPC (remP (l.take q.1) x))], fun q => l.length - q.1⟩ ⟨0, Nat.zero_le _⟩ ?_ ?_
      · simp only [go_sem]
        try first | rfl | (and_intros <;> first | trivial | rfl | omega)
      · rintro ⟨i, (hi : i ≤ l.length)⟩
        (simp -implicitDefEqProofs only [go_sem, bP, con57, con81, con56, hT, hG, hk, hK, Tryz.results57]); (try simp (disch := decide +kernel) only [drawn, true_and, and_true])
        obtain ⟨o, ho⟩ : ∃ o, l.getD i pc0 = o := ⟨_, rfl⟩
        have eo : l.getD (i : Int).toNat ((0, 0, 0), 0, 0) = o := ho
        try simp only [eo]
        try simp only [hC, hx]
        have hrl : (remP (l.take i) x).length ≤ l.length := Nat.le_trans (List.length_filter_le _ _) (by rw [List.length_take]; omega)
        have hrs : i < l.length → remP (l.take (i + 1)) x = remP (l.take i) x ++ (if o.1 = x then [] else [o]) := fun h => by
         unfold remP
         rw [List.take_succ_eq_append_getElem h, List.filter_append, ← getD_lt (d := pc0) h, ho]
         by_cases q : o.1 = x
         · rw [if_pos q, List.filter_cons_of_neg (by simp [q])]; rfl
         · rw [if_neg q, List.filter_cons_of_pos (by simp [q])]; rfl
        (repeat' with_reducible first | refine And.intro ?_ ?_ | intro _) <;> try first | with_reducible (first | assumption | omega | contradiction) | decide
        all_goals first
         | (have hq : ¬ o.1.1 = p1 ∨ ¬ o.1.2.1 = p2 ∨ ¬ o.1.2.2 = p3 := by assumption
            have hn : ¬ o.1 = x := by rw [← hx]; exact (pltN o.1 (p1, p2, p3)).mp hq
            have e1 := hrs (by omega)
            rw [if_neg hn] at e1
            refine fin_lp ⟨i + 1, by omega⟩ ?_ (by dsimp only; omega)
            simp only [go_sem]
            rw [e1]
            try first | rfl | (and_intros <;> first | trivial | rfl | omega)
            done)
         | (have hq : o.1.1 = p1 ∧ o.1.2.1 = p2 ∧ o.1.2.2 = p3 := by assumption
            have hn : o.1 = x := by rw [← hx]; exact (pltE o.1 (p1, p2, p3)).mp hq
            have e1 := hrs (by omega)
            rw [if_pos hn, List.append_nil] at e1
            refine fin_lp ⟨i + 1, by omega⟩ ?_ (by dsimp only; omega)
            simp only [go_sem]
            rw [e1]
            try first | rfl | (and_intros <;> first | trivial | rfl | omega)
            done)
         | (rw [e]; done)
         | (rw [e]; rfl)
         | (rw [e, ← hC]; rfl)
         | (have e4 : l.take i = l := List.take_of_length_le (by omega)
            rw [e, e4]
            show _ = remP C.pcs x
            rw [hl])
         | fail)
   | fail)
def con55 : Con := { ps := [.d false (.sl yCT)], rs := [.o 61 yCT], pre := fun (x : List Cnt × Unit) => x.1.length ≤ 1000 ∧ ∀ o ∈ x.1, o.pcs.length ≤ 100000, out := fun (x : List Cnt × Unit) => (x.1, ()), nw := id }
theorem c55 : CtrOk Tryz.prog 55 con55.ctr :=
 con_sound (G := ⟨[], [], [], [], []⟩) tab_ok EnvOk.nil rfl Tryz.func55 rfl con55 573 (by kernel_rfl) (by decide) (by decide) rfl (by decide) rfl (by
  rintro ⟨(l : List Cnt), _⟩ hpre hwf X hT hG hk hK
  obtain ⟨hl, hlo⟩ : l.length ≤ 1000 ∧ ∀ o ∈ l, o.pcs.length ≤ 100000 := hpre
  (simp -implicitDefEqProofs only [go_sem, bP, con55, hT, hG, hk, hK, Tryz.results55] at hwf ⊢)
  clear hwf
  refine evk_loop ⟨{ i : Nat // i ≤ l.length }, 1000, fun q => [(0, .one (.sl yCT l false)), (3, .one (.row 64)), (4, .one (.int .i64 q.1))], fun q => [(64, .row 61 yCT (l.take q.1))], fun q => l.length - q.1⟩ ⟨0, Nat.zero_le _⟩ ?_ ?_
  · simp only [go_sem]
    try first | rfl | (and_intros <;> first | trivial | rfl | omega)
  · rintro ⟨i, (hi : i ≤ l.length)⟩
    (simp -implicitDefEqProofs only [go_sem, bP, con55, hT, hG, hk, hK, Tryz.results55])
    obtain ⟨o, ho⟩ : ∃ o, l.getD i ct0 = o := ⟨_, rfl⟩
    have eo : l.getD (i : Int).toNat (0, (ByteArray.empty, 0, ByteArray.empty, 0), 0, 0, 0, 0, 0, []) = o := ho
    try simp only [eo]
    have hts : i < l.length → l.take (i + 1) = l.take i ++ [o] := fun h => by rw [List.take_succ_eq_append_getElem h, ← getD_lt (d := ct0) h, ho]
    have htl : (l.take i).length ≤ l.length := by rw [List.length_take]; omega
    have hop : i < l.length → o.pcs.length ≤ 100000 := fun h => hlo o (by rw [← ho]; exact getD_mem h)
    (repeat' with_reducible first | refine And.intro ?_ ?_ | intro _) <;> try first | with_reducible (first | assumption | omega | contradiction) | decide
    all_goals first
     | (have e1 := hts (by omega)
        refine fin_lp ⟨i + 1, by omega⟩ ?_ (by dsimp only; omega)
        simp only [go_sem]
        rw [e1]
        try first | rfl | (and_intros <;> first | trivial | rfl | omega)
        done)
     | (rw [List.take_of_length_le (by omega)]; done)
     | (have h5 : List.length o.2.2.2.2.2.2.2 ≤ 100000 := hop (by omega)
        omega)
     | fail)
end Go.Proofs.YtomdgacmoeohnaaGreat
