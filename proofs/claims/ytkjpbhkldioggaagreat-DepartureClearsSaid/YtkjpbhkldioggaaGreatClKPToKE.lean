/- Part. -/
import Derived.Test.YtkjpbhkldioggaaGreatClKVToKC
import Derived.Test.YtkjpbhkldioggaaGreatEvBox
import Derived.Test.YtkjpbhkldioggaaGreatClKDToKT
set_option linter.all false
set_option maxRecDepth 100000
set_option maxHeartbeats 8000000
namespace Go.Proofs.YtkjpbhkldioggaaGreat
open Go.Ev
attribute [local go_sem] List.set_cons_succ List.set_cons_zero List.getD_cons_succ List.getD_cons_zero List.set_nil
def inT (t : Tsk) (p : Pce) : Bool := t.2.any (fun y => decide (y = p.1))
def con51 : BCon := { ps := [.d true yPC, .p 53 yTK, .bx], rs := [.d false .bool], e := 43, k := .row 45 yPL, pre := fun _ (z : List Plt) => z.length ≤ 100000000, out := fun (x : Pce × Tsk × Unit × Unit) _ => (inT x.2.1 x.1, ()), nw := fun x _ => x, nx := fun (x : Pce × Tsk × Unit × Unit) (z : List Plt) => if inT x.2.1 x.1 = true then z ++ [x.1.1] else z }
theorem c51 : CtrOk Tryz.prog 51 con51.ctr :=
 box_sound (G := ⟨[(46, con46.ctr)], [], [], [], []⟩) tab_ok (EnvOk.cons c46 has46 EnvOk.nil) rfl Tryz.func51 rfl con51 1055 (by kernel_rfl) (by decide) (by decide) rfl (by decide) rfl (by
  rintro ⟨⟨⟨(a : Int), (b : Int), (c : Int)⟩, (d : Int), (e : Int)⟩, ⟨(n : Int), (pl : List Plt)⟩, _⟩ (z : List Plt) hpre hwf X hT hG hk hK; have hz : z.length ≤ 100000000 := hpre
  (simp -implicitDefEqProofs only [go_sem, bP, con51, con46, hT, hG, hk, hK, Tryz.results51] at hwf ⊢)
  have e0 : inT (n, pl) ((a, b, c), d, e) = pl.any (fun y => decide (y = (a, b, c))) := rfl; rw [e0]; refine ⟨fun h => ⟨by rw [if_neg (by rw [h]; simp)], h.symm⟩, fun h => ⟨by omega, by rw [if_pos h], h.symm⟩⟩)
theorem idxV_m1' {α : Type} {p : α → Bool} {l : List α} (h : idxV p l < 0) : idxV p l = -1 := by
 unfold idxV at h ⊢; split at h
 · omega
 · rfl
def takI (t : Tsk) (l : List Pce) : List Plt := if 0 ≤ idxV (inT t) l then [(l.getD (idxV (inT t) l).toNat pc0).1] else []
def con61 : BCon := { ps := [.o 59 yPC, .cl 51 [.p 53 yTK, .bx]], rs := [.d false yI], e := 43, k := .row 45 yPL, pre := fun _ (z : List Plt) => z.length ≤ 1000000, out := fun (x : List Pce × (Tsk × Unit × Unit) × Unit) _ => (idxV (inT x.2.1.1) x.1, ()), nw := fun x _ => x, nx := fun (x : List Pce × (Tsk × Unit × Unit) × Unit) (z : List Plt) => z ++ takI x.2.1.1 x.1 }
theorem c61 : CtrOk Tryz.prog 61 con61.ctr :=
 box_sound (G := ⟨[(51, con51.ctr)], [], [], [], []⟩) tab_ok (EnvOk.cons c51 has51 EnvOk.nil) rfl Tryz.func61 rfl con61 66483 (by kernel_rfl) (by decide) (by decide) rfl (by decide) rfl (by
  rintro ⟨(l : List Pce), ⟨⟨(n : Int), (pl : List Plt)⟩, _⟩, _⟩ (z : List Plt) hpre hwf X hT hG hk hK; have hz : z.length ≤ 1000000 := hpre
  (simp -implicitDefEqProofs only [go_sem, bP, con61, con51, hT, hG, hk, hK, Tryz.results61] at hwf ⊢)
  clear hwf; obtain ⟨t, ht⟩ : ∃ t : Tsk, (n, pl) = t := ⟨_, rfl⟩; have hn : n = t.1 := by rw [← ht]
  have hpl : pl = t.2 := by rw [← ht]
  subst hn; subst hpl; clear ht; refine fun _ => evk_loop ⟨{ i : Nat // i ≤ l.length ∧ ∀ k, k < i → inT t (l.getD k pc0) = false }, 1000, fun q => [(0, .one (.row 0)), (1, .one (.fn 51 [.loc 12 0, .loc 31 0])), (4, .one (.int .i64 0)), (7, .one (.int .i64 l.length)), (8, .one (.int .i64 q.1))], fun q => [(0, .row 59 yPC l), (12, .cells 53 [.int .i64 t.1, .sl yPL t.2 false]), (31, .cells 43 [.row 40]), (40, .row 45 yPL z)], fun q => l.length - q.1⟩ ⟨0, by omega, fun k hk => by omega⟩ ?_ ?_
  · simp only [go_sem]
    try first | rfl | (and_intros <;> first | trivial | rfl | omega)
  · rintro ⟨i, (hi : i ≤ l.length), hzz⟩
    (simp -implicitDefEqProofs only [go_sem, bP, con61, con51, hT, hG, hk, hK, Tryz.results61])
    obtain ⟨o, ho⟩ : ∃ o, l.getD i pc0 = o := ⟨_, rfl⟩; have eo : l.getD (i : Int).toNat ((0, 0, 0), 0, 0) = o := ho
    try simp only [eo]
    have eO : ((o.1.1, o.1.2.1, o.1.2.2), o.2.1, o.2.2) = o := rfl
    try simp only [eO]
    have hidx : i < l.length → inT t o = true → idxV (inT t) l = i := fun h1 h2 => idxV_at (d := pc0) hzz h1 (by rw [ho]; exact h2); have htk : i < l.length → inT t o = true → takI t l = [o.1] := fun h1 h2 => by
     unfold takI; rw [hidx h1 h2, if_pos (by omega), show ((i : Int)).toNat = i by omega, ho]
    have hno : i = l.length → idxV (inT t) l = -1 := fun h => idxV_none (d := pc0) fun k hk => hzz k (by omega); have htn : i = l.length → takI t l = [] := fun h => by unfold takI; rw [hno h, if_neg (by omega)]
    (repeat' with_reducible first | refine And.intro ?_ ?_ | intro _) <;> try first | with_reducible (first | assumption | omega | contradiction) | decide
    all_goals first
     | omega
     | (have h : inT t o = true := by assumption
        rw [if_pos h, htk (by omega) h])
     | (have h : inT t o = true := by assumption
        rw [hidx (by omega) h])
     | (have h : inT t o = false := by assumption
        refine fin_lp ⟨i + 1, by omega, lt_succ hzz (by rw [ho]; exact h)⟩ ?_ (by dsimp only; omega); simp only [go_sem]; simp only [h, Bool.false_eq_true, if_false]
        try first | rfl | (and_intros <;> first | trivial | rfl | omega)
        done)
     | (rw [htn (by omega), List.append_nil])
     | (rw [hno (by omega)]))
def con26 : BCon := { ps := [.oc 59 yPC, .cl 51 [.p 53 yTK, .bx]], rs := [.o 59 yPC], e := 43, k := .row 45 yPL, pre := fun (x : List Pce × (Tsk × Unit × Unit) × Unit) (z : List Plt) => x.1.length ≤ 1000 ∧ z.length ≤ 1000, out := fun (x : List Pce × (Tsk × Unit × Unit) × Unit) _ => (x.1.filter (fun y => !inT x.2.1.1 y), ()), nw := fun x _ => x, nx := fun (x : List Pce × (Tsk × Unit × Unit) × Unit) (z : List Plt) => z ++ (x.1.filter (inT x.2.1.1)).map (fun y => y.1) }
theorem c26 : CtrOk Tryz.prog 26 con26.ctr :=
 box_sound (G := ⟨[(61, con61.ctr), (51, con51.ctr)], [], [(13, 2), (38, 1), (41, 2)], [], []⟩) tab_ok (EnvOk.cons c61 has61 (EnvOk.cons c51 has51 EnvOk.nil)) rfl Tryz.func26 rfl con26 537399539 (by kernel_rfl) (by decide) (by decide) rfl (by decide) rfl (by
  rintro ⟨(l : List Pce), ⟨⟨(n : Int), (pl : List Plt)⟩, _⟩, _⟩ (z : List Plt) hpre hwf X hT hG hk hK; obtain ⟨hl, hz⟩ : l.length ≤ 1000 ∧ z.length ≤ 1000 := hpre
  (simp -implicitDefEqProofs only [go_sem, bP, con26, con61, con51, hT, hG, hk, hK, Tryz.results26] at hwf ⊢)
  clear hwf; obtain ⟨t, ht⟩ : ∃ t : Tsk, (n, pl) = t := ⟨_, rfl⟩; have hn : n = t.1 := by rw [← ht]
  have hpl : pl = t.2 := by rw [← ht]
  subst hn; subst hpl; clear ht; simp only [Prod.eta]; obtain ⟨F, hF⟩ : ∃ F : Pce → Bool, F = fun x => !inT t x := ⟨_, rfl⟩; obtain ⟨G, hG0⟩ : ∃ G : Pce → Bool, G = inT t := ⟨_, rfl⟩; have hFa : ∀ x, F x = !inT t x := fun x => by rw [hF]
  have hGa : ∀ x, G x = inT t x := fun x => by rw [hG0]
  have hfe : (fun y => !inT t y) = F := hF.symm; simp only [hfe]; refine ⟨by omega, fun _ => ⟨fun h => ?_, fun h => ?_⟩⟩
  · have h1 := idxV_neg (p := inT t) (l := l) (by omega); have e1 : takI t l = [] := by unfold takI; rw [if_neg (by omega)]
    have e2 : l.filter (inT t) = [] := List.filter_eq_nil_iff.2 fun x hx => by rw [h1 x hx]; simp
    rw [List.filter_eq_self.2 fun x hx => by rw [hFa, h1 x hx]; rfl, e1, e2]; exact ⟨rfl, rfl⟩
  · have hn : 0 ≤ idxV (inT t) l := by
     apply Classical.byContradiction; intro hq; have := idxV_m1' (p := inT t) (l := l) (by omega); exact h this
    obtain ⟨hi, h2, h3⟩ := idxV_spec (d := pc0) hn; have htk : takI t l = [(l.getD (idxV (inT t) l).toNat pc0).1] := by unfold takI; rw [if_pos hn]
    obtain ⟨i, hq⟩ : ∃ i : Nat, idxV (inT t) l = i := ⟨(idxV (inT t) l).toNat, by omega⟩; rw [hq] at hi h2 h3 htk ⊢; have hi : i < l.length := hi; have h2 : inT t (l.getD i pc0) = true := h2; have h3 : ∀ k, k < i → inT t (l.getD k pc0) = false := h3; have htk : takI t l = [(l.getD i pc0).1] := htk; rw [htk]; refine ⟨⟨by omega, by omega⟩, ?_⟩; have hpre0 : ∀ x ∈ l.take i, inT t x = false := fun x hx => by
     obtain ⟨k, hk, rfl⟩ := getD_pc hx; have hki : k < i := by rw [List.length_take] at hk; omega
     rw [gdE, List.getElem?_take_of_lt hki, ← gdE, h3 k hki]
    have b0 : (l.take i).filter F = l.take i := List.filter_eq_self.2 fun x hx => by rw [hFa, hpre0 x hx]; rfl
    have b1 : l.take i = (l.take (i + 1)).filter F := by
     rw [tsE hi, List.filter_append, b0, ← getD_lt (d := pc0) hi, List.filter_cons_of_neg (by rw [hFa, h2]; simp)]; simp
    have b2 : (l.take (i + 1)).filter G = [l.getD i pc0] := by
     rw [tsE hi, List.filter_append, List.filter_eq_nil_iff.2 (fun x hx => by rw [hGa, hpre0 x hx]; simp), ← getD_lt (d := pc0) hi, List.filter_cons_of_pos (by rw [hGa, h2])]; rfl
    refine evk_loop ⟨{ q : Nat × Nat × List Pce // q.1 ≤ q.2.1 ∧ q.2.1 ≤ l.length ∧ q.2.2.length = l.length ∧ q.2.2.take q.1 = (l.take q.2.1).filter F ∧ q.2.2.drop q.2.1 = l.drop q.2.1 }, 1000, fun q => [(0, .one (.row 0)), (1, .one (.fn 51 [.loc 12 0, .loc 31 0])), (5, .one (.int .i64 q.1.1)), (6, .one (.int .i64 q.1.2.1))], fun q => [(0, .row 59 yPC q.1.2.2), (12, .cells 53 [.int .i64 t.1, .sl yPL t.2 false]), (31, .cells 43 [.row 40]), (40, .row 45 yPL (z ++ ((l.take q.1.2.1).filter G).map (fun y => y.1)))], fun q => l.length - q.1.2.1⟩ ⟨(i, i + 1, l), Nat.le_succ i, hi, rfl, b1, rfl⟩ ?_ ?_
    · simp only [go_sem]; rw [b2]
      try first | rfl | (and_intros <;> first | trivial | rfl | omega)
    · rintro ⟨⟨a, r, R⟩, (c1 : a ≤ r), (c2 : r ≤ l.length), (c3 : R.length = l.length), (c4 : R.take a = (l.take r).filter F), (c5 : R.drop r = l.drop r)⟩; have hzl : (z ++ ((l.take r).filter G).map (fun y => y.1)).length ≤ 2000 := by
       have := List.length_filter_le G (l.take r); rw [List.length_take] at this; rw [List.length_append, List.length_map]; omega
      (simp -implicitDefEqProofs only [go_sem, bP, con26, con61, con51, hT, hG, hk, hK, Tryz.results26])
      refine fun _ => ⟨fun hlt => ?_, fun hge => ?_⟩
      · have hr : r < R.length := by omega
        have hr2 : r < l.length := by omega
        obtain ⟨o, ho⟩ : ∃ o, l.getD r pc0 = o := ⟨_, rfl⟩; have hRr : R.getD r pc0 = o := by
         have := congrArg (fun q => q.getD 0 pc0) c5; simp only [gdE, List.getElem?_drop, Nat.add_zero] at this; rw [gdE, this, ← gdE, ho]
        have eo : R.getD (r : Int).toNat ((0, 0, 0), 0, 0) = o := hRr; have eO : ((o.1.1, o.1.2.1, o.1.2.2), o.2.1, o.2.2) = o := rfl; have eT : ((t.1, t.2) : Tsk) = t := rfl
        try simp only [eo, eO, eT]
        have hd : R.drop (r + 1) = l.drop (r + 1) := by rw [← List.drop_drop, c5, List.drop_drop]
        have hst : ∀ H : Pce → Bool, (l.take (r + 1)).filter H = (l.take r).filter H ++ (if H o = true then [o] else []) := fun H => by
         rw [tsE hr2, List.filter_append, ← getD_lt (d := pc0) hr2, ho]; by_cases q : H o = true
         · rw [if_pos q, List.filter_cons_of_pos q]; rfl
         · rw [if_neg q, List.filter_cons_of_neg q]; rfl
        have hs1 := hst F; have hs2 := hst G
        (repeat' with_reducible first | refine And.intro ?_ ?_ | intro _) <;> try first | with_reducible (first | assumption | omega | contradiction) | decide
        all_goals first
         | omega
         | (have h0 : inT t o = false := by assumption
            have h1 : F o = true := by rw [hFa, h0]; rfl
            have h2 : ¬ G o = true := by rw [hGa, h0]; simp
            rw [if_pos h1] at hs1; rw [if_neg h2, List.append_nil] at hs2; have har : a < R.length := by omega
            refine fin_lp ⟨(a + 1, r + 1, R.set a o), by dsimp only; omega, by dsimp only; omega, by dsimp only; rw [List.length_set]; exact c3, ?_, ?_⟩ ?_ (by dsimp only; omega)
            · dsimp only; rw [hs1, ← c4, tsE (by rw [List.length_set]; omega), List.take_set_of_le (Nat.le_refl _), List.getElem_set_self]
            · dsimp only; rw [List.drop_set_of_lt (by omega), hd]
            · simp only [go_sem]; rw [hs2]; simp only [h0, Bool.false_eq_true, if_false]
              try first | rfl | (and_intros <;> first | trivial | rfl | omega)
              done)
         | (have h0 : inT t o = true := by assumption
            have h1 : ¬ F o = true := by rw [hFa, h0]; simp
            have h2 : G o = true := by rw [hGa, h0]
            rw [if_neg h1, List.append_nil] at hs1; rw [if_pos h2] at hs2; refine fin_lp ⟨(a, r + 1, R), by dsimp only; omega, by dsimp only; omega, c3, by dsimp only; rw [hs1]; exact c4, hd⟩ ?_ (by dsimp only; omega); simp only [go_sem]; rw [hs2, List.map_append, ← List.append_assoc, if_pos h0]
            try first | rfl | (and_intros <;> first | trivial | rfl | omega)
            done)
      · refine ⟨by omega, ?_⟩; have hr : r = l.length := by omega
        have e1 : (a : Int).toNat = a := by omega
        have e2 : ((R.length : Int) - (a : Int)).toNat = R.length - a := by omega
        have e3 : (a + (R.length - a) ≤ R.length) = True := by rw [eq_iff_iff, iff_true]; omega
        (simp -implicitDefEqProofs only [go_sem, bP, con26, con61, con51, hT, hG, hk, hK, Tryz.results26, e1, e2, e3])
        have e5 : (R.take a).length = a := by rw [List.length_take]; omega
        have e4 : List.take a (List.take a R ++ (List.replicate (R.length - a) ((0, 0, 0), 0, 0) ++ List.drop (a + (R.length - a)) R)) = l.filter F := by
         rw [List.take_append_of_le_length (by omega), List.take_of_length_le (by omega), c4, hr, List.take_of_length_le (Nat.le_refl _)]
        have e6 : l.take r = l := by rw [hr, List.take_length]
        simp only [hfe, e6]
        try simp only [← hG0]
        (repeat' with_reducible first | refine And.intro ?_ ?_ | intro _) <;> try first | with_reducible (first | assumption | omega | contradiction) | decide
        all_goals first
         | exact e4
         | (rw [List.length_append, e5]; omega))
theorem putSls_p : ∀ (xs : List Cnt) (yss : List (List Pce)), putSls yPC yCT xs yss = (xs.zip yss).map (fun q => setPcs q.1 q.2)
 | [], _ => rfl
 | _ :: _, [] => rfl
 | x :: xs, y :: yss => by
   have := putSls_p xs yss; unfold putSls at this ⊢; rw [List.zip_cons_cons, List.map_cons, List.map_cons, this]; rfl
theorem putSls_set (c : List Cnt) (k : Nat) (F : List Pce) (hk : k < c.length) : putSls yPC yCT (c.map (fun o => setPcs o [])) (((c.map (fun o => o.pcs)).set k []).set k F) = c.set k (setPcs (c.getD k ct0) F) := by
 rw [putSls_p, List.set_set]; apply List.ext_getElem?; intro i; simp only [List.getElem?_map, List.zip_eq_zipWith, List.getElem?_zipWith, List.getElem?_set, List.length_map]; by_cases e : k = i
 · subst e; rw [if_pos rfl, if_pos hk, if_pos rfl, if_pos hk, List.getElem?_eq_getElem hk, getD_lt hk]; rfl
 · rw [if_neg e, if_neg e]; cases c[i]? <;> rfl
def perfV (c : List Cnt) (t : Tsk) : List Cnt × List Plt × Int :=
 if checkV c ≠ 0 then ([], [], checkV c) else if numIdx c t.1 < 0 then ([], [], 6)
 else (c.set (numIdx c t.1).toNat (setPcs (c.getD (numIdx c t.1).toNat ct0) ((c.getD (numIdx c t.1).toNat ct0).pcs.filter (fun y => !inT t y))), ((c.getD (numIdx c t.1).toNat ct0).pcs.filter (inT t)).map (fun y => y.1), 0)
def con15 : Con := { ps := [.d false (.sl yCT), .d true yTK], rs := [.d false (.sl yCT), .d false (.sl yPL), .d false yI], pre := fun _ => True, out := fun (x : List Cnt × Tsk × Unit) => ((perfV x.1 x.2.1).1, (perfV x.1 x.2.1).2.1, (perfV x.1 x.2.1).2.2, ()), nw := id }
theorem c15 : CtrOk Tryz.prog 15 con15.ctr :=
 con_sound (G := ⟨[(22, con22.ctr), (44, con44.ctr), (50, conCopG.ctr), (26, con26.ctr)], [], [(30, 5), (35, 1)], [], []⟩) tab_ok (EnvOk.cons c22 has22 (EnvOk.cons c44 has44 (EnvOk.cons cCopG has50 (EnvOk.cons c26 has26 EnvOk.nil)))) rfl Tryz.func15 rfl con15 2115579 (by kernel_rfl) (by decide) (by decide) rfl (by decide) rfl (by
  rintro ⟨(c : List Cnt), ⟨(n : Int), (pl : List Plt)⟩, _⟩ hpre hwf X hT hG hk hK
  (simp -implicitDefEqProofs only [go_sem, bP, con15, con22, con44, conCopG, con26, hT, hG, hk, hK, Tryz.results15] at hwf ⊢); (try simp (disch := decide +kernel) only [drawn, true_and, and_true])
  clear hwf; have hni := idxV_lt (fun (x : Cnt) => decide (x.num = n)) c; have hni1 : -1 ≤ numIdx c n := hni.1; have hni2 : numIdx c n < c.length := hni.2; refine fun _ => ⟨fun h => ?_, fun h _ => ⟨fun h2 => ?_, fun h2 => ?_⟩⟩
  · have e : perfV c (n, pl) = ([], [], checkV c) := by unfold perfV; rw [if_pos h]
    rw [e]; exact ⟨rfl, rfl, rfl⟩
  · have e : perfV c (n, pl) = ([], [], 6) := by unfold perfV; rw [if_neg (by omega), if_pos h2]
    rw [e]; exact ⟨rfl, rfl, rfl⟩
  have hC := checkV_iff.1 h; have hlen := hC.len; have hpc : ∀ o ∈ c, o.pcs.length ≤ 60 := fun o ho => (hC.ok o ho).2.1; obtain ⟨k, hkk⟩ : ∃ k : Nat, numIdx c n = k := ⟨(numIdx c n).toNat, by omega⟩; have hkl : k < c.length := by omega
  have hF : perfV c (n, pl) = (c.set k (setPcs (c.getD k ct0) ((c.getD k ct0).pcs.filter (fun y => !inT (n, pl) y))), ((c.getD k ct0).pcs.filter (inT (n, pl))).map (fun y => y.1), 0) := by
   unfold perfV; rw [if_neg (by omega), if_neg (by show ¬ numIdx c n < 0; omega)]; show (c.set (numIdx c n).toNat _, _, _) = _; rw [hkk]; rfl
  have ekn : ((k : Int)).toNat = k := by omega
  have eml : (c.map (fun o => setPcs o [])).length = c.length := List.length_map _; have eg : (c.map (fun o => o.pcs)).getD k [] = (c.getD k ct0).pcs := by rw [gdE, List.getElem?_map, List.getElem?_eq_getElem hkl, getD_lt hkl]; rfl
  have hpk := hpc _ (getD_mem (d := ct0) hkl); rw [hF, hkk]; simp only [ekn, eg, putSls_set c k _ hkl]; simp only [eml]; refine ⟨⟨by omega, fun o ho => by have := hpc o ho; omega⟩, ⟨by omega, by omega⟩, fun _ => ⟨⟨by omega, by omega⟩, by omega, fun _ => ⟨⟨by omega, by omega⟩, fun _ => ⟨⟨trivial, hkl⟩, by and_intros <;> first | trivial | rfl⟩⟩⟩⟩)
end Go.Proofs.YtkjpbhkldioggaaGreat

set_option maxRecDepth 100000
set_option maxHeartbeats 8000000
namespace Go.Proofs.YtkjpbhkldioggaaGreat
open Go.Ev
def PcSrt (l : List Pce) : Prop := l.Pairwise (fun a b : Pce => pltC a.1 b.1 < 0)
def posP (l : List Pce) (p : Plt) : Nat := (l.takeWhile (fun x => decide (pltC x.1 p < 0))).length
theorem posP_at {l : List Pce} {p : Plt} {k : Nat} (hk : k ≤ l.length) (h1 : ∀ j, j < k → pltC (l.getD j pc0).1 p < 0) (h2 : k < l.length → ¬ pltC (l.getD k pc0).1 p < 0) : posP l p = k := by
 unfold posP
 induction l generalizing k with
 | nil => simp at hk; subst hk; rfl
 | cons a l ih =>
   cases k with
   | zero =>
     have := h2 (by simp)
     rw [List.takeWhile_cons_of_neg (by simpa using this)]; rfl
   | succ k =>
     have h0 : pltC a.1 p < 0 := h1 0 (by omega); rw [List.takeWhile_cons_of_pos (by simpa using h0), List.length_cons, ih (by simpa using hk) (fun j hj => h1 (j + 1) (by omega)) (fun hh => h2 (by simpa using hh))]
theorem posP_le (l : List Pce) (p : Plt) : posP l p ≤ l.length := (List.takeWhile_sublist _).length_le
theorem posP_take (l : List Pce) (p : Plt) : ∀ j, j < posP l p → pltC (l.getD j pc0).1 p < 0 := by
 unfold posP
 induction l with
 | nil => intro j hj; simp at hj
 | cons a l ih =>
   intro j hj; by_cases h : pltC a.1 p < 0
   · rw [List.takeWhile_cons_of_pos (by simpa using h), List.length_cons] at hj
     cases j with
     | zero => exact h
     | succ j => exact ih j (by omega)
   · rw [List.takeWhile_cons_of_neg (by simpa using h)] at hj; simp at hj
theorem posP_drop (l : List Pce) (p : Plt) : posP l p < l.length → ¬ pltC (l.getD (posP l p) pc0).1 p < 0 := by
 unfold posP
 induction l with
 | nil => intro h; simp at h
 | cons a l ih =>
   intro hj; by_cases h : pltC a.1 p < 0
   · rw [List.takeWhile_cons_of_pos (by simpa using h), List.length_cons] at hj ⊢; exact ih (by simpa using hj)
   · rw [List.takeWhile_cons_of_neg (by simpa using h)] at hj ⊢; exact h
theorem lt_succ' {P : Nat → Prop} {k : Nat} (h : ∀ j, j < k → P j) (hk : P k) : ∀ j, j < k + 1 → P j := fun j hj => by
 by_cases e : j = k
 · rw [e]; exact hk
 · exact h j (by omega)
def hasP (l : List Pce) (p : Plt) : Bool := l.any (fun x => decide (x.1 = p))
theorem hasP_pos {l : List Pce} (hs : PcSrt l) (p : Plt) : hasP l p = (decide (posP l p < l.length) && decide ((l.getD (posP l p) pc0).1 = p)) := by
 rw [Bool.eq_iff_iff, Bool.and_eq_true, decide_eq_true_eq, decide_eq_true_eq]; unfold hasP; rw [List.any_eq_true]; constructor
 · rintro ⟨x, hx, he⟩; have he := of_decide_eq_true he; obtain ⟨i, hi, rfl⟩ := getD_pc hx; have hz : pltC (l.getD i pc0).1 p = 0 := (pltC_cmp.eq _ _).2 he; have : posP l p = i := posP_at (by omega) (fun j hj => by rw [← he]; exact (pw_getD pc0).1 hs j i hj hi) (fun _ => by omega); rw [this]; exact ⟨hi, he⟩
 · rintro ⟨h1, h2⟩; exact ⟨_, getD_mem h1, decide_eq_true h2⟩
def insP (l : List Pce) (x : Pce) : List Pce := l.take (posP l x.1) ++ x :: l.drop (posP l x.1)
def forceV (c : Cnt) (x : Pce) : Cnt × Int := if ctErr c ≠ 0 then (ct0, ctErr c) else if okPc x = false then (ct0, 1) else if hasP c.pcs x.1 = true then (ct0, 5) else if 60 ≤ c.pcs.length then (ct0, 2) else (setPcs c (insP c.pcs x), 0)
def con91 : Con := { ps := [.d false (.sl yPC), .d true yPL], rs := [.d false yI, .d false .bool], pre := fun (x : List Pce × Plt × Unit) => PcSrt x.1 ∧ x.1.length ≤ 1000000, out := fun (x : List Pce × Plt × Unit) => ((posP x.1 x.2.1 : Nat), hasP x.1 x.2.1, ()), nw := id }
theorem c91 : CtrOk Tryz.prog 91 con91.ctr :=
 con_sound (G := ⟨[(42, con42.ctr)], [], [], [], []⟩) tab_ok (EnvOk.cons c42 has42 EnvOk.nil) rfl Tryz.func91 rfl con91 33563131 (by kernel_rfl) (by decide) (by decide) rfl (by decide) rfl (by
  rintro ⟨(l : List Pce), ⟨(p1 : Int), (p2 : Int), (p3 : Int)⟩, _⟩ hpre hwf X hT hG hk hK; obtain ⟨hs, hl⟩ : PcSrt l ∧ l.length ≤ 1000000 := hpre
  (simp -implicitDefEqProofs only [go_sem, bP, con91, con42, hT, hG, hk, hK, Tryz.results91] at hwf ⊢); (try simp (disch := decide +kernel) only [drawn, true_and, and_true])
  clear hwf; obtain ⟨P, hP⟩ : ∃ P : Plt, P = (p1, p2, p3) := ⟨_, rfl⟩; refine fun _ => evk_loop ⟨{ q : Nat × Nat // q.1 ≤ q.2 ∧ q.2 ≤ l.length ∧ (∀ k, k < q.1 → pltC (l.getD k pc0).1 P < 0) ∧ ∀ k, q.2 ≤ k → k < l.length → ¬ pltC (l.getD k pc0).1 P < 0 }, 1000, fun q => [(0, .one (.sl yPC l false)), (3, .one (.loc 70 0)), (6, .one (.int .i64 q.1.1)), (7, .one (.int .i64 q.1.2))], fun q => [(70, .cells 45 [.int .i64 p1, .int .i64 p2, .int .i64 p3])], fun q => q.1.2 - q.1.1⟩ ⟨(0, l.length), Nat.zero_le _, Nat.le_refl _, fun k hk => by omega, fun k h1 h2 => by omega⟩ ?_ ?_
  · simp only [go_sem]
    try first | rfl | (and_intros <;> first | trivial | rfl | omega)
  · rintro ⟨⟨a, b⟩, (hab : a ≤ b), (hb : b ≤ l.length), h1, h2⟩; have h1 : ∀ k, k < a → pltC (l.getD k pc0).1 P < 0 := h1; have h2 : ∀ k, b ≤ k → k < l.length → ¬ pltC (l.getD k pc0).1 P < 0 := h2
    (simp -implicitDefEqProofs only [go_sem, bP, con91, con42, hT, hG, hk, hK, Tryz.results91]); (try simp (disch := decide +kernel) only [drawn, true_and, and_true])
    have em : ((a : Int) + b).tdiv 2 = ((a + b) / 2 : Nat) := by rw [Int.tdiv_eq_ediv_of_nonneg (by omega)]; omega
    simp only [em]; obtain ⟨m, hm⟩ : ∃ m, (a + b) / 2 = m := ⟨_, rfl⟩; simp only [hm]; obtain ⟨o, ho⟩ : ∃ o, l.getD m pc0 = o := ⟨_, rfl⟩; have eo : l.getD (m : Int).toNat ((0, 0, 0), 0, 0) = o := ho; have eO : (o.1.1, o.1.2.1, o.1.2.2) = o.1 := rfl; simp only [eo, eO, ← hP]; obtain ⟨u, hu⟩ : ∃ u, l.getD a pc0 = u := ⟨_, rfl⟩; have eu : l.getD (a : Int).toNat ((0, 0, 0), 0, 0) = u := hu
    try simp only [eu]
    have hfin : b ≤ a → posP l P = a := fun h => posP_at (by omega) h1 (fun hh => h2 a (by omega) hh); have hap : ∀ j k, j < k → k < l.length → pltC (l.getD j pc0).1 (l.getD k pc0).1 < 0 := (pw_getD pc0).1 hs
    (repeat' with_reducible first | refine And.intro ?_ ?_ | intro _) <;> try first | with_reducible (first | assumption | omega | contradiction) | decide
    all_goals first
     | (have hq : pltC o.1 P < 0 := by assumption
        refine fin_lp ⟨(m + 1, b), (by show m + 1 ≤ b; omega), hb, (fun k hk => ?_), h2⟩ ?_ (by dsimp only; omega)
        · have hk : k < m + 1 := hk; by_cases e : k = m
          · rw [e, ho]; exact hq
          · exact pltC_cmp.trans _ _ _ (hap k m (by omega) (by omega)) (by rw [ho]; exact hq)
        · simp only [go_sem]
          try first | rfl | (and_intros <;> first | trivial | rfl | omega)
          done)
     | (have hq : ¬ pltC o.1 P < 0 := by assumption
        refine fin_lp ⟨(a, m), (by show a ≤ m; omega), (by show m ≤ l.length; omega), h1, (fun k hk hk2 => ?_)⟩ ?_ (by dsimp only; omega)
        · have hk : m ≤ k := hk; by_cases e : k = m
          · rw [e, ho]; exact hq
          · intro hc; exact hq (by rw [← ho]; exact pltC_cmp.trans _ _ _ (hap m k (by omega) hk2) hc)
        · simp only [go_sem]
          try first | rfl | (and_intros <;> first | trivial | rfl | omega)
          done)
     | (have e1 : u.1.1 = p1 ∧ u.1.2.1 = p2 ∧ u.1.2.2 = p3 ↔ u.1 = P := by rw [hP]; exact Iff.of_eq (pltE u.1 (p1, p2, p3))
        rw [hasP_pos hs, hfin (by omega), hu, Bool.eq_iff_iff]; simp only [Bool.and_eq_true, decide_eq_true_eq, ← e1]
        omega)
     | (rw [hfin (by omega)]))
def con93 : Con := { ps := [.d false (.sl yPC), .d false yI, .d true yPC], rs := [.d false (.sl yPC)], pre := fun (x : List Pce × Int × Pce × Unit) => 0 ≤ x.2.1 ∧ x.2.1 ≤ x.1.length ∧ x.1.length ≤ 100000, out := fun (x : List Pce × Int × Pce × Unit) => (x.1.take x.2.1.toNat ++ x.2.2.1 :: x.1.drop x.2.1.toNat, ()), nw := id }
theorem c93 : CtrOk Tryz.prog 93 con93.ctr :=
 con_sound (G := ⟨[], [], [], [], []⟩) tab_ok EnvOk.nil rfl Tryz.func93 rfl con93 231 (by kernel_rfl) (by decide) (by decide) rfl (by decide) rfl (by
  rintro ⟨(l : List Pce), (i : Int), ⟨⟨(a : Int), (b : Int), (c : Int)⟩, (d : Int), (e : Int)⟩, _⟩ hpre hwf X hT hG hk hK; obtain ⟨h1, h2, h3⟩ : 0 ≤ i ∧ i ≤ l.length ∧ l.length ≤ 100000 := hpre
  (simp -implicitDefEqProofs only [go_sem, bP, con93, hT, hG, hk, hK, Tryz.results93] at hwf ⊢)
  clear hwf
  (repeat' with_reducible first | refine And.intro ?_ ?_ | intro _) <;> try first | with_reducible (first | assumption | omega | contradiction) | decide
  all_goals first
   | (rw [show ((l.length : Nat) : Int).toNat = l.length by omega, List.take_length]; simp; done)
   | (simp only [List.length_append, List.length_replicate, List.length_take, List.length_drop, List.length_cons, List.length_nil]; omega))
def con62 : Con := { ps := [.d true yCT, .d true yPC, .d false .bool], rs := [.d true yCT, .d false yI], pre := fun (x : Cnt × Pce × Bool × Unit) => x.2.2.1 = false, out := fun (x : Cnt × Pce × Bool × Unit) => ((forceV x.1 x.2.1).1, (forceV x.1 x.2.1).2, ()), nw := id }
theorem c62 : CtrOk Tryz.prog 62 con62.ctr :=
 con_sound (G := ⟨[(57, con57.ctr), (88, con88.ctr), (91, con91.ctr), (93, con93.ctr), (74, con74.ctr), (92, con92.ctr)], [], [], [], []⟩) tab_ok (EnvOk.cons c57 has57 (EnvOk.cons c88 has88 (EnvOk.cons c91 has91 (EnvOk.cons c93 has93 (EnvOk.cons c74 has74 (EnvOk.cons c92 has92 EnvOk.nil)))))) rfl Tryz.func62 rfl con62 18446761685224034271 (by kernel_rfl) (by decide) (by decide) rfl (by decide) rfl (by
  rintro ⟨⟨(n : Int), ⟨a1, (a2 : Int), a3, (a4 : Int)⟩, (c : Int), (lm : Int), (t : Int), (p : Int), (r : Int), (l : List Pce)⟩, ⟨⟨(p1 : Int), (p2 : Int), (p3 : Int)⟩, (p4 : Int), (p5 : Int)⟩, (b : Bool), _⟩ hpre hwf X hT hG hk hK; have hb : b = false := hpre; subst hb
  (simp -implicitDefEqProofs only [go_sem, bP, con62, con57, con88, con91, con93, con74, con92, hT, hG, hk, hK, Tryz.results62] at hwf ⊢); (try simp (disch := decide +kernel) only [drawn, true_and, and_true])
  clear hwf; obtain ⟨C, hC⟩ : ∃ C : Cnt, (n, (a1, a2, a3, a4), c, lm, t, p, r, l) = C := ⟨_, rfl⟩; obtain ⟨x, hx⟩ : ∃ x : Pce, ((p1, p2, p3), p4, p5) = x := ⟨_, rfl⟩; have hl : C.pcs = l := by rw [← hC]
  have hx1 : (p1, p2, p3) = x.1 := by rw [← hx]
  simp only [hC, hx]; simp only [hx1]; refine fun _ => ⟨fun h => ?_, fun h => ⟨fun h2 => ?_, fun h2 => ?_⟩⟩
  · have e : forceV C x = (ct0, ctErr C) := by unfold forceV; rw [if_pos h]
    rw [e]; (and_intros <;> rfl)
  · have e : forceV C x = (ct0, 1) := by unfold forceV; rw [if_neg (by simp [h]), if_pos h2]
    rw [e]; (and_intros <;> rfl)
  · obtain ⟨g1, g2, g3⟩ := ctErr_iff.1 h; have hsl : PcSrt l := by rw [← hl]; exact g3.srt
    have hll : l.length ≤ 60 := by rw [← hl]; exact g2
    have hpl := posP_le l x.1
    (repeat' with_reducible first | refine And.intro ?_ ?_ | intro _) <;> try first | with_reducible (first | assumption | omega | contradiction) | decide
    all_goals first
     | exact hsl
     | (have hq : hasP l x.1 = true := by assumption
        have e : forceV C x = (ct0, 5) := by unfold forceV; rw [if_neg (by simp [h]), if_neg (by simp [h2]), if_pos (by rw [hl]; exact hq)]
        first | (rw [e]; done) | (rw [e]; rfl))
     | (have hq : hasP l x.1 = false := by assumption
        have hq2 : ((l.length : Nat) : Int) ≥ 60 := by assumption
        have e : forceV C x = (ct0, 2) := by unfold forceV; rw [if_neg (by simp [h]), if_neg (by simp [h2]), if_neg (by rw [hl, hq]; simp), if_pos (by rw [hl]; omega)]
        first | (rw [e]; done) | (rw [e]; rfl))
     | (have hq : hasP l x.1 = false := by assumption
        have hq2 : ¬ ((l.length : Nat) : Int) ≥ 60 := by assumption
        have e : forceV C x = (setPcs C (insP C.pcs x), 0) := by unfold forceV; rw [if_neg (by simp [h]), if_neg (by simp [h2]), if_neg (by rw [hl, hq]; simp), if_neg (by rw [hl]; omega)]
        first | (rw [e]; done) | (rw [e]; rfl) | (rw [e]; show _ = insP C.pcs x; rw [hl]; rfl) | (rw [e, ← hC]; rfl)))
def con29 : Con := { ps := [.d true yCT, .d true yPC], rs := [.d true yCT, .d false yI], pre := fun _ => True, out := fun (x : Cnt × Pce × Unit) => ((forceV x.1 x.2.1).1, (forceV x.1 x.2.1).2, ()), nw := id }
theorem c29 : CtrOk Tryz.prog 29 con29.ctr :=
 con_sound (G := ⟨[(62, con62.ctr)], [], [], [], []⟩) tab_ok (EnvOk.cons c62 has62 EnvOk.nil) rfl Tryz.func29 rfl con29 63 (by kernel_rfl) (by decide) (by decide) rfl (by decide) rfl (by
  rintro ⟨⟨(n : Int), ⟨a1, (a2 : Int), a3, (a4 : Int)⟩, (c : Int), (lm : Int), (t : Int), (p : Int), (r : Int), (l : List Pce)⟩, ⟨⟨(p1 : Int), (p2 : Int), (p3 : Int)⟩, (p4 : Int), (p5 : Int)⟩, _⟩ hpre hwf X hT hG hk hK
  (simp -implicitDefEqProofs only [go_sem, bP, con29, con62, hT, hG, hk, hK, Tryz.results29] at hwf ⊢))
def con14 : Con := { ps := [.d false (.sl yCT)], rs := [.o 85 yCT], pre := fun (x : List Cnt × Unit) => x.1.length ≤ 1000 ∧ ∀ o ∈ x.1, o.pcs.length ≤ 100000, out := fun (x : List Cnt × Unit) => (x.1, ()), nw := id }
theorem c14 : CtrOk Tryz.prog 14 con14.ctr :=
 con_sound (G := ⟨[], [], [], [], []⟩) tab_ok EnvOk.nil rfl Tryz.func14 rfl con14 573 (by kernel_rfl) (by decide) (by decide) rfl (by decide) rfl (by
  rintro ⟨(l : List Cnt), _⟩ hpre hwf X hT hG hk hK; obtain ⟨hl, hlo⟩ : l.length ≤ 1000 ∧ ∀ o ∈ l, o.pcs.length ≤ 100000 := hpre
  (simp -implicitDefEqProofs only [go_sem, bP, con14, hT, hG, hk, hK, Tryz.results14] at hwf ⊢)
  clear hwf; refine evk_loop ⟨{ i : Nat // i ≤ l.length }, 1000, fun q => [(0, .one (.sl yCT l false)), (3, .one (.row 64)), (4, .one (.int .i64 q.1))], fun q => [(64, .row 85 yCT (l.take q.1))], fun q => l.length - q.1⟩ ⟨0, Nat.zero_le _⟩ ?_ ?_
  · simp only [go_sem]
    try first | rfl | (and_intros <;> first | trivial | rfl | omega)
  · rintro ⟨i, (hi : i ≤ l.length)⟩
    (simp -implicitDefEqProofs only [go_sem, bP, con14, hT, hG, hk, hK, Tryz.results14])
    obtain ⟨o, ho⟩ : ∃ o, l.getD i ct0 = o := ⟨_, rfl⟩; have eo : l.getD (i : Int).toNat (0, (ByteArray.empty, 0, ByteArray.empty, 0), 0, 0, 0, 0, 0, []) = o := ho
    try simp only [eo]
    have hts : i < l.length → l.take (i + 1) = l.take i ++ [o] := fun h => by rw [tsE h, ← getD_lt (d := ct0) h, ho]
    have htl : (l.take i).length ≤ l.length := by rw [List.length_take]; omega
    have hop : i < l.length → o.pcs.length ≤ 100000 := fun h => hlo o (by rw [← ho]; exact getD_mem h)
    (repeat' with_reducible first | refine And.intro ?_ ?_ | intro _) <;> try first | with_reducible (first | assumption | omega | contradiction) | decide
    all_goals first
     | (have e1 := hts (by omega)
        refine fin_lp ⟨i + 1, by omega⟩ ?_ (by dsimp only; omega); simp only [go_sem]; rw [e1]
        try first | rfl | (and_intros <;> first | trivial | rfl | omega)
        done)
     | (rw [List.take_of_length_le (by omega)]; done)
     | (have h5 : List.length o.2.2.2.2.2.2.2 ≤ 100000 := hop (by omega)
        omega))
theorem srtP_weak (w : List Plt) : (sortBy pltC w).Pairwise (fun a b => ¬ pltC b a < 0) :=
 (sortBy_sorted pltC_cmp w).imp fun {a b} h q => by
   have := (pltC_cmp.anti b a).1 q; omega
theorem compP_set (w : List Plt) : compP (sortBy pltC w) = setP w := compP_eq (sortBy_perm pltC w) (srtP_weak w)
theorem nodup_srt {w : List Plt} (h : w.Nodup) : (sortBy pltC w).Pairwise (fun a b => pltC a b < 0) := by
 have hn : (sortBy pltC w).Nodup := (sortBy_perm pltC w).nodup_iff.2 h; refine ((sortBy_sorted pltC_cmp w).and hn).imp fun {a b} h => ?_; have : pltC a b ≠ 0 := fun q => h.2 ((pltC_cmp.eq _ _).1 q); have := h.1; omega
def namV (c : List Cnt) (l : List Plm) (n : Int) (w : List Plt) : List Plt := w.filter (fun p => (candV c l p).any (fun m => decide (m = n)))
theorem namV_mem {c : List Cnt} {l : List Plm} {n : Int} {w : List Plt} {p : Plt} : p ∈ namV c l n w ↔ p ∈ w ∧ n ∈ candV c l p := by
 unfold namV; rw [List.mem_filter, List.any_eq_true]; exact ⟨fun ⟨h, x, hx, e⟩ => ⟨h, of_decide_eq_true e ▸ hx⟩, fun ⟨h, hx⟩ => ⟨h, n, hx, decide_eq_true rfl⟩⟩
theorem tkN_uniq {o : List Tsk} (h : TkN o) {s t : Tsk} (hs : s ∈ o) (ht : t ∈ o) (e : s.1 = t.1) : s = t := by
 obtain ⟨i, hi, rfl⟩ := List.mem_iff_getElem.1 hs; obtain ⟨j, hj, rfl⟩ := List.mem_iff_getElem.1 ht; have : i = j := by
  unfold TkN at h; exact (List.getElem_inj (h₀ := by simpa using hi) (h₁ := by simpa using hj) h).1 (by simpa using e)
 subst this; rfl
structure TkI (o : List Tsk) (F : Int → List Plt) : Prop where
 n : TkN o
 m : ∀ t ∈ o, t.2 = F t.1 ∧ F t.1 ≠ []
 e : ∀ n, F n ≠ [] → ∃ t ∈ o, t.1 = n
theorem addT_i {o : List Tsk} {p : Plt} {n : Int} {F : Int → List Plt} (h : TkI o F) : TkI (addT o p n) (fun m => if m = n then (if p ∈ F n then F n else F n ++ [p]) else F m) := by
 have hN := addT_n (p := p) (n := n) h.n; by_cases hi : idxV (fun (t : Tsk) => decide (t.1 = n)) o < 0
 · have e : addT o p n = o ++ [(n, [p])] := by unfold addT; rw [if_pos hi]
   have hno : ∀ t ∈ o, ¬ t.1 = n := fun t ht => of_decide_eq_false (idxV_neg hi t ht); have hF : F n = [] := Classical.byContradiction fun q => by
    obtain ⟨t, ht, e⟩ := h.e n q; exact hno t ht e
   rw [e] at hN ⊢; refine ⟨hN, fun t ht => ?_, fun m hm => ?_⟩
   · rcases List.mem_append.1 ht with ht | ht
     · try dsimp only
       rw [if_neg (hno t ht)]; exact h.m t ht
     · have ht : t = (n, [p]) := by simpa using ht
       subst ht; dsimp only; rw [if_pos rfl, hF]; simp
   · try dsimp only at hm
     by_cases q : m = n
     · exact ⟨(n, [p]), by simp, q.symm⟩
     · rw [if_neg q] at hm; obtain ⟨t, ht, e⟩ := h.e m hm; exact ⟨t, List.mem_append_left _ ht, e⟩
 · obtain ⟨hk, h2, _⟩ := idxV_spec (d := tk0) (p := fun (t : Tsk) => decide (t.1 = n)) (l := o) (by omega); have e : addT o p n = o.set (idxV (fun (t : Tsk) => decide (t.1 = n)) o).toNat ((o.getD (idxV (fun (t : Tsk) => decide (t.1 = n)) o).toNat tk0).1, if (o.getD (idxV (fun (t : Tsk) => decide (t.1 = n)) o).toNat tk0).2.any (fun y => decide (y = p)) = true then (o.getD (idxV (fun (t : Tsk) => decide (t.1 = n)) o).toNat tk0).2 else (o.getD (idxV (fun (t : Tsk) => decide (t.1 = n)) o).toNat tk0).2 ++ [p]) := by unfold addT; rw [if_neg hi]
   rw [e] at hN ⊢; generalize (idxV (fun (t : Tsk) => decide (t.1 = n)) o).toNat = k at hk h2 hN ⊢; have hm0 := getD_mem (d := tk0) hk; obtain ⟨t0, ht0⟩ : ∃ t, o.getD k tk0 = t := ⟨_, rfl⟩; rw [ht0] at h2 hN hm0 ⊢; have h2 : t0.1 = n := of_decide_eq_true h2; obtain ⟨g1, g2⟩ := h.m t0 hm0; have hx : (if t0.2.any (fun y => decide (y = p)) = true then t0.2 else t0.2 ++ [p]) = if p ∈ F n then F n else F n ++ [p] := by
    rw [h2] at g1; rw [← g1]; by_cases q : p ∈ t0.2
    · rw [if_pos q, if_pos (List.any_eq_true.2 ⟨p, q, decide_eq_true rfl⟩)]
    · rw [if_neg q, if_neg]; intro q2; obtain ⟨y, hy, e⟩ := List.any_eq_true.1 q2; exact q (of_decide_eq_true e ▸ hy)
   rw [hx] at hN ⊢; have hin : (t0.1, if p ∈ F n then F n else F n ++ [p]) ∈ o.set k (t0.1, if p ∈ F n then F n else F n ++ [p]) := List.mem_iff_getElem.2 ⟨k, by rw [List.length_set]; exact hk, List.getElem_set_self _⟩; refine ⟨hN, fun t ht => ?_, fun m hm => ?_⟩
   · by_cases q : t.1 = n
     · have := tkN_uniq hN ht hin (by rw [q, h2]); rw [this]
       try dsimp only
       rw [if_pos h2]; refine ⟨rfl, ?_⟩; split
       · rw [h2] at g2; exact g2
       · simp
     · try dsimp only
       rw [if_neg q]
       rcases List.mem_or_eq_of_mem_set ht with ht | ht
       · exact h.m t ht
       · exact absurd (by rw [ht]; exact h2) q
   · try dsimp only at hm
     by_cases q : m = n
     · exact ⟨_, hin, by rw [q]; exact h2⟩
     · rw [if_neg q] at hm; obtain ⟨t, ht, e⟩ := h.e m hm; obtain ⟨j, hj, rfl⟩ := List.mem_iff_getElem.1 ht; have hjk : k ≠ j := fun w => by
        subst w; rw [getD_lt hk] at ht0; rw [ht0, h2] at e; exact q e.symm
       exact ⟨o[j], List.mem_iff_getElem.2 ⟨j, by rw [List.length_set]; exact hj, by rw [List.getElem_set_ne hjk]⟩, e⟩
theorem addL_i {p : Plt} : ∀ (ns : List Int) {o : List Tsk} {F : Int → List Plt}, TkI o F → TkI (addL o p ns) (fun m => if m ∈ ns then (if p ∈ F m then F m else F m ++ [p]) else F m)
 | [], o, F, h => by
   have e : (fun m => if m ∈ ([] : List Int) then (if p ∈ F m then F m else F m ++ [p]) else F m) = F := funext fun m => by simp
   rw [e]; exact h
 | n :: ns, o, F, h => by
   have h1 := addL_i (p := p) ns (addT_i (p := p) (n := n) h); have e : (fun m => if m ∈ n :: ns then (if p ∈ F m then F m else F m ++ [p]) else F m) = (fun m => if m ∈ ns then (if p ∈ (if m = n then (if p ∈ F n then F n else F n ++ [p]) else F m) then (if m = n then (if p ∈ F n then F n else F n ++ [p]) else F m) else (if m = n then (if p ∈ F n then F n else F n ++ [p]) else F m) ++ [p]) else (if m = n then (if p ∈ F n then F n else F n ++ [p]) else F m)) := funext fun m => by
    by_cases q : m = n
    · subst q; rw [if_pos List.mem_cons_self]; simp only [if_true]; have hin : p ∈ (if p ∈ F m then F m else F m ++ [p]) := by
       split
       · assumption
       · simp
      rw [if_pos hin]; by_cases q2 : m ∈ ns
      · rw [if_pos q2]
      · rw [if_neg q2]
    · simp only [List.mem_cons, q, false_or, if_false]
   rw [e]; exact h1
theorem tskL_i (c : List Cnt) (l : List Plm) : ∀ S : List Plt, S.Nodup → TkI (tskL c l S) (fun n => namV c l n S) := fun S => by
 refine snoc_ind (P := fun S => S.Nodup → TkI (tskL c l S) (fun n => namV c l n S)) (fun _ => ⟨.nil, fun t ht => (by cases ht), fun n hn => absurd rfl hn⟩) (fun S p ih => ?_) S; intro hd; obtain ⟨h1, _, h3⟩ := List.nodup_append.1 hd; have hp : p ∉ S := fun q => h3 p q p (by simp) rfl; have h := addL_i (p := p) (candV c l p) (ih h1); rw [tskL_snoc]; have e : (fun n => namV c l n (S ++ [p])) = (fun m => if m ∈ candV c l p then (if p ∈ namV c l m S then namV c l m S else namV c l m S ++ [p]) else namV c l m S) := funext fun m => by
  have hn : ¬ p ∈ namV c l m S := fun q => hp (namV_mem.1 q).1; rw [if_neg hn]; show (S ++ [p]).filter _ = _; rw [List.filter_append]; by_cases q : m ∈ candV c l p
  · rw [if_pos q, List.filter_cons_of_pos (p := fun p => (candV c l p).any (fun x => decide (x = m))) (List.any_eq_true.2 ⟨m, q, decide_eq_true rfl⟩)]; rfl
  · rw [if_neg q, List.filter_cons_of_neg (p := fun p => (candV c l p).any (fun x => decide (x = m))), List.filter_nil, List.append_nil]
    · rfl
    · intro q2; obtain ⟨y, hy, e⟩ := List.any_eq_true.1 q2; exact q (of_decide_eq_true e ▸ hy)
 rw [e]; exact h
def refT (c : List Cnt) (l : List Plm) (w : List Plt) (cs : List Cnt) : List Tsk := (cs.filter (fun o => decide (0 < (namV c l o.num w).length))).map (fun o => (o.num, setP (namV c l o.num w)))
theorem refT_eq {c : List Cnt} {l : List Plm} {w : List Plt} (hC : CtsOk c) (hw : w.Nodup) (hl : ∀ p ∈ w, lostV c l p = false) : refT c l w c = sortT (tskL c l (sortBy pltC w)) := by
 have hp := sortBy_perm pltC w; have hs := nodup_srt hw; have hn : (sortBy pltC w).Nodup := hp.nodup_iff.2 hw; generalize sortBy pltC w = S at hp hs hn ⊢; have I := tskL_i c l S hn; have hF : ∀ n, namV c l n S = setP (namV c l n w) := fun n => setP_eq (hs.filter _) fun x => by
  rw [namV_mem, namV_mem, hp.mem_iff]
 have hE : ∀ n, 0 < (namV c l n w).length ↔ namV c l n S ≠ [] := fun n => by
  have := (hp.filter (fun p => (candV c l p).any (fun m => decide (m = n)))).length_eq; have e : (namV c l n S).length = (namV c l n w).length := this; rw [← e, List.length_pos_iff]
 have hnum : (refT c l w c).Pairwise (fun a b => a.1 < b.1) := by
  unfold refT; rw [List.pairwise_map]; exact hC.num.filter _
 have hmem : ∀ t, t ∈ refT c l w c ↔ ∃ o ∈ c, 0 < (namV c l o.num w).length ∧ (o.num, setP (namV c l o.num w)) = t := fun t => by
  unfold refT; rw [List.mem_map]; constructor
  · rintro ⟨o, ho, e⟩; obtain ⟨h1, h2⟩ := List.mem_filter.1 ho; exact ⟨o, h1, of_decide_eq_true h2, e⟩
  · rintro ⟨o, h1, h2, e⟩; exact ⟨o, List.mem_filter.2 ⟨h1, decide_eq_true h2⟩, e⟩
 refine sortT_eq I.n ?_ (hnum.imp fun {a b} h => ?_)
 · have n1 : (refT c l w c).Nodup := hnum.imp fun {a b} h q => by rw [q] at h; omega
   have n2 : (tskL c l S).Nodup := by
    have := I.n; unfold TkN List.Nodup at this; rw [List.pairwise_map] at this; exact this.imp fun {a b} h q => h (by rw [q])
   refine (List.perm_ext_iff_of_nodup n1 n2).2 fun t => ?_; rw [hmem]; constructor
   · rintro ⟨o, ho, h1, rfl⟩; obtain ⟨t, ht, e⟩ := I.e o.num ((hE _).1 h1); have h2 := (I.m t ht).1; have e2 : t = (o.num, setP (namV c l o.num w)) := Prod.ext e (by rw [h2, e]; exact hF _); rw [← e2]; exact ht
   · intro ht; obtain ⟨h1, h2⟩ := I.m t ht; obtain ⟨p, hpm⟩ := List.exists_mem_of_ne_nil _ h2; obtain ⟨hp1, hp2⟩ := namV_mem.1 hpm; have hlo := hl p (hp.mem_iff.1 hp1); unfold lostV at hlo; have hni := (List.any_eq_false.1 hlo) t.1 hp2; have hni : ¬ numIdx c t.1 < 0 := by simpa using hni
     obtain ⟨g1, g2, _⟩ := idxV_spec (d := ct0) (p := fun (o : Cnt) => decide (o.num = t.1)) (l := c) (by unfold numIdx at hni; omega); refine ⟨_, getD_mem (d := ct0) g1, ?_⟩; rw [of_decide_eq_true g2]; exact ⟨(hE _).2 h2, Prod.ext rfl (by rw [h1]; exact (hF _).symm)⟩
 · rw [cmpV_lt]; omega
end Go.Proofs.YtkjpbhkldioggaaGreat
