/- The reference's Apply. -/
import Derived.Test.YthiddcobegnokaaGreatMzKBToKC
import Derived.Test.YthiddcobegnokaaGreatMzKfToKV
set_option linter.unusedSimpArgs false
set_option linter.unusedVariables false
set_option maxRecDepth 100000
set_option maxHeartbeats 8000000
namespace Go.Proofs.YthiddcobegnokaaGreat
open Go.Ev

attribute [local go_sem] List.set_cons_succ List.set_cons_zero List.set_nil
theorem clrC_ok (ps : List Plt) {o : Cnt} (h : ctErr o = 0) : ctErr (clrC ps o) = 0 := by
 obtain ⟨h1, h2, h3⟩ := ctErr_iff.1 h
 refine ctErr_iff.2 ⟨h1, Nat.le_trans (List.length_filter_le _ _) h2, fun x hx => h3.ok x (List.mem_filter.1 hx).1, h3.srt.filter _⟩
def remC (p : Plt) (o : Cnt) : Cnt := if hasP o.pcs p = true then (removeV o p).1 else o
theorem clrC_snoc (ps : List Plt) (p : Plt) {o : Cnt} (h : ctErr o = 0) : remC p (clrC ps o) = clrC (ps ++ [p]) o := by
 have h0 := clrC_ok ps h
 have hf : ∀ x : Pce, (!decide (x.1 ∈ ps ++ [p])) = (!decide (x.1 ∈ ps) && !decide (x.1 = p)) := fun x => by
  by_cases h1 : x.1 ∈ ps <;> by_cases h2 : x.1 = p <;> simp [h1, h2]
 unfold remC
 split
 · rename_i hq
   unfold removeV
   rw [if_neg (by simp [h0]), if_neg (by simp [hq])]
   show setPcs o (remP (o.pcs.filter (fun x => !decide (x.1 ∈ ps))) p) = _
   unfold remP clrC
   rw [List.filter_filter]
   congr 1
   exact List.filter_congr fun x _ => by rw [hf, Bool.and_comm]
 · rename_i hq
   unfold clrC
   congr 1
   refine List.filter_congr fun x hx => ?_
   rw [hf]
   by_cases h1 : x.1 ∈ ps
   · simp [h1]
   · have : ¬ x.1 = p := fun e => hq (by
      unfold hasP
      exact List.any_eq_true.2 ⟨x, List.mem_filter.2 ⟨hx, by simp [h1]⟩, decide_eq_true e⟩)
     simp [this]
theorem clrC_nil (o : Cnt) : clrC [] o = o := by
 unfold clrC
 rw [List.filter_eq_self.2 (fun x _ => by simp)]; rfl
def conRIO : Con := { ps := [.o 75 yCT, .d false (.int .i64)], rs := [.d false (.int .i64)], pre := fun (x : List Cnt × Int × Unit) => x.1.length ≤ 1000000, out := fun (x : List Cnt × Int × Unit) => (numIdx x.1 x.2.1, ()), nw := id }
theorem cRIO : CtrOk Tryz.prog 41 conRIO.ctr :=
 con_sound (G := ⟨[], [], [], []⟩) tab_ok EnvOk.nil rfl Tryz.func41 rfl conRIO 262707 (by kernel_rfl) (by decide) (by decide) rfl (by decide) rfl (by
  rintro ⟨(l : List Cnt), (n : Int), _⟩ hpre hwf X hT hG hk hK
  have hl : l.length ≤ 1000000 := hpre
  (simp -implicitDefEqProofs only [go_sem, Bool.not_eq_true', Bool.not_eq_false', Bool.or_eq_true, Bool.or_eq_false_iff, Bool.and_eq_true, Bool.and_eq_false_iff, decide_eq_true_eq, decide_eq_false_iff_not, Classical.not_not, not_or, maxLen, conRIO, hT, hG, hk, hK, Tryz.results41] at hwf ⊢); (try simp (disch := decide +kernel) only [drawn, true_and, and_true])
  clear hwf
  refine evk_loop ⟨{ i : Nat // i ≤ l.length ∧ ∀ k, k < i → (fun c : Cnt => decide (c.num = n)) (l.getD k ct0) = false }, 1000, fun q => [(0, .one (.row 0)), (1, .one (.int .i64 n)), (4, .one (.int .i64 0)), (5, .one (.int .i64 q.1))], fun q => [(0, .row 75 yCT l)], fun q => l.length - q.1⟩ ⟨0, by omega, fun k hk => by omega⟩ ?_ ?_
  · simp only [go_sem]
    try (first | rfl | exact ⟨rfl, rfl⟩ | (and_intros <;> first | trivial | rfl | omega))
  · rintro ⟨i, (hi : i ≤ l.length), hz⟩
    (simp -implicitDefEqProofs only [go_sem, Bool.not_eq_true', Bool.not_eq_false', Bool.or_eq_true, Bool.or_eq_false_iff, Bool.and_eq_true, Bool.and_eq_false_iff, decide_eq_true_eq, decide_eq_false_iff_not, Classical.not_not, not_or, maxLen, conRIO, hT, hG, hk, hK, Tryz.results41]); (try simp (disch := decide +kernel) only [drawn, true_and, and_true])
    obtain ⟨o, ho⟩ : ∃ o, l.getD i ct0 = o := ⟨_, rfl⟩
    have eo : l.getD (i : Int).toNat (0, (ByteArray.empty, 0, ByteArray.empty, 0), 0, 0, 0, 0, 0, []) = o := ho
    try simp only [eo]
    (repeat' (with_reducible (first | refine And.intro ?_ ?_ | intro _))) <;> (try (first | with_reducible (first | done | assumption | omega | contradiction) | decide))
    all_goals first
     | (have h : o.1 = n := by assumption
        exact (idxV_at (d := ct0) hz (by omega) (by show decide ((l.getD i ct0).num = n) = true; rw [ho]; exact decide_eq_true h)).symm)
     | (have h : ¬ o.1 = n := by assumption
        refine fin_lp ⟨i + 1, by omega, lt_succ hz (by show decide ((l.getD i ct0).num = n) = false; rw [ho]; exact decide_eq_false h)⟩ (by simp only [go_sem]; first | rfl | ((repeat' apply And.intro) <;> first | rfl | assumption | omega)) (by dsimp only; omega)
        done)
     | exact (idxV_none (d := ct0) fun k hk => hz k (by omega)).symm
     | fail)
def conRI : Raw := ⟨orCtr conRIO.ctr con41.ctr⟩
theorem cRI : CtrOk Tryz.prog 41 conRI.ctr := orCtr_ok cRIO c41
def con13 : Con := { ps := [.d false (.sl yCT), .d false (.sl yOP)], rs := [.d false (.sl yCT), .d false (.int .i64)], pre := fun _ => True, out := fun (x : List Cnt × List Opn × Unit) => ((applyV x.1 x.2.1).1, (applyV x.1 x.2.1).2, ()), nw := id }
theorem c13 : CtrOk Tryz.prog 13 con13.ctr :=
 con_sound (G := ⟨[(40, con40.ctr), (28, con28.ctr), (43, con43.ctr), (41, conRI.ctr), (42, con42.ctr), (44, con44.ctr), (45, con45.ctr), (46, con46.ctr)], [], [], []⟩) tab_ok (EnvOk.cons c40 has40 (EnvOk.cons c28 has28 (EnvOk.cons c43 has43 (EnvOk.cons cRI has41 (EnvOk.cons c42 has42 (EnvOk.cons c44 has44 (EnvOk.cons c45 has45 (EnvOk.cons c46 has46 EnvOk.nil)))))))) rfl Tryz.func13 rfl con13 332307078483876639903883991121526771 (by kernel_rfl) (by decide) (by decide) rfl (by decide) rfl (by
  rintro ⟨(c : List Cnt), (l : List Opn), _⟩ hpre hwf X hT hG hk hK
  (simp -implicitDefEqProofs only [go_sem, Bool.not_eq_true', Bool.not_eq_false', Bool.or_eq_true, Bool.or_eq_false_iff, Bool.and_eq_true, Bool.and_eq_false_iff, decide_eq_true_eq, decide_eq_false_iff_not, Classical.not_not, not_or, maxLen, con13, con40, con28, con43, conRI, con42, con44, con45, con46, hT, hG, hk, hK, Tryz.results13, conRIO, con41] at hwf ⊢); (try simp (disch := decide +kernel) only [drawn, true_and, and_true])
  clear hwf
  refine fun _ => ⟨fun h => ?_, fun h1 _ => ⟨fun h2 => ?_, fun h2 => ?_⟩⟩
  · have e : applyV c l = ([], checkV c) := by unfold applyV; rw [if_pos h]
    rw [e]; exact ⟨rfl, rfl⟩
  · have e : applyV c l = ([], valV l) := by unfold applyV; rw [if_neg (by simp [h1]), if_pos h2]
    rw [e]; exact ⟨rfl, rfl⟩
  · have hok := checkV_iff.1 h1
    have hcl := hok.len
    have hce : ∀ o ∈ c, ctErr o = 0 := fun o ho => ctErr_iff.2 (hok.ok o ho)
    have hcp : ∀ o ∈ c, o.pcs.length ≤ 100000 := fun o ho => Nat.le_trans (hok.ok o ho).2.1 (by omega)
    have hlv : l.length ≤ 360 := (valV_zero h2).1
    have hA : applyV c l = if numsIn c l = false then ([], 6) else forceAll (placesV l) (c.map (clrC ((placesV l).map (fun x => x.1.1)))) := by
     unfold applyV; rw [if_neg (by simp [h1]), if_neg (by simp [h2])]
    refine evk_loop ⟨{ i : Nat // i ≤ l.length ∧ ∀ k, k < i → 0 ≤ numIdx c (l.getD k o0).box }, 1000, fun q => [(0, .one (.sl yCT c false)), (1, .one (.sl yOP l false)), (8, .one (.int .i64 q.1))], fun q => [], fun q => l.length - q.1⟩ ⟨0, Nat.zero_le _, fun k hk => by omega⟩ ?_ ?_
    · simp only [go_sem]
      try (first | rfl | exact ⟨rfl, rfl⟩ | (and_intros <;> first | trivial | rfl | omega))
    · rintro ⟨i, (hi : i ≤ l.length), hz⟩
      have hz : ∀ k, k < i → 0 ≤ numIdx c (l.getD k o0).box := hz
      (simp -implicitDefEqProofs only [go_sem, Bool.not_eq_true', Bool.not_eq_false', Bool.or_eq_true, Bool.or_eq_false_iff, Bool.and_eq_true, Bool.and_eq_false_iff, decide_eq_true_eq, decide_eq_false_iff_not, Classical.not_not, not_or, maxLen, con13, con40, con28, con43, conRI, con42, con44, con45, con46, hT, hG, hk, hK, Tryz.results13, conRIO, con41]); (try simp (disch := decide +kernel) only [drawn, true_and, and_true])
      obtain ⟨o, ho⟩ : ∃ o, l.getD i o0 = o := ⟨_, rfl⟩
      have eo : l.getD (i : Int).toNat (0, 0, 0, 0, 0, (0, 0, 0), 0, 0) = o := ho
      try simp only [eo]
      (repeat' (with_reducible (first | refine And.intro ?_ ?_ | intro _))) <;> (try (first | with_reducible (first | done | assumption | omega | contradiction) | decide))
      all_goals first
       | (have hq : numIdx c o.2.2.2.2.1 < 0 := by assumption
          have e : applyV c l = ([], 6) := by
           rw [hA, if_pos]
           unfold numsIn
           rw [List.all_eq_false]
           exact ⟨o, by rw [← ho]; exact getD_mem (by omega), by rw [decide_eq_true_eq]; show ¬ 0 ≤ numIdx c o.2.2.2.2.1; omega⟩
          first | (rw [e]; done) | (rw [e]; rfl))
       | (have hq : ¬ numIdx c o.2.2.2.2.1 < 0 := by assumption
          refine fin_lp ⟨i + 1, (by omega), lt_succ' hz (by rw [ho]; show 0 ≤ numIdx c o.2.2.2.2.1; omega)⟩ ?_ (by dsimp only; omega)
          simp only [go_sem]
          try (first | rfl | exact ⟨rfl, rfl⟩ | (and_intros <;> first | trivial | rfl | omega))
          done)
       | exact hcp _ (by assumption)
       | (have hni : ∀ o ∈ l, 0 ≤ numIdx c o.box := fun o ho => by
           obtain ⟨k, hk2, rfl⟩ := mem_getD (d := o0) ho
           exact hz k (by omega)
          have hA2 : applyV c l = forceAll (placesV l) (c.map (clrC ((placesV l).map (fun x => x.1.1)))) := by
           rw [hA, if_neg]
           unfold numsIn
           rw [Bool.not_eq_false, List.all_eq_true]
           exact fun o ho => decide_eq_true (hni o ho)
          have hbx : ∀ z ∈ placesV l, z.2.1 = 0 ∨ 0 ≤ numIdx c z.2.1 := fun z hz => by
           rcases placesV_box hz with h | ⟨o, ho, h⟩
           · exact .inl h
           · exact .inr (by rw [← h]; exact hni o ho)
          have hPl := placesV_len l
          generalize hPe : placesV l = P at hA2 hbx hPl ⊢
          obtain ⟨ps, hps⟩ : ∃ ps : List Plt, P.map (fun x => x.1.1) = ps := ⟨_, rfl⟩
          have hpl : ps.length = P.length := by rw [← hps, List.length_map]
          rw [hps] at hA2
          refine evk_loop ⟨{ i : Nat // i ≤ P.length }, 1000, fun q => [(9, .one (.row 73)), (10, .one (.sl yPM P false)), (11, .one (.int .i64 q.1))], fun q => [(73, .row 75 yCT (c.map (clrC (ps.take q.1))))], fun q => P.length - q.1⟩ ⟨0, Nat.zero_le _⟩ ?_ ?_
          · simp only [go_sem]
            have e0 : c.map (clrC (ps.take 0)) = c := by
             rw [List.take_zero]
             exact (List.map_congr_left fun o _ => clrC_nil o).trans (List.map_id'' (fun _ => rfl) c)
            try simp only [List.take_zero] at e0
            try simp only [e0]
            try (first | rfl | exact ⟨rfl, rfl⟩ | (and_intros <;> first | trivial | rfl | omega))
          · rintro ⟨i, (hi : i ≤ P.length)⟩
            (simp -implicitDefEqProofs only [go_sem, Bool.not_eq_true', Bool.not_eq_false', Bool.or_eq_true, Bool.or_eq_false_iff, Bool.and_eq_true, Bool.and_eq_false_iff, decide_eq_true_eq, decide_eq_false_iff_not, Classical.not_not, not_or, maxLen, con13, con40, con28, con43, conRI, con42, con44, con45, con46, hT, hG, hk, hK, Tryz.results13, conRIO, con41]); (try simp (disch := decide +kernel) only [drawn, true_and, and_true])
            obtain ⟨o, ho⟩ : ∃ o, P.getD i pm0 = o := ⟨_, rfl⟩
            have eo : P.getD (i : Int).toNat (((0, 0, 0), 0, 0), 0, []) = o := ho
            try simp only [eo]
            have hts : i < P.length → ps.take (i + 1) = ps.take i ++ [o.1.1] := fun h => by
             rw [List.take_succ_eq_append_getElem (by omega)]
             congr 1
             simp only [← hps, List.getElem_map]
             rw [← getD_lt (d := pm0) h, ho]
            (repeat' (with_reducible (first | refine And.intro ?_ ?_ | intro _))) <;> (try (first | with_reducible (first | done | assumption | omega | contradiction) | decide))
            all_goals first
             | (have hts := hts (by omega)
                refine evk_loop ⟨{ k : Nat // k ≤ c.length }, 1000, fun q => [(9, .one (.row 73)), (10, .one (.sl yPM P false)), (11, .one (.int .i64 i)), (12, .one (.int .i64 q.1))], fun q => [(73, .row 75 yCT ((c.take q.1).map (clrC (ps.take (i + 1))) ++ (c.drop q.1).map (clrC (ps.take i))))], fun q => c.length - q.1⟩ ⟨0, Nat.zero_le _⟩ ?_ ?_
                · simp only [go_sem]
                  try simp only [List.take_zero, List.map_nil, List.nil_append, List.drop_zero]
                  try (first | rfl | exact ⟨rfl, rfl⟩ | (and_intros <;> first | trivial | rfl | omega))
                · rintro ⟨k, (hk2 : k ≤ c.length)⟩
                  (simp -implicitDefEqProofs only [go_sem, Bool.not_eq_true', Bool.not_eq_false', Bool.or_eq_true, Bool.or_eq_false_iff, Bool.and_eq_true, Bool.and_eq_false_iff, decide_eq_true_eq, decide_eq_false_iff_not, Classical.not_not, not_or, maxLen, con13, con40, con28, con43, conRI, con42, con44, con45, con46, hT, hG, hk, hK, Tryz.results13, conRIO, con41]); (try simp (disch := decide +kernel) only [drawn, true_and, and_true])
                  try simp only [eo]
                  obtain ⟨u, hu⟩ : ∃ u, c.getD k ct0 = u := ⟨_, rfl⟩
                  have hrl : ((c.take k).map (clrC (ps.take (i + 1))) ++ (c.drop k).map (clrC (ps.take i))).length = c.length := by simp; omega
                  have hro : k < c.length → ((c.take k).map (clrC (ps.take (i + 1))) ++ (c.drop k).map (clrC (ps.take i))).getD (k : Int).toNat (0, (ByteArray.empty, 0, ByteArray.empty, 0), 0, 0, 0, 0, 0, []) = clrC (ps.take i) u := fun h => by
                   rw [show (k : Int).toNat = k by omega, List.getD_eq_getElem?_getD, List.getElem?_append_right (by simp; omega), List.length_map, List.length_take, show k - min k c.length = 0 by omega, List.getElem?_map, List.getElem?_drop, Nat.add_zero, ← hu, List.getD_eq_getElem?_getD, List.getElem?_eq_getElem h]; rfl
                  have hsx : k < c.length → ((c.take k).map (clrC (ps.take (i + 1))) ++ (c.drop k).map (clrC (ps.take i))).set (k : Int).toNat (clrC (ps.take (i + 1)) u) = (c.take (k + 1)).map (clrC (ps.take (i + 1))) ++ (c.drop (k + 1)).map (clrC (ps.take i)) := fun h => by
                   rw [show (k : Int).toNat = k by omega, List.set_append_right _ _ (by simp; omega), List.length_map, List.length_take, show k - min k c.length = 0 by omega, List.drop_eq_getElem_cons h, List.map_cons, List.set_cons_zero, List.take_succ_eq_append_getElem h, List.map_append, ← getD_lt (d := ct0) h, hu]; simp
                  have hse : k < c.length → clrC (ps.take i) u = clrC (ps.take (i + 1)) u → (c.take k).map (clrC (ps.take (i + 1))) ++ (c.drop k).map (clrC (ps.take i)) = (c.take (k + 1)).map (clrC (ps.take (i + 1))) ++ (c.drop (k + 1)).map (clrC (ps.take i)) := fun h e => by
                   rw [List.drop_eq_getElem_cons h, List.map_cons, List.take_succ_eq_append_getElem h, List.map_append, ← getD_lt (d := ct0) h, hu, e]; simp
                  simp only [hrl]
                  refine fun _ => ⟨fun hlt => ?_, fun hge => ?_⟩
                  · have hro := hro (by omega)
                    have hsx := hsx (by omega)
                    have hse := hse (by omega)
                    have hue : ctErr u = 0 := hce u (by rw [← hu]; exact getD_mem (by omega))
                    have hsn := clrC_snoc (ps.take i) o.1.1 hue
                    rw [← hts] at hsn
                    unfold remC at hsn
                    have hU0 := clrC_ok (ps.take i) hue
                    simp only [hro]
                    generalize clrC (ps.take i) u = U at hsn hse hU0 ⊢
                    have eO : (o.1.1.1, o.1.1.2.1, o.1.1.2.2) = o.1.1 := rfl
                    have eU : (U.1, (U.2.1.1, U.2.1.2.1, U.2.1.2.2.1, U.2.1.2.2.2), U.2.2.1, U.2.2.2.1, U.2.2.2.2.1, U.2.2.2.2.2.1, U.2.2.2.2.2.2.1, U.2.2.2.2.2.2.2) = U := rfl
                    simp only [eO, eU, holdsV_has]
                    (repeat' (with_reducible (first | refine And.intro ?_ ?_ | intro _))) <;> (try (first | with_reducible (first | done | assumption | omega | contradiction) | decide))
                    all_goals first
                     | (have hq : hasP U.pcs o.1.1 = true := by assumption
                        rw [if_pos hq] at hsn
                        refine fin_lp ⟨k + 1, by omega⟩ ?_ (by dsimp only; omega)
                        simp only [go_sem]
                        rw [← hsx, ← hsn]
                        try (first | rfl | exact ⟨rfl, rfl⟩ | (and_intros <;> first | trivial | rfl | omega))
                        done)
                     | (have hq : hasP U.pcs o.1.1 = false := by assumption
                        rw [if_neg (by rw [hq]; simp)] at hsn
                        refine fin_lp ⟨k + 1, by omega⟩ ?_ (by dsimp only; omega)
                        simp only [go_sem]
                        rw [hse hsn]
                        try (first | rfl | exact ⟨rfl, rfl⟩ | (and_intros <;> first | trivial | rfl | omega))
                        done)
                     | omega
                     | fail
                  · have e4 : (c.take k).map (clrC (ps.take (i + 1))) ++ (c.drop k).map (clrC (ps.take i)) = c.map (clrC (ps.take (i + 1))) := by
                     rw [show c.take k = c from List.take_of_length_le (by omega), show c.drop k = [] from List.drop_of_length_le (by omega)]; simp
                    simp only [e4]
                    (repeat' (with_reducible (first | refine And.intro ?_ ?_ | intro _))) <;> (try (first | with_reducible (first | done | assumption | omega | contradiction) | decide))
                    all_goals first
                     | (refine fin_lp ⟨i + 1, by omega⟩ ?_ (by dsimp only; omega)
                        simp only [go_sem]
                        try (first | rfl | exact ⟨rfl, rfl⟩ | (and_intros <;> first | trivial | rfl | omega))
                        done)
                     | omega
                     | fail)
             | (have e4 : ps.take i = ps := List.take_of_length_le (by omega)
                simp only [e4]
                refine evk_loop ⟨{ q : Nat × List Cnt // q.1 ≤ P.length ∧ forceAll (P.drop q.1) q.2 = forceAll P (c.map (clrC ps)) ∧ q.2.map (fun c => c.num) = c.map (fun c => c.num) }, 1000, fun q => [(9, .one (.row 73)), (10, .one (.sl yPM P false)), (13, .one (.int .i64 q.1.1))], fun q => [(73, .row 75 yCT q.1.2)], fun q => P.length - q.1.1⟩ ⟨(0, c.map (clrC ps)), Nat.zero_le _, rfl, by rw [List.map_map]; rfl⟩ ?_ ?_
                · simp only [go_sem]
                  try (first | rfl | exact ⟨rfl, rfl⟩ | (and_intros <;> first | trivial | rfl | omega))
                · rintro ⟨⟨j, R⟩, (hj : j ≤ P.length), (hf : forceAll (P.drop j) R = forceAll P (c.map (clrC ps))), (hnm : R.map (fun c => c.num) = c.map (fun c => c.num))⟩
                  (simp -implicitDefEqProofs only [go_sem, Bool.not_eq_true', Bool.not_eq_false', Bool.or_eq_true, Bool.or_eq_false_iff, Bool.and_eq_true, Bool.and_eq_false_iff, decide_eq_true_eq, decide_eq_false_iff_not, Classical.not_not, not_or, maxLen, con13, con40, con28, con43, conRI, con42, con44, con45, con46, hT, hG, hk, hK, Tryz.results13, conRIO, con41]); (try simp (disch := decide +kernel) only [drawn, true_and, and_true])
                  have hRl : R.length = c.length := by have := congrArg List.length hnm; rw [List.length_map, List.length_map] at this; exact this
                  obtain ⟨o, ho⟩ : ∃ o, P.getD j pm0 = o := ⟨_, rfl⟩
                  have eo : P.getD (j : Int).toNat (((0, 0, 0), 0, 0), 0, []) = o := ho
                  have hbo : j < P.length → o.2.1 = 0 ∨ 0 ≤ numIdx R o.2.1 := fun h => by
                   rw [numIdx_nums hnm]; exact hbx o (by rw [← ho]; exact getD_mem h)
                  have hsp : 0 ≤ numIdx R o.2.1 → (numIdx R o.2.1).toNat < R.length := fun h => (idxV_spec (d := ct0) h).1
                  have hdr : j < P.length → P.drop j = o :: P.drop (j + 1) := fun h => by rw [List.drop_eq_getElem_cons h, ← getD_lt (d := pm0) h, ho]
                  simp only [eo]
                  obtain ⟨q, hq⟩ : ∃ q, R.getD (numIdx R o.2.1).toNat ct0 = q := ⟨_, rfl⟩
                  have eq1 : R.getD (numIdx R o.2.1).toNat (0, (ByteArray.empty, 0, ByteArray.empty, 0), 0, 0, 0, 0, 0, []) = q := hq
                  have eO : ((o.1.1.1, o.1.1.2.1, o.1.1.2.2), o.1.2.1, o.1.2.2) = o.1 := rfl
                  have eQ : (q.1, (q.2.1.1, q.2.1.2.1, q.2.1.2.2.1, q.2.1.2.2.2), q.2.2.1, q.2.2.2.1, q.2.2.2.2.1, q.2.2.2.2.2.1, q.2.2.2.2.2.2.1, q.2.2.2.2.2.2.2) = q := rfl
                  try simp only [eq1, eO, eQ]
                  obtain ⟨W, hW⟩ : ∃ W, forceV q o.1 = W := ⟨_, rfl⟩
                  try simp only [hW]
                  have hst : j < P.length → forceAll (P.drop j) R = if o.2.1 = 0 then forceAll (P.drop (j + 1)) R else if W.2 ≠ 0 then ([], W.2) else forceAll (P.drop (j + 1)) (R.set (numIdx R o.2.1).toNat W.1) := fun h => by
                   rw [hdr h, forceAll, hq, hW]
                  (repeat' (with_reducible (first | refine And.intro ?_ ?_ | intro _))) <;> (try (first | with_reducible (first | done | assumption | omega | contradiction) | decide))
                  all_goals first
                   | (have h0 : o.2.1 = 0 := by assumption
                      have hst := hst (by omega)
                      rw [if_pos h0] at hst
                      refine fin_lp ⟨(j + 1, R), (by show j + 1 ≤ P.length; omega), hst.symm.trans hf, hnm⟩ ?_ (by dsimp only; omega)
                      simp only [go_sem]
                      try (first | rfl | exact ⟨rfl, rfl⟩ | (and_intros <;> first | trivial | rfl | omega))
                      done)
                   | (have h0 : ¬ o.2.1 = 0 := by assumption
                      have h5 : W.2 = 0 := by assumption
                      have hst := hst (by omega)
                      rw [if_neg h0, if_neg (by simp [h5])] at hst
                      have hb := (hbo (by omega)).resolve_left h0
                      have hsp := hsp hb
                      refine fin_lp ⟨(j + 1, R.set (numIdx R o.2.1).toNat W.1), (by show j + 1 ≤ P.length; omega), hst.symm.trans hf, ?_⟩ ?_ (by dsimp only; omega)
                      · show (R.set _ _).map _ = _
                        rw [List.map_set, ← hnm]
                        have hWn : W.1.num = q.num := by rw [← hW]; exact forceV_num (by rw [hW]; exact h5)
                        rw [hWn, ← hq]
                        refine List.ext_getElem (by simp) fun k h1 h2 => ?_
                        rw [List.getElem_set]
                        split
                        · rename_i e; subst e; rw [List.getElem_map, getD_lt (d := ct0) hsp]
                        · rfl
                      · simp only [go_sem]
                        try (first | rfl | exact ⟨rfl, rfl⟩ | (and_intros <;> first | trivial | rfl | omega))
                        done)
                   | (have h0 : ¬ o.2.1 = 0 := by assumption
                      have h5 : ¬ W.2 = 0 := by assumption
                      have hst := hst (by omega)
                      rw [if_neg h0, if_pos h5] at hst
                      have e : applyV c l = ([], W.2) := by rw [hA2, ← hf, hst]
                      first | (rw [e]; done) | (rw [e]; rfl))
                   | (have h0 : ¬ o.2.1 = 0 := by assumption
                      have hb := (hbo (by omega)).resolve_left h0
                      have hsp := hsp hb
                      omega)
                   | omega
                   | (have e5 : P.drop j = [] := List.drop_of_length_le (by omega)
                      have e : applyV c l = (R, 0) := by rw [hA2, ← hf, e5]; rfl
                      first | (rw [e]; done) | (rw [e]; rfl))
                   | fail)
             | fail)
       | fail)
end Go.Proofs.YthiddcobegnokaaGreat

/- The generator of containers. -/
set_option linter.unusedSimpArgs false
set_option linter.unusedVariables false
set_option maxRecDepth 100000
set_option maxHeartbeats 8000000
namespace Go.Proofs.YthiddcobegnokaaGreat
open Go.Ev

attribute [local go_sem] List.set_cons_succ List.set_cons_zero List.getD_cons_succ List.getD_cons_zero List.set_nil
/-- What Containers gives. -/
structure CtsR (most n : Int) (l : List Cnt) : Prop where
 ok : CtsOk l
 len : (l.length : Int) ≤ most
 pl : ∀ c ∈ l, ∀ x ∈ c.pcs, ∃ j : Nat, (j : Int) < n ∧ x.1 = platesV j
 fl : ∀ c ∈ l, ∃ j : Nat, j < 3 ∧ c.flt = fltsV j
structure CtA (most k nm : Int) (xs : List Cnt) : Prop where
 len : (xs.length : Int) + k ≤ most
 n0 : 0 ≤ nm
 n1 : nm ≤ 2 * xs.length
 ok : ∀ c ∈ xs, propC c = true ∧ c.pcs = [] ∧ c.num ≤ nm ∧ ∃ j : Nat, j < 3 ∧ c.flt = fltsV j
 num : xs.Pairwise (fun a b => a.num < b.num)
 pos : ∀ i, i < xs.length → (xs.getD i ct0).pos = 0 ∨ (xs.getD i ct0).pos = i + 1
theorem CtA.push {most k nm : Int} {xs : List Cnt} (h : CtA most k nm xs) (hm : most ≤ 24) (hk : 0 < k) {v f c l m p r : Int} (hv : 1 ≤ v ∧ v ≤ 2) (hf : 0 ≤ f ∧ f < 3) (hc : 0 ≤ c ∧ c ≤ 31) (hl : 0 ≤ l ∧ l ≤ 20000) (hmo : 0 ≤ m ∧ m ≤ 60) (hp : p = 0 ∨ p = xs.length + 1) (hr : -50 ≤ r ∧ r ≤ 50) : CtA most (k - 1) (nm + v) (xs ++ [(nm + v, fltsV f, c, l, m, p, r, [])]) := by
 obtain ⟨il, in0, in1, iok, inum, ipos⟩ := h
 refine ⟨by simp; omega, by omega, by simp; omega, fun x hx => ?_, ?_, fun i hi => ?_⟩
 · rcases List.mem_append.1 hx with hx | hx
   · obtain ⟨h1, h2, h3, h4⟩ := iok x hx
     exact ⟨h1, h2, by omega, h4⟩
   · rw [List.mem_singleton.1 hx]
     refine ⟨?_, rfl, Int.le_refl _, f.toNat, by omega, by rw [show ((f.toNat : Nat) : Int) = f by omega]⟩
     unfold propC inV
     simp only [Cnt.num, Cnt.flt, Cnt.cats, Cnt.lim, Cnt.most, Cnt.pos, Cnt.arm, fltsV_ok, Bool.and_eq_true, decide_eq_true_eq, and_true]
     rcases hp with hp | hp <;> subst hp <;> omega
 · rw [List.pairwise_append]
   refine ⟨inum, List.pairwise_singleton _ _, fun x hx y hy => ?_⟩
   rw [List.mem_singleton.1 hy]
   have := (iok x hx).2.2.1
   show x.num < nm + v
   omega
 · by_cases e : i < xs.length
   · have := ipos i e
     rw [List.getD_eq_getElem?_getD, List.getElem?_append_left e, ← List.getD_eq_getElem?_getD]; exact this
   · have e : i = xs.length := by simp at hi; omega
     subst e
     rw [List.getD_eq_getElem?_getD, List.getElem?_append_right (Nat.le_refl _), Nat.sub_self]
     exact hp
structure CtB (i N : Nat) (yss : List (List Pce)) : Prop where
 len : yss.length = N
 c20 : ∀ p ∈ yss, p.length ≤ 20
 ok : ∀ p ∈ yss, PcsOk p
 pl : ∀ p ∈ yss, ∀ x ∈ p, ∃ j : Nat, j < i ∧ x.1 = platesV j
 ap : yss.Pairwise (fun a b => ∀ x ∈ a, ∀ y ∈ b, x.1 ≠ y.1)
theorem CtB.nil (N : Nat) : CtB 0 N (List.replicate N []) := by
 refine ⟨by simp, fun p hp => ?_, fun p hp => ?_, fun p hp => ?_, ?_⟩
 · rw [List.eq_of_mem_replicate hp]; simp
 · rw [List.eq_of_mem_replicate hp]; exact ⟨fun _ h => (by cases h), .nil⟩
 · rw [List.eq_of_mem_replicate hp]; intro x hx; cases hx
 · rw [List.pairwise_replicate]; right; intro x hx; cases hx
theorem CtB.step {i N : Nat} {yss : List (List Pce)} (h : CtB i N yss) : CtB (i + 1) N yss :=
 ⟨h.len, h.c20, h.ok, fun p hp x hx => (h.pl p hp x hx).imp fun j hj => ⟨by omega, hj.2⟩, h.ap⟩
theorem platesV_ne {a b : Nat} (h : a < b) (hb : b < 1000) : platesV a ≠ platesV b := fun e => by
 have := platesV_lt (a := a) (b := b) (by omega) (by omega) (by omega)
 rw [e, (pltC_cmp.eq _ _).2 rfl] at this
 omega
theorem set_getD {α : Type} (l : List α) (k : Nat) (v d : α) (j : Nat) (hj : j < l.length) : (l.set k v).getD j d = if k = j then v else l.getD j d := by
 rw [List.getD_eq_getElem?_getD, List.getD_eq_getElem?_getD, List.getElem?_set]
 split
 · rename_i e; subst e; simp [hj]
 · rfl
theorem CtB.put {i N k : Nat} {yss : List (List Pce)} (h : CtB i N yss) (hi : i < 1000) (hk : k < N) (h20 : (yss.getD k []).length < 20) {w c : Int} (hw : 1 ≤ w ∧ w ≤ 999) (hc : 0 ≤ c ∧ c ≤ 4) : CtB (i + 1) N (yss.set k (yss.getD k [] ++ [(platesV i, w, c)])) := by
 obtain ⟨h1, h2, h3, h4, h5⟩ := h
 have hmem : yss.getD k [] ∈ yss := getD_mem (by omega)
 have key : ∀ p ∈ yss.set k (yss.getD k [] ++ [(platesV i, w, c)]), p ∈ yss ∨ p = yss.getD k [] ++ [(platesV i, w, c)] := fun p hp => by
  rcases List.mem_or_eq_of_mem_set hp with h | h
  · exact .inl h
  · exact .inr h
 refine ⟨by simp [h1], fun p hp => ?_, fun p hp => ?_, fun p hp x hx => ?_, ?_⟩
 · rcases key p hp with h | h
   · exact h2 p h
   · rw [h, List.length_append, List.length_singleton]; omega
 · rcases key p hp with h | h
   · exact h3 p h
   · subst h
     refine ⟨fun x hx => ?_, ?_⟩
     · rcases List.mem_append.1 hx with hx | hx
       · exact (h3 _ hmem).ok x hx
       · rw [List.mem_singleton.1 hx]
         unfold okPc inV
         simp only [platesV_ok, Bool.and_eq_true, decide_eq_true_eq, true_and]
         omega
     · rw [List.pairwise_append]
       refine ⟨(h3 _ hmem).srt, List.pairwise_singleton _ _, fun x hx y hy => ?_⟩
       rw [List.mem_singleton.1 hy]
       obtain ⟨j, hj, e⟩ := h4 _ hmem x hx
       rw [e]
       exact platesV_lt (by omega) (by omega) (by omega)
 · rcases key p hp with h | h
   · exact (h4 p h x hx).imp fun j hj => ⟨by omega, hj.2⟩
   · subst h
     rcases List.mem_append.1 hx with hx | hx
     · exact (h4 _ hmem x hx).imp fun j hj => ⟨by omega, hj.2⟩
     · rw [List.mem_singleton.1 hx]; exact ⟨i, by omega, rfl⟩
 · rw [pw_getD []] at h5 ⊢
   intro a b hab hb x hx y hy
   rw [List.length_set] at hb
   rw [set_getD _ _ _ _ _ (by omega)] at hx hy
   have hA : yss.getD a [] ∈ yss := getD_mem (by omega)
   have hB : yss.getD b [] ∈ yss := getD_mem hb
   by_cases ea : k = a
   · rw [if_pos ea] at hx
     rw [if_neg (by omega)] at hy
     rcases List.mem_append.1 hx with hx | hx
     · rw [ea] at hx; exact h5 a b hab hb x hx y hy
     · rw [List.mem_singleton.1 hx]
       obtain ⟨j, hj, e⟩ := h4 _ hB y hy
       rw [e]; exact (platesV_ne hj hi).symm
   · rw [if_neg ea] at hx
     by_cases eb : k = b
     · rw [if_pos eb] at hy
       rcases List.mem_append.1 hy with hy | hy
       · rw [eb] at hy; exact h5 a b hab hb x hx y hy
       · rw [List.mem_singleton.1 hy]
         obtain ⟨j, hj, e⟩ := h4 _ hA x hx
         rw [e]; exact platesV_ne hj hi
     · rw [if_neg eb] at hy
       exact h5 a b hab hb x hx y hy
theorem zipS_len {xs : List Cnt} {yss : List (List Pce)} (h : yss.length = xs.length) : ((xs.zip yss).map (fun q => setPcs q.1 q.2)).length = xs.length := by simp [h]
theorem zipS_getD {xs : List Cnt} {yss : List (List Pce)} (h : yss.length = xs.length) {i : Nat} (hi : i < xs.length) : ((xs.zip yss).map (fun q => setPcs q.1 q.2)).getD i ct0 = setPcs (xs.getD i ct0) (yss.getD i []) := by
 simp [List.getD_eq_getElem?_getD, hi, h]
theorem CtsR.mk' {most n nm k : Int} {i : Nat} {xs : List Cnt} {yss : List (List Pce)} (hA : CtA most k nm xs) (hk : 0 ≤ k) (hm : most ≤ 24) (hB : CtB i xs.length yss) (hi : (i : Int) ≤ n ∨ i = 0) : CtsR most n ((xs.zip yss).map (fun q => setPcs q.1 q.2)) := by
 obtain ⟨il, in0, in1, iok, inum, ipos⟩ := hA
 obtain ⟨h1, h2, h3, h4, h5⟩ := hB
 have hl := zipS_len h1
 have hg : ∀ c ∈ (xs.zip yss).map (fun q => setPcs q.1 q.2), ∃ x ∈ xs, ∃ p ∈ yss, c = setPcs x p := fun c hc => by
  obtain ⟨q, hq, rfl⟩ := List.mem_map.1 hc
  exact ⟨q.1, (List.of_mem_zip (a := q.1) (b := q.2) hq).1, q.2, (List.of_mem_zip (a := q.1) (b := q.2) hq).2, rfl⟩
 refine ⟨⟨by omega, fun c hc => ?_, (pw_getD ct0).2 fun a b hab hb => ?_, (pw_getD ct0).2 fun a b hab hb => ?_, (pw_getD ct0).2 fun a b hab hb => ?_⟩, by omega, fun c hc x hx => ?_, fun c hc => ?_⟩
 · obtain ⟨x, hx, p, hp, rfl⟩ := hg c hc
   exact ⟨(iok x hx).1, Nat.le_trans (h2 p hp) (by omega), h3 p hp⟩
 · rw [hl] at hb
   rw [zipS_getD (i := a) h1 (by omega), zipS_getD (i := b) h1 hb]
   exact (pw_getD ct0).1 inum a b hab hb
 · rw [hl] at hb
   rw [zipS_getD (i := a) h1 (by omega), zipS_getD (i := b) h1 hb]
   intro hp he
   have hp : (xs.getD b ct0).pos ≠ 0 := hp
   have he : (xs.getD a ct0).pos = (xs.getD b ct0).pos := he
   have := ipos a (by omega)
   have := ipos b hb
   omega
 · rw [hl] at hb
   rw [zipS_getD (i := a) h1 (by omega), zipS_getD (i := b) h1 hb]
   exact (pw_getD []).1 h5 a b hab (by omega)
 · obtain ⟨x0, hx0, p, hp, rfl⟩ := hg c hc
   obtain ⟨j, hj, e⟩ := h4 p hp x hx
   exact ⟨j, by omega, e⟩
 · obtain ⟨x0, hx0, p, hp, rfl⟩ := hg c hc
   exact (iok x0 hx0).2.2.2
def con8 : RCon := { ps := [.p 77 ySR, .d false (.int .i64), .d false (.int .i64)], rs := [.d false (.sl yCT)], pre := fun (x : Src × Int × Int × Unit) => 0 ≤ x.1.2 ∧ 0 ≤ x.2.1 ∧ x.2.1 ≤ 24 ∧ x.2.2.1 ≤ 1000, rel := fun (x : Src × Int × Int × Unit) (y : List Cnt × Unit) (z : Src × Int × Int × Unit) => 0 ≤ z.1.2 ∧ CtsR x.2.1 x.2.2.1 y.1 }
theorem c8 : RCtrOk Tryz.prog 8 con8.rctr :=
 rcon_sound (G := ⟨[(17, con17.ctr), (30, con30.ctr), (29, con29.ctr), (31, con31.ctr)], [], [(7, 62), (53, 62), (58, 1), (84, 3), (93, 5), (99, 1)], []⟩) tab_ok (EnvOk.cons c17 has17 (EnvOk.cons c30 has30 (EnvOk.cons c29 has29 (EnvOk.cons c31 has31 EnvOk.nil)))) rfl Tryz.func8 rfl con8 77371328692341128053669831 (by kernel_rfl) (by decide) (by decide) rfl (by decide) rfl (by
  rintro ⟨⟨(s : List Int), (a : Int)⟩, (most : Int), (n : Int), _⟩ hpre hwf X hT hG hk hK
  (simp -implicitDefEqProofs only [go_sem, Bool.not_eq_true', Bool.not_eq_false', Bool.or_eq_true, Bool.or_eq_false_iff, Bool.and_eq_true, Bool.and_eq_false_iff, decide_eq_true_eq, decide_eq_false_iff_not, Classical.not_not, not_or, maxLen, con8, con17, con30, con29, con31, hT, hG, hk, hK, Tryz.results8] at hwf ⊢); (try simp (disch := decide +kernel) only [drawn, true_and, and_true])
  obtain ⟨h1, h2, h3, h4⟩ : 0 ≤ a ∧ 0 ≤ most ∧ most ≤ 24 ∧ n ≤ 1000 := hpre
  have hs1 : 0 ≤ (Src.step (s, a)).snd := step_pos h1
  have hkb := goMod_bd (Src.raw (s, a)) (most + 1) (by omega)
  generalize goMod (Src.raw (s, a)) (most + 1) = K at hkb ⊢
  generalize Src.step (s, a) = S1 at hs1 ⊢
  obtain ⟨s1, a1⟩ := S1
  (repeat' (with_reducible (first | refine And.intro ?_ ?_ | intro _))) <;> (try (first | with_reducible (first | done | assumption | omega | contradiction) | decide))
  refine evk_loop ⟨{ q : Src × List Cnt × Int × Int // 0 ≤ q.1.2 ∧ CtA most q.2.2.2 q.2.2.1 q.2.1 ∧ 0 ≤ q.2.2.2 }, 1000, fun q => [(0, .one (.loc 0 0)), (2, .one (.int .i64 n)), (7, .one (.row 64)), (8, .one (.int .i64 q.1.2.2.1)), (9, .one (.int .i64 q.1.2.2.2))],
   fun q => [(0, .cells 77 [.sl (.int .i64) q.1.1.1 false, .int .i64 q.1.1.2]), (64, .rowg 75 yCT 10 65 q.1.2.1 none), (65, .fam 54 yPC (List.replicate q.1.2.1.length []))], fun q => q.1.2.2.2.toNat⟩ ⟨((s1, a1), [], 0, K), hs1, ⟨by simp only [List.length_nil]; omega, Int.le_refl _, by simp, fun _ h => (by cases h), .nil, fun i h => absurd h (by simp)⟩, hkb.1⟩ ?_ ?_
  · simp only [go_sem]
    try (first | rfl | exact ⟨rfl, rfl⟩ | (and_intros <;> first | trivial | rfl | omega))
  · rintro ⟨⟨⟨s, a⟩, xs, nm, k⟩, (h1 : 0 ≤ a), (hI : CtA most k nm xs), (hk0 : 0 ≤ k)⟩
    (simp -implicitDefEqProofs only [go_sem, Bool.not_eq_true', Bool.not_eq_false', Bool.or_eq_true, Bool.or_eq_false_iff, Bool.and_eq_true, Bool.and_eq_false_iff, decide_eq_true_eq, decide_eq_false_iff_not, Classical.not_not, not_or, maxLen, con8, con17, con30, con29, con31, hT, hG, hk, hK, Tryz.results8]); (try simp (disch := decide +kernel) only [drawn, true_and, and_true])
    obtain ⟨il, in0, in1, iok, inum, ipos⟩ := hI
    have r1 := goMod_bd (Src.raw (s, a)) 2 (by omega)
    have p1 : 0 ≤ (Src.step (s, a)).snd := step_pos h1
    have p2 : 0 ≤ (Src.step (s, a)).step.snd := step_pos p1
    have p3 : 0 ≤ (Src.step (s, a)).step.step.snd := step_pos p2
    have p4 : 0 ≤ (Src.step (s, a)).step.step.step.snd := step_pos p3
    have p5 : 0 ≤ (Src.step (s, a)).step.step.step.step.snd := step_pos p4
    have p6 : 0 ≤ (Src.step (s, a)).step.step.step.step.step.snd := step_pos p5
    have p7 : 0 ≤ (Src.step (s, a)).step.step.step.step.step.step.snd := step_pos p6
    have r2 := goMod_bd (Src.step (s, a)).raw 3 (by omega)
    have r3 := goMod_bd (Src.step (s, a)).step.raw 6 (by omega)
    have r4 := goMod_bd (Src.step (s, a)).step.step.raw 300 (by omega)
    have r5 := goMod_bd (Src.step (s, a)).step.step.step.raw 10 (by omega)
    have r6 := goMod_bd (Src.step (s, a)).step.step.step.step.raw 21 (by omega)
    have r7 := goMod_bd (Src.step (s, a)).step.step.step.step.step.raw 3 (by omega)
    generalize (Src.step (s, a)).step.step.step.step.step.step = S7 at p7 ⊢
    generalize goMod (Src.step (s, a)).step.step.step.step.step.raw 3 = V7 at r7 ⊢
    generalize goMod (Src.step (s, a)).step.step.step.step.raw 21 = V6 at r6 ⊢
    generalize goMod (Src.step (s, a)).step.step.step.raw 10 = V5 at r5 ⊢
    generalize goMod (Src.step (s, a)).step.step.raw 300 = V4 at r4 ⊢
    generalize goMod (Src.step (s, a)).raw 3 = V2 at r2 ⊢
    generalize goMod (Src.raw (s, a)) 2 = V1 at r1 ⊢
    obtain ⟨s7, a7⟩ := S7
    have hc31 : ∀ k : Int, 0 ≤ k ∧ k < 6 → 0 ≤ [31, 31, 31, 3, 30, 1].getD k.toNat (0 : Int) ∧ [31, 31, 31, 3, 30, 1].getD k.toNat (0 : Int) ≤ 31 := fun k hk => by
     rcases (by omega : k = 0 ∨ k = 1 ∨ k = 2 ∨ k = 3 ∨ k = 4 ∨ k = 5) with rfl | rfl | rfl | rfl | rfl | rfl <;> decide
    have hc31 := hc31 _ r3
    have hrep : List.replicate xs.length ([] : List Pce) ++ [[]] = List.replicate (xs.length + 1) [] := by rw [List.replicate_succ']
    have hI : CtA most k nm xs := ⟨il, in0, in1, iok, inum, ipos⟩
    (repeat' (with_reducible (first | refine And.intro ?_ ?_ | intro _))) <;> (try (first | with_reducible (first | done | assumption | omega | contradiction) | decide))
    all_goals first
     | (have hv7 : V7 > 0 := by assumption
        refine fin_lp ⟨((s7, a7), xs ++ [_], nm + (1 + V1), k - 1), p7, CtA.push (v := 1 + V1) (f := V2) (c := [31, 31, 31, 3, 30, 1].getD (goMod (Src.step (s, a)).step.raw 6).toNat 0) (l := 50 + V4) (m := 2 + V5) (p := xs.length + 1) (r := V6 - 10) hI h3 (by omega) (by omega) r2 hc31 (by omega) (by omega) (.inr rfl) (by omega), (by show 0 ≤ k - 1; omega)⟩ ?_ (by dsimp only; omega)
        simp only [go_sem]
        rw [hrep, List.length_append]
        try (first | rfl | exact ⟨rfl, rfl⟩ | (and_intros <;> first | trivial | rfl | omega))
        done)
     | (have hv7 : ¬ V7 > 0 := by assumption
        refine fin_lp ⟨((s7, a7), xs ++ [_], nm + (1 + V1), k - 1), p7, CtA.push (v := 1 + V1) (f := V2) (c := [31, 31, 31, 3, 30, 1].getD (goMod (Src.step (s, a)).step.raw 6).toNat 0) (l := 50 + V4) (m := 2 + V5) (p := 0) (r := V6 - 10) hI h3 (by omega) (by omega) r2 hc31 (by omega) (by omega) (.inl rfl) (by omega), (by show 0 ≤ k - 1; omega)⟩ ?_ (by dsimp only; omega)
        simp only [go_sem]
        rw [hrep, List.length_append]
        try (first | rfl | exact ⟨rfl, rfl⟩ | (and_intros <;> first | trivial | rfl | omega))
        done)
     | (have hl0 : xs.length = 0 := by omega
        refine ⟨((xs.zip (List.replicate xs.length [])).map (fun q => setPcs q.1 q.2), ()), ((s, a), most, n, ()), ⟨h1, CtsR.mk' hI hk0 h3 (CtB.nil _) (.inr rfl)⟩, rfl, rfl, putSls_ct _ _⟩)
     | (refine evk_loop ⟨{ q : Src × List (List Pce) × Nat // 0 ≤ q.1.2 ∧ CtB q.2.2 xs.length q.2.1 ∧ ((q.2.2 : Int) ≤ n ∨ q.2.2 = 0) }, 1000, fun q => [(0, .one (.loc 0 0)), (2, .one (.int .i64 n)), (7, .one (.row 64)), (11, .one (.int .i64 q.1.2.2))],
         fun q => [(0, .cells 77 [.sl (.int .i64) q.1.1.1 false, .int .i64 q.1.1.2]), (64, .rowg 75 yCT 10 65 xs none), (65, .fam 54 yPC q.1.2.1)], fun q => n.toNat - q.1.2.2⟩ ⟨((s, a), List.replicate xs.length [], 0), h1, CtB.nil _, .inr rfl⟩ ?_ ?_
        · simp only [go_sem]
          try (first | rfl | exact ⟨rfl, rfl⟩ | (and_intros <;> first | trivial | rfl | omega))
        · rintro ⟨⟨⟨s, a⟩, yss, i⟩, (h1 : 0 ≤ a), (hB : CtB i xs.length yss), (hin : (i : Int) ≤ n ∨ i = 0)⟩
          (simp -implicitDefEqProofs only [go_sem, Bool.not_eq_true', Bool.not_eq_false', Bool.or_eq_true, Bool.or_eq_false_iff, Bool.and_eq_true, Bool.and_eq_false_iff, decide_eq_true_eq, decide_eq_false_iff_not, Classical.not_not, not_or, maxLen, con8, con17, con30, con29, con31, hT, hG, hk, hK, Tryz.results8]); (try simp (disch := decide +kernel) only [drawn, true_and, and_true])
          have hxl : 0 < xs.length := by omega
          have r1 := goMod_bd (Src.raw (s, a)) 3 (by omega)
          have p1 : 0 ≤ (Src.step (s, a)).snd := step_pos h1
          have p2 : 0 ≤ (Src.step (s, a)).step.snd := step_pos p1
          have p3 : 0 ≤ (Src.step (s, a)).step.step.snd := step_pos p2
          have p4 : 0 ≤ (Src.step (s, a)).step.step.step.snd := step_pos p3
          have r2 := goMod_bd (Src.step (s, a)).raw xs.length (by omega)
          have r3 := goMod_bd (Src.step (s, a)).step.raw 30 (by omega)
          have r4 := goMod_bd (Src.step (s, a)).step.step.raw 8 (by omega)
          have hw : ∀ k : Int, 0 ≤ k ∧ k < 8 → 0 ≤ [0, 0, 0, 0, 1, 2, 3, 4].getD k.toNat (0 : Int) ∧ [0, 0, 0, 0, 1, 2, 3, 4].getD k.toNat (0 : Int) ≤ 4 := fun k hk => by
           rcases (by omega : k = 0 ∨ k = 1 ∨ k = 2 ∨ k = 3 ∨ k = 4 ∨ k = 5 ∨ k = 6 ∨ k = 7) with rfl | rfl | rfl | rfl | rfl | rfl | rfl | rfl <;> decide
          have hw := hw _ r4
          have hyl := hB.len
          have hbl : ∀ k : Nat, (yss.getD k []).length ≤ 20 := fun k => by
           by_cases h : k < yss.length
           · exact hB.c20 _ (getD_mem h)
           · rw [List.getD_eq_getElem?_getD, List.getElem?_eq_none (by omega)]; simp
          have hbk := hbl (goMod (Src.step (s, a)).raw xs.length).toNat
          generalize (Src.step (s, a)).step.step.step = S4 at p4 ⊢
          generalize goMod (Src.step (s, a)).step.step.raw 8 = V4 at r4 hw ⊢
          generalize goMod (Src.step (s, a)).step.raw 30 = V3 at r3 ⊢
          generalize goMod (Src.step (s, a)).raw xs.length = V2 at r2 hbk ⊢
          generalize goMod (Src.raw (s, a)) 3 = V1 at r1 ⊢
          generalize (Src.step (s, a)).step = S2 at p2 ⊢
          generalize Src.step (s, a) = S1 at p1 ⊢
          obtain ⟨s4, a4⟩ := S4
          obtain ⟨s2, a2⟩ := S2
          obtain ⟨s1, a1⟩ := S1
          (repeat' (with_reducible (first | refine And.intro ?_ ?_ | intro _))) <;> (try (first | with_reducible (first | done | assumption | omega | contradiction) | decide))
          all_goals first
           | (have hv : V1 = 0 := by assumption
              refine fin_lp ⟨((s1, a1), yss, i + 1), p1, hB.step, (by show ((i + 1 : Nat) : Int) ≤ n ∨ _; omega)⟩ ?_ (by dsimp only; omega)
              simp only [go_sem]
              try (first | rfl | exact ⟨rfl, rfl⟩ | (and_intros <;> first | trivial | rfl | omega))
              done)
           | exact step_pos p2
           | (have h20 : ((yss.getD V2.toNat []).length : Int) < 20 := by assumption
              refine fin_lp ⟨((s4, a4), yss.set V2.toNat (yss.getD V2.toNat [] ++ [(platesV i, 1 + V3, [0, 0, 0, 0, 1, 2, 3, 4].getD V4.toNat 0)]), i + 1), p4, hB.put (by omega) (by omega) (by omega) (by omega) hw, (by show ((i + 1 : Nat) : Int) ≤ n ∨ _; omega)⟩ ?_ (by dsimp only; omega)
              simp only [go_sem]
              rw [List.set_set]
              try (first | rfl | exact ⟨rfl, rfl⟩ | (and_intros <;> first | trivial | rfl | omega))
              done)
           | (have h20 : ¬ ((yss.getD V2.toNat []).length : Int) < 20 := by assumption
              refine fin_lp ⟨((s4, a4), yss, i + 1), p4, hB.step, (by show ((i + 1 : Nat) : Int) ≤ n ∨ _; omega)⟩ ?_ (by dsimp only; omega)
              simp only [go_sem]
              try (first | rfl | exact ⟨rfl, rfl⟩ | (and_intros <;> first | trivial | rfl | omega))
              done)
           | (refine ⟨((xs.zip yss).map (fun q => setPcs q.1 q.2), ()), ((s, a), most, n, ()), ⟨h1, CtsR.mk' hI hk0 h3 hB hin⟩, rfl, rfl, putSls_ct _ _⟩)
           | fail))
end Go.Proofs.YthiddcobegnokaaGreat

/- The generators of empty containers and of spoilt ones. -/
set_option linter.unusedSimpArgs false
set_option linter.unusedVariables false
set_option maxRecDepth 100000
set_option maxHeartbeats 8000000
namespace Go.Proofs.YthiddcobegnokaaGreat
open Go.Ev

attribute [local go_sem] List.set_cons_succ List.set_cons_zero List.getD_cons_succ List.getD_cons_zero List.set_nil
def empC (i j : Nat) : Cnt := ((i : Int) + 1, fltsV j, 31, 500, 20, (i : Int) + 1, 0, [])
/-- What Empties gives. -/
structure EmpR (most : Int) (l : List Cnt) : Prop where
 len : (l.length : Int) ≤ most
 at_ : ∀ i, i < l.length → ∃ j : Nat, j < 3 ∧ l.getD i ct0 = empC i j
theorem EmpR.ok {most : Int} {l : List Cnt} (h : EmpR most l) (hm : most ≤ 24) : CtsOk l := by
 have hl := h.len
 have hp : ∀ i j : Nat, i < 24 → propC (empC i j) = true := fun i j hi => by
  unfold propC inV empC
  simp only [Cnt.num, Cnt.flt, Cnt.cats, Cnt.lim, Cnt.most, Cnt.pos, Cnt.arm, fltsV_ok, Bool.and_eq_true, decide_eq_true_eq, and_true]
  omega
 refine ⟨by omega, fun c hc => ?_, (pw_getD ct0).2 fun a b hab hb => ?_, (pw_getD ct0).2 fun a b hab hb => ?_, (pw_getD ct0).2 fun a b hab hb => ?_⟩
 · obtain ⟨i, hi, rfl⟩ := getD_ct hc
   obtain ⟨j, _, e⟩ := h.at_ i hi
   rw [e]
   exact ⟨hp i j (by omega), (by show (0 : Nat) ≤ 60; omega), fun x hx => (by cases hx), .nil⟩
 · obtain ⟨j, _, e⟩ := h.at_ a (by omega)
   obtain ⟨k, _, e2⟩ := h.at_ b hb
   rw [e, e2]; show ((a : Int) + 1) < (b : Int) + 1; omega
 · obtain ⟨j, _, e⟩ := h.at_ a (by omega)
   obtain ⟨k, _, e2⟩ := h.at_ b hb
   rw [e, e2]; intro _ hq
   have hq : (a : Int) + 1 = (b : Int) + 1 := hq
   omega
 · obtain ⟨j, _, e⟩ := h.at_ a (by omega)
   rw [e]; intro x hx; cases hx
def con9 : RCon := { ps := [.p 77 ySR, .d false (.int .i64)], rs := [.o 75 yCT], pre := fun (x : Src × Int × Unit) => 0 ≤ x.1.2 ∧ 0 ≤ x.2.1 ∧ x.2.1 ≤ 24, rel := fun (x : Src × Int × Unit) (y : List Cnt × Unit) (z : Src × Int × Unit) => 0 ≤ z.1.2 ∧ EmpR x.2.1 y.1 }
theorem c9 : RCtrOk Tryz.prog 9 con9.rctr :=
 rcon_sound (G := ⟨[(17, con17.ctr), (29, con29.ctr)], [], [], []⟩) tab_ok (EnvOk.cons c17 has17 (EnvOk.cons c29 has29 EnvOk.nil)) rfl Tryz.func9 rfl con9 4211 (by kernel_rfl) (by decide) (by decide) rfl (by decide) rfl (by
  rintro ⟨⟨(s : List Int), (a : Int)⟩, (most : Int), _⟩ hpre hwf X hT hG hk hK
  (simp -implicitDefEqProofs only [go_sem, Bool.not_eq_true', Bool.not_eq_false', Bool.or_eq_true, Bool.or_eq_false_iff, Bool.and_eq_true, Bool.and_eq_false_iff, decide_eq_true_eq, decide_eq_false_iff_not, Classical.not_not, not_or, maxLen, con9, con17, con29, hT, hG, hk, hK, Tryz.results9] at hwf ⊢); (try simp (disch := decide +kernel) only [drawn, true_and, and_true])
  obtain ⟨h1, h2, h3⟩ : 0 ≤ a ∧ 0 ≤ most ∧ most ≤ 24 := hpre
  have hs1 : 0 ≤ (Src.step (s, a)).snd := step_pos h1
  have hkb := goMod_bd (Src.raw (s, a)) (most + 1) (by omega)
  generalize goMod (Src.raw (s, a)) (most + 1) = K at hkb ⊢
  generalize Src.step (s, a) = S1 at hs1 ⊢
  obtain ⟨s1, a1⟩ := S1
  (repeat' (with_reducible (first | refine And.intro ?_ ?_ | intro _))) <;> (try (first | with_reducible (first | done | assumption | omega | contradiction) | decide))
  refine evk_loop ⟨{ q : Src × List Cnt × Int // 0 ≤ q.1.2 ∧ EmpR (most - q.2.2) q.2.1 ∧ 0 ≤ q.2.2 }, 1000, fun q => [(0, .one (.loc 0 0)), (5, .one (.row 64)), (6, .one (.int .i64 q.1.2.2))],
   fun q => [(0, .cells 77 [.sl (.int .i64) q.1.1.1 false, .int .i64 q.1.1.2]), (64, .row 75 yCT q.1.2.1)], fun q => q.1.2.2.toNat⟩ ⟨((s1, a1), [], K), hs1, ⟨by simp; omega, fun i hi => (by simp at hi)⟩, hkb.1⟩ ?_ ?_
  · simp only [go_sem]
    try (first | rfl | exact ⟨rfl, rfl⟩ | (and_intros <;> first | trivial | rfl | omega))
  · rintro ⟨⟨⟨s, a⟩, l, k⟩, (h1 : 0 ≤ a), (hI : EmpR (most - k) l), (hk0 : 0 ≤ k)⟩
    (simp -implicitDefEqProofs only [go_sem, Bool.not_eq_true', Bool.not_eq_false', Bool.or_eq_true, Bool.or_eq_false_iff, Bool.and_eq_true, Bool.and_eq_false_iff, decide_eq_true_eq, decide_eq_false_iff_not, Classical.not_not, not_or, maxLen, con9, con17, con29, hT, hG, hk, hK, Tryz.results9]); (try simp (disch := decide +kernel) only [drawn, true_and, and_true])
    have hl := hI.len
    have p1 : 0 ≤ (Src.step (s, a)).snd := step_pos h1
    have r1 := goMod_bd (Src.raw (s, a)) 3 (by omega)
    generalize Src.step (s, a) = S1 at p1 ⊢
    obtain ⟨s1, a1⟩ := S1
    obtain ⟨j, hj⟩ : ∃ j : Nat, goMod (Src.raw (s, a)) 3 = j := ⟨(goMod (Src.raw (s, a)) 3).toNat, by omega⟩
    rw [hj] at r1 ⊢
    (repeat' (with_reducible (first | refine And.intro ?_ ?_ | intro _))) <;> (try (first | with_reducible (first | done | assumption | omega | contradiction) | decide))
    all_goals first
     | (refine fin_lp ⟨((s1, a1), l ++ [empC l.length j], k - 1), p1, ⟨?_, fun i hi => ?_⟩, (by show 0 ≤ k - 1; omega)⟩ ?_ (by dsimp only; omega)
        · rw [List.length_append, List.length_singleton]; dsimp only; omega
        · rw [List.length_append, List.length_singleton] at hi
          by_cases e : i < l.length
          · rw [List.getD_eq_getElem?_getD, List.getElem?_append_left e, ← List.getD_eq_getElem?_getD]; exact hI.at_ i e
          · have e : i = l.length := by omega
            subst e
            rw [List.getD_eq_getElem?_getD, List.getElem?_append_right (Nat.le_refl _), Nat.sub_self]
            exact ⟨j, by omega, rfl⟩
        · simp only [go_sem]
          try (first | rfl | exact ⟨rfl, rfl⟩ | (and_intros <;> first | trivial | rfl | omega))
          done)
     | exact ⟨(l, ()), ((s, a), most, ()), ⟨h1, ⟨(by show (l.length : Int) ≤ most; omega), hI.at_⟩⟩, rfl, rfl, rfl⟩
     | fail)
def con10 : RCon := { ps := [.p 77 ySR, .d false (.sl yCT)], rs := [.d false (.sl yCT)], pre := fun (x : Src × List Cnt × Unit) => 0 ≤ x.1.2 ∧ x.2.1.length ≤ 1000 ∧ ∀ o ∈ x.2.1, o.pcs.length ≤ 1000, rel := fun (x : Src × List Cnt × Unit) (y : List Cnt × Unit) (z : Src × List Cnt × Unit) => 0 ≤ z.1.2 }
theorem c10 : RCtrOk Tryz.prog 10 con10.rctr :=
 rcon_sound (G := ⟨[(17, con17.ctr), (30, con30.ctr), (21, con21.ctr), (31, con31.ctr)], [], [(5, 62), (25, 62), (31, 1), (99, 5), (114, 5), (136, 1)], []⟩) tab_ok (EnvOk.cons c17 has17 (EnvOk.cons c30 has30 (EnvOk.cons c21 has21 (EnvOk.cons c31 has31 EnvOk.nil)))) rfl Tryz.func10 rfl con10 170141264592588371583434028650734820851 (by kernel_rfl) (by decide) (by decide) rfl (by decide) rfl (by
  rintro ⟨⟨(s : List Int), (a : Int)⟩, (l : List Cnt), _⟩ hpre hwf X hT hG hk hK
  (simp -implicitDefEqProofs only [go_sem, Bool.not_eq_true', Bool.not_eq_false', Bool.or_eq_true, Bool.or_eq_false_iff, Bool.and_eq_true, Bool.and_eq_false_iff, decide_eq_true_eq, decide_eq_false_iff_not, Classical.not_not, not_or, maxLen, con10, con17, con30, con21, con31, hT, hG, hk, hK, Tryz.results10] at hwf ⊢); (try simp (disch := decide +kernel) only [drawn, true_and, and_true])
  obtain ⟨h1, h2, h3⟩ : 0 ≤ a ∧ l.length ≤ 1000 ∧ ∀ o ∈ l, o.pcs.length ≤ 1000 := hpre
  refine fun _ => evk_loop ⟨{ i : Nat // i ≤ l.length }, 1000, fun q => [(0, .one (.loc 0 0)), (1, .one (.sl yCT l false)), (5, .one (.row 64)), (10, .one (.int .i64 l.length)), (11, .one (.int .i64 q.1))],
   fun q => [(0, .cells 77 [.sl (.int .i64) s false, .int .i64 a]), (64, .rowg 75 yCT 10 65 ((l.take q.1).map (fun o => setPcs o [])) none), (65, .fam 54 yPC ((l.take q.1).map (fun o => o.pcs)))], fun q => l.length - q.1⟩ ⟨0, Nat.zero_le _⟩ ?_ ?_
  · simp only [go_sem]
    try (first | rfl | exact ⟨rfl, rfl⟩ | (and_intros <;> first | trivial | rfl | omega))
  · rintro ⟨i, (hi : i ≤ l.length)⟩
    (simp -implicitDefEqProofs only [go_sem, Bool.not_eq_true', Bool.not_eq_false', Bool.or_eq_true, Bool.or_eq_false_iff, Bool.and_eq_true, Bool.and_eq_false_iff, decide_eq_true_eq, decide_eq_false_iff_not, Classical.not_not, not_or, maxLen, con10, con17, con30, con21, con31, hT, hG, hk, hK, Tryz.results10]); (try simp (disch := decide +kernel) only [drawn, true_and, and_true])
    obtain ⟨o, ho⟩ : ∃ o, l.getD i ct0 = o := ⟨_, rfl⟩
    have eo : l.getD (i : Int).toNat (0, (ByteArray.empty, 0, ByteArray.empty, 0), 0, 0, 0, 0, 0, []) = o := ho
    try simp only [eo]
    have htl : ((l.take i).map (fun o => setPcs o [])).length = i := by rw [List.length_map, List.length_take]; omega
    have hop : i < l.length → o.pcs.length ≤ 1000 := fun h => h3 o (by rw [← ho]; exact getD_mem h)
    have hts : i < l.length → l.take (i + 1) = l.take i ++ [o] := fun h => by rw [List.take_succ_eq_append_getElem h, ← getD_lt (d := ct0) h, ho]
    have p1 : 0 ≤ (Src.step (s, a)).snd := step_pos h1
    have p2 : 0 ≤ (Src.step (s, a)).step.snd := step_pos p1
    have p3 : 0 ≤ (Src.step (s, a)).step.step.snd := step_pos p2
    have p4 : 0 ≤ (Src.step (s, a)).step.step.step.snd := step_pos p3
    have p5 : 0 ≤ (Src.step (s, a)).step.step.step.step.snd := step_pos p4
    have r1 : 0 < l.length → 0 ≤ goMod (Src.raw (s, a)) l.length ∧ goMod (Src.raw (s, a)) l.length < l.length := fun h => goMod_bd _ _ (by omega)
    simp only [htl]
    refine ⟨fun hlt => ?_, fun hge => ?_⟩
    · have hop : List.length o.2.2.2.2.2.2.2 ≤ 1000 := hop (by omega)
      have e1 := hts (by omega)
      (repeat' (with_reducible (first | refine And.intro ?_ ?_ | intro _))) <;> (try (first | with_reducible (first | done | assumption | omega | contradiction) | decide))
      all_goals first
       | (refine fin_lp ⟨i + 1, by omega⟩ ?_ (by dsimp only; omega)
          simp only [go_sem]
          rw [e1, List.map_append, List.map_append]
          try (first | rfl | exact ⟨rfl, rfl⟩ | (and_intros <;> first | trivial | rfl | omega))
          done)
       | omega
       | fail
    · have ei : l.take i = l := List.take_of_length_le (by omega)
      have eil : i = l.length := by omega
      simp only [eil, List.take_length]
      have hpl : ∀ k : Nat, (((l.map (fun o => o.pcs)).getD k []).length) ≤ 1000 := fun k => by
       by_cases h : k < l.length
       · rw [getD_lt (by rw [List.length_map]; exact h), List.getElem_map]; exact h3 _ (List.getElem_mem h)
       · rw [List.getD_eq_getElem?_getD, List.getElem?_eq_none (by rw [List.length_map]; omega)]; simp
      (repeat' (with_reducible (first | refine And.intro ?_ ?_ | intro _))) <;> (try (first | with_reducible (first | done | assumption | omega | contradiction) | decide))
      all_goals first
       | (have hl0 : 0 < l.length := by omega
          have r1 := r1 hl0
          omega)
       | exact ⟨(_, ()), ((_, _), l, ()), (by first | exact h1 | exact p1 | exact p2 | exact p3 | exact p4 | exact step_pos p1 | exact step_pos p2 | exact step_pos p3 | exact step_pos p4 | exact step_pos p5), rfl, rfl, rfl⟩
       | (have := hpl (goMod (Src.raw (s, a)) l.length).toNat
          omega)
       | (rw [putSls_ct, List.length_map, List.length_zip, List.length_map, List.length_map]; omega)
       | exact p1
       | exact p2
       | exact p3
       | exact p4
       | exact p5
       | fail)
end Go.Proofs.YthiddcobegnokaaGreat
