/- Part. -/
import Derived.Test.YtpglcghgklmedaaGreatOdK4ToKB
import Derived.Test.YtpglcghgklmedaaGreatOdKDToKeys
set_option linter.all false
set_option maxRecDepth 100000
set_option maxHeartbeats 8000000
namespace Go.Proofs.YtpglcghgklmedaaGreat
open Go.Ev
attribute [local go_sem] List.set_cons_succ List.set_cons_zero List.set_nil
def numsIn (c : List Cnt) (l : List Opn) : Bool := l.all (fun o => decide (0 ≤ numIdx c o.box))
def clrC (ps : List Plt) (o : Cnt) : Cnt := setPcs o (o.pcs.filter (fun x => !decide (x.1 ∈ ps)))
def forceAll : List Plc → List Cnt → List Cnt × Int
 | [], out => (out, 0)
 | x :: P, out => if x.2.1 = 0 then forceAll P out else if (forceV (out.getD (numIdx out x.2.1).toNat ct0) x.1).2 ≠ 0 then ([], (forceV (out.getD (numIdx out x.2.1).toNat ct0) x.1).2) else forceAll P (out.set (numIdx out x.2.1).toNat (forceV (out.getD (numIdx out x.2.1).toNat ct0) x.1).1)
def applyV (c : List Cnt) (l : List Opn) : List Cnt × Int :=
 if checkV c ≠ 0 then ([], checkV c) else if valV l ≠ 0 then ([], valV l) else if numsIn c l = false then ([], 6) else forceAll (placesV l) (c.map (clrC ((placesV l).map (fun x => x.1.1))))
theorem fz_in (ps : List Plt) (x : Pce) : fz (setX ps) x = decide (x.1 ∈ ps) := by
 rw [Bool.eq_iff_iff, decide_eq_true_eq]; exact setX_in x.1 ps
theorem numIdx_nums {a b : List Cnt} (h : a.map (fun c => c.num) = b.map (fun c => c.num)) (n : Int) : numIdx a n = numIdx b n := by
 have key : ∀ a : List Cnt, numIdx a n = idxV (fun m => decide (m = n)) (a.map (fun c => c.num)) := fun a => by
  unfold numIdx idxV
  rw [List.findIdx?_map]; rfl
 rw [key, key, h]
theorem placesV_box {l : List Opn} {z : Plc} (h : z ∈ placesV l) : z.2.1 = 0 ∨ ∃ o ∈ l, o.box = z.2.1 := by
 unfold placesV at h
 split at h
 · cases h
 · obtain ⟨p, hp, rfl⟩ := List.mem_map.1 h
   have hne := about_ne hp
   unfold placeV
   dsimp only
   split
   · right
     have hl : 0 < (aboutP l p).length := List.length_pos_iff.2 hne
     have hm : (aboutP l p).getD ((aboutP l p).length - 1) o0 ∈ aboutP l p := getD_mem (by omega)
     exact ⟨_, (List.mem_filter.1 hm).1, rfl⟩
   · exact .inl rfl
theorem forceV_num {c : Cnt} {x : Pce} (h : (forceV c x).2 = 0) : (forceV c x).1.num = c.num := by
 unfold forceV at h ⊢
 split at h
 · rename_i q; exact absurd h q
 · rename_i q
   rw [if_neg q]
   split at h
   · cases h
   · rename_i q2
     rw [if_neg q2]
     split at h
     · cases h
     · rename_i q3
       rw [if_neg q3]
       split at h
       · cases h
       · rename_i q4
         rw [if_neg q4]; rfl
def con18 : Con := { ps := [.d false (.sl yCT), .d false (.sl yOP)], rs := [.d false (.sl yCT), .d false (.int .i64)], pre := fun _ => True, out := fun (x : List Cnt × List Opn × Unit) => ((applyV x.1 x.2.1).1, (applyV x.1 x.2.1).2, ()), nw := id }
theorem c18 : CtrOk Tryz.prog 18 con18.ctr :=
 con_sound (G := ⟨[(28, con28.ctr), (24, con24.ctr), (48, conNum.ctr), (8, con8.ctr), (49, con49.ctr), (50, con50.ctr), (41, conM41.ctr), (51, con51.ctr), (11, con11.ctr)], [], [], [], []⟩) tab_ok (EnvOk.cons c28 has28 (EnvOk.cons c24 has24 (EnvOk.cons cNum has48 (EnvOk.cons c8 has8 (EnvOk.cons c49 has49 (EnvOk.cons c50 has50 (EnvOk.cons cM41 has41 (EnvOk.cons c51 has51 (EnvOk.cons c11 has11 EnvOk.nil))))))))) rfl Tryz.func18 rfl con18 5070684305653338455940848873203 (by kernel_rfl) (by decide) (by decide) rfl (by decide) rfl (by
  rintro ⟨(c : List Cnt), (l : List Opn), _⟩ hpre hwf X hT hG hk hK
  (simp -implicitDefEqProofs only [go_sem, bP, con18, con28, con24, conNum, con8, con49, con50, conM41, con51, con11, hT, hG, hk, hK, Tryz.results18, conNumO, conNumD] at hwf ⊢); (try simp (disch := decide +kernel) only [drawn, true_and, and_true])
  clear hwf
  refine fun _ => ⟨fun h => ?_, fun h1 _ => ⟨fun h2 => ?_, fun h2 hll => ?_⟩⟩
  · have e : applyV c l = ([], checkV c) := by unfold applyV; rw [if_pos h]
    rw [e]; exact ⟨rfl, rfl⟩
  · have e : applyV c l = ([], valV l) := by unfold applyV; rw [if_neg (by simp [h1]), if_pos h2]
    rw [e]; exact ⟨rfl, rfl⟩
  · have hok := checkV_iff.1 h1
    have hcl := hok.len
    have hcp : ∀ o ∈ c, o.pcs.length ≤ 60 := fun o ho => (hok.ok o ho).2.1
    have hA : applyV c l = if numsIn c l = false then ([], 6) else forceAll (placesV l) (c.map (clrC ((placesV l).map (fun x => x.1.1)))) := by
     unfold applyV; rw [if_neg (by simp [h1]), if_neg (by simp [h2])]
    refine evk_loop ⟨{ i : Nat // i ≤ l.length ∧ ∀ k, k < i → 0 ≤ numIdx c (l.getD k o0).box }, 1000, fun q => [(0, .one (.sl yCT c false)), (1, .one (.sl yOP l false)), (31, .one (.sl yOP l false)), (32, .one (.int .i64 l.length)), (33, .one (.int .i64 q.1))], fun q => [], fun q => l.length - q.1⟩ ⟨0, Nat.zero_le _, fun k hk => by omega⟩ ?_ ?_
    · simp only [go_sem]
      try first | rfl | (and_intros <;> first | trivial | rfl | omega)
    · rintro ⟨i, (hi : i ≤ l.length), hz⟩
      have hz : ∀ k, k < i → 0 ≤ numIdx c (l.getD k o0).box := hz
      (simp -implicitDefEqProofs only [go_sem, bP, con18, con28, con24, conNum, con8, con49, con50, conM41, con51, con11, hT, hG, hk, hK, Tryz.results18, conNumO, conNumD]); (try simp (disch := decide +kernel) only [drawn, true_and, and_true])
      obtain ⟨o, ho⟩ : ∃ o, l.getD i o0 = o := ⟨_, rfl⟩
      have eo : l.getD (i : Int).toNat (0, 0, 0, 0, 0, (0, 0, 0), 0, 0) = o := ho
      try simp only [eo]
      (repeat' with_reducible first | refine And.intro ?_ ?_ | intro _) <;> try first | with_reducible (first | assumption | omega | contradiction) | decide
      all_goals first
       | (have hq : numIdx c o.2.2.2.2.1 < 0 := by assumption
          have e : applyV c l = ([], 6) := by
           rw [hA, if_pos]
           unfold numsIn
           rw [List.all_eq_false]
           exact ⟨o, by rw [← ho]; exact getD_mem (by omega), by rw [decide_eq_true_eq]; show ¬ 0 ≤ numIdx c o.2.2.2.2.1; omega⟩
          first | (rw [e]; done) | (rw [e]; rfl))
       | (have hq : ¬ numIdx c o.2.2.2.2.1 < 0 := by assumption
          refine fin_lp ⟨i + 1, (by omega), lt_succ' hz (by rw [ho]; show 0 ≤ numIdx c o.2.2.2.2.1; omega)⟩ ?_ (by dsimp only; omega)
          simp only [go_sem]
          try first | rfl | (and_intros <;> first | trivial | rfl | omega)
          done)
       | (have hni : ∀ o ∈ l, 0 ≤ numIdx c o.box := fun o ho => by
           obtain ⟨k, hk2, rfl⟩ := mem_getD (d := o0) ho
           exact hz k (by omega)
          have hA2 : applyV c l = forceAll (placesV l) (c.map (clrC ((placesV l).map (fun x => x.1.1)))) := by
           rw [hA, if_neg]
           unfold numsIn
           rw [Bool.not_eq_false, List.all_eq_true]
           exact fun o ho => decide_eq_true (hni o ho)
          have hbx : ∀ z ∈ placesV l, z.2.1 = 0 ∨ 0 ≤ numIdx c z.2.1 := fun z hz => by
           rcases placesV_box hz with h | ⟨o, ho, h⟩
           · exact .inl h
           · exact .inr (by rw [← h]; exact hni o ho)
          have hPl := placesV_len l
          generalize hPe : placesV l = P at hA2 hbx hPl ⊢
          obtain ⟨ps, hps⟩ : ∃ ps : List Plt, P.map (fun x => x.1.1) = ps := ⟨_, rfl⟩
          rw [hps] at hA2
          refine evk_loop ⟨{ i : Nat // i ≤ P.length }, 1000, fun q => [(0, .one (.sl yCT c false)), (10, .one (.sl yPM P false)), (11, .one (.loc 70 0)), (46, .one (.sl yPM P false)), (47, .one (.int .i64 P.length)), (48, .one (.int .i64 q.1))], fun q => [(70, .cells 103 [.map 71]), (71, .mapb yPL .unit true true (setX ((P.take q.1).map (fun x => x.1.1))))], fun q => P.length - q.1⟩ ⟨0, Nat.zero_le _⟩ ?_ ?_
          · simp only [go_sem]
            try first | rfl | (and_intros <;> first | trivial | rfl | omega)
          · rintro ⟨i, (hi : i ≤ P.length)⟩
            (simp -implicitDefEqProofs only [go_sem, bP, con18, con28, con24, conNum, con8, con49, con50, conM41, con51, con11, hT, hG, hk, hK, Tryz.results18, conNumO, conNumD]); (try simp (disch := decide +kernel) only [drawn, true_and, and_true])
            obtain ⟨o, ho⟩ : ∃ o, P.getD i pm0 = o := ⟨_, rfl⟩
            have eo : P.getD (i : Int).toNat (((0, 0, 0), 0, 0), 0, []) = o := ho
            try simp only [eo]
            have hsx : i < P.length → setX ((P.take (i + 1)).map (fun x => x.1.1)) = mset (kt := yPL) (setX ((P.take i).map (fun x => x.1.1))) o.1.1 () := fun h => by
             rw [← setX_push, List.take_succ_eq_append_getElem h, List.map_append, ← getD_lt (d := pm0) h, ho]; rfl
            (repeat' with_reducible first | refine And.intro ?_ ?_ | intro _) <;> try first | with_reducible (first | assumption | omega | contradiction) | decide
            all_goals first
             | (have e1 := hsx (by omega)
                refine fin_lp ⟨i + 1, by omega⟩ ?_ (by dsimp only; omega)
                simp only [go_sem]
                rw [e1]
                try first | rfl | (and_intros <;> first | trivial | rfl | omega)
                done)
             | omega
             | (have e4 : P.take i = P := List.take_of_length_le (by omega)
                simp only [e4, hps]
                refine evk_loop ⟨{ i : Nat // i ≤ c.length }, 1000, fun q => [(10, .one (.sl yPM P false)), (11, .one (.loc 70 0)), (14, .one (.row 73)), (61, .one (.int .i64 c.length)), (62, .one (.int .i64 q.1))], fun q => [(70, .cells 103 [.map 71]), (71, .mapb yPL .unit true true (setX ps)), (73, .row 31 yCT ((c.take q.1).map (clrC ps) ++ c.drop q.1))], fun q => c.length - q.1⟩ ⟨0, Nat.zero_le _⟩ ?_ ?_
                · simp only [go_sem]
                  try first | rfl | (and_intros <;> first | trivial | rfl | omega)
                · rintro ⟨i, (hi : i ≤ c.length)⟩
                  (simp -implicitDefEqProofs only [go_sem, bP, con18, con28, con24, conNum, con8, con49, con50, conM41, con51, con11, hT, hG, hk, hK, Tryz.results18, conNumO, conNumD]); (try simp (disch := decide +kernel) only [drawn, true_and, and_true])
                  obtain ⟨o, ho⟩ : ∃ o, c.getD i ct0 = o := ⟨_, rfl⟩
                  have hrl : ((c.take i).map (clrC ps) ++ c.drop i).length = c.length := by simp; omega
                  have hro : i < c.length → ((c.take i).map (clrC ps) ++ c.drop i).getD (i : Int).toNat (0, (ByteArray.empty, 0, ByteArray.empty, 0), 0, 0, 0, 0, 0, []) = o := fun h => by
                   rw [show (i : Int).toNat = i by omega, List.getD_eq_getElem?_getD, List.getElem?_append_right (by simp; omega), List.length_map, List.length_take, show i - min i c.length = 0 by omega, List.getElem?_drop, Nat.add_zero, ← ho, List.getD_eq_getElem?_getD]; rfl
                  have hsx : i < c.length → ((c.take i).map (clrC ps) ++ c.drop i).set (i : Int).toNat (clrC ps o) = (c.take (i + 1)).map (clrC ps) ++ c.drop (i + 1) := fun h => by
                   rw [show (i : Int).toNat = i by omega, List.set_append_right _ _ (by simp; omega), List.length_map, List.length_take, show i - min i c.length = 0 by omega, List.drop_eq_getElem_cons h, List.set_cons_zero, List.take_succ_eq_append_getElem h, List.map_append, ← getD_lt (d := ct0) h, ho]; simp
                  simp only [hrl]
                  refine ⟨fun hlt => ?_, fun hge => ?_⟩
                  · have hro := hro (by omega)
                    have hsx := hsx (by omega)
                    have hop := hcp o (by rw [← ho]; exact getD_mem (by omega))
                    have hop2 : List.length o.2.2.2.2.2.2.2 ≤ 60 := hop
                    have ec : (o.1, o.2.1, o.2.2.1, o.2.2.2.1, o.2.2.2.2.1, o.2.2.2.2.2.1, o.2.2.2.2.2.2.1, List.filter (fun x => !fz (setX ps) x) o.2.2.2.2.2.2.2) = clrC ps o := by
                     unfold clrC setPcs
                     simp only [fz_in]
                    simp only [hro]
                    (repeat' with_reducible first | refine And.intro ?_ ?_ | intro _) <;> try first | with_reducible (first | assumption | omega | contradiction) | decide
                    all_goals first
                     | (refine fin_lp ⟨i + 1, by omega⟩ ?_ (by dsimp only; omega)
                        simp only [go_sem]
                        simp only [ec, hsx]
                        try first | rfl | (and_intros <;> first | trivial | rfl | omega)
                        done)
                     | omega
                  · have e4 : (c.take i).map (clrC ps) ++ c.drop i = c.map (clrC ps) := by
                     rw [List.take_of_length_le (by omega), List.drop_of_length_le (by omega), List.append_nil]
                    simp only [e4]
                    (repeat' with_reducible first | refine And.intro ?_ ?_ | intro _) <;> try first | with_reducible (first | assumption | omega | contradiction) | decide
                    all_goals first
                     | omega
                     | (refine evk_loop ⟨{ q : Nat × List Cnt // q.1 ≤ P.length ∧ forceAll (P.drop q.1) q.2 = forceAll P (c.map (clrC ps)) ∧ q.2.map (fun c => c.num) = c.map (fun c => c.num) }, 1000, fun q => [(10, .one (.sl yPM P false)), (14, .one (.row 73)), (78, .one (.sl yPM P false)), (79, .one (.int .i64 P.length)), (80, .one (.int .i64 q.1.1))], fun q => [(73, .row 31 yCT q.1.2)], fun q => P.length - q.1.1⟩ ⟨(0, c.map (clrC ps)), Nat.zero_le _, rfl, by rw [List.map_map]; rfl⟩ ?_ ?_
                        · simp only [go_sem]
                          try first | rfl | (and_intros <;> first | trivial | rfl | omega)
                        · rintro ⟨⟨j, R⟩, (hj : j ≤ P.length), (hf : forceAll (P.drop j) R = forceAll P (c.map (clrC ps))), (hnm : R.map (fun c => c.num) = c.map (fun c => c.num))⟩
                          (simp -implicitDefEqProofs only [go_sem, bP, con18, con28, con24, conNum, con8, con49, con50, conM41, con51, con11, hT, hG, hk, hK, Tryz.results18, conNumO, conNumD]); (try simp (disch := decide +kernel) only [drawn, true_and, and_true])
                          have hRl : R.length = c.length := by have := congrArg List.length hnm; rw [List.length_map, List.length_map] at this; exact this
                          obtain ⟨o, ho⟩ : ∃ o, P.getD j pm0 = o := ⟨_, rfl⟩
                          have eo : P.getD (j : Int).toNat (((0, 0, 0), 0, 0), 0, []) = o := ho
                          have hbo : j < P.length → o.2.1 = 0 ∨ 0 ≤ numIdx R o.2.1 := fun h => by
                           rw [numIdx_nums hnm]; exact hbx o (by rw [← ho]; exact getD_mem h)
                          have hsp : 0 ≤ numIdx R o.2.1 → (numIdx R o.2.1).toNat < R.length := fun h => (idxV_spec (d := ct0) h).1
                          have hdr : j < P.length → P.drop j = o :: P.drop (j + 1) := fun h => by rw [List.drop_eq_getElem_cons h, ← getD_lt (d := pm0) h, ho]
                          simp only [eo]
                          obtain ⟨q, hq⟩ : ∃ q, R.getD (numIdx R o.2.1).toNat ct0 = q := ⟨_, rfl⟩
                          have eq1 : R.getD (numIdx R o.2.1).toNat (0, (ByteArray.empty, 0, ByteArray.empty, 0), 0, 0, 0, 0, 0, []) = q := hq
                          have eO : ((o.1.1.1, o.1.1.2.1, o.1.1.2.2), o.1.2.1, o.1.2.2) = o.1 := rfl
                          have eQ : (q.1, (q.2.1.1, q.2.1.2.1, q.2.1.2.2.1, q.2.1.2.2.2), q.2.2.1, q.2.2.2.1, q.2.2.2.2.1, q.2.2.2.2.2.1, q.2.2.2.2.2.2.1, q.2.2.2.2.2.2.2) = q := rfl
                          try simp only [eq1, eO, eQ]
                          obtain ⟨W, hW⟩ : ∃ W, forceV q o.1 = W := ⟨_, rfl⟩
                          try simp only [hW]
                          have hst : j < P.length → forceAll (P.drop j) R = if o.2.1 = 0 then forceAll (P.drop (j + 1)) R else if W.2 ≠ 0 then ([], W.2) else forceAll (P.drop (j + 1)) (R.set (numIdx R o.2.1).toNat W.1) := fun h => by
                           rw [hdr h, forceAll, hq, hW]
                          (repeat' with_reducible first | refine And.intro ?_ ?_ | intro _) <;> try first | with_reducible (first | assumption | omega | contradiction) | decide
                          all_goals first
                           | (have h0 : o.2.1 = 0 := by assumption
                              have hst := hst (by omega)
                              rw [if_pos h0] at hst
                              refine fin_lp ⟨(j + 1, R), (by show j + 1 ≤ P.length; omega), hst.symm.trans hf, hnm⟩ ?_ (by dsimp only; omega)
                              simp only [go_sem]
                              try first | rfl | (and_intros <;> first | trivial | rfl | omega)
                              done)
                           | (have h0 : ¬ o.2.1 = 0 := by assumption
                              have h5 : W.2 = 0 := by assumption
                              have hst := hst (by omega)
                              rw [if_neg h0, if_neg (by simp [h5])] at hst
                              have hb := (hbo (by omega)).resolve_left h0
                              have hsp := hsp hb
                              refine fin_lp ⟨(j + 1, R.set (numIdx R o.2.1).toNat W.1), (by show j + 1 ≤ P.length; omega), hst.symm.trans hf, ?_⟩ ?_ (by dsimp only; omega)
                              · show (R.set _ _).map _ = _
                                rw [List.map_set, ← hnm]
                                have hWn : W.1.num = q.num := by rw [← hW]; exact forceV_num (by rw [hW]; exact h5)
                                rw [hWn, ← hq]
                                refine List.ext_getElem (by simp) fun k h1 h2 => ?_
                                rw [List.getElem_set]
                                split
                                · rename_i e; subst e; rw [List.getElem_map, getD_lt (d := ct0) hsp]
                                · rfl
                              · simp only [go_sem]
                                try first | rfl | (and_intros <;> first | trivial | rfl | omega)
                                done)
                           | (have h0 : ¬ o.2.1 = 0 := by assumption
                              have h5 : ¬ W.2 = 0 := by assumption
                              have hst := hst (by omega)
                              rw [if_neg h0, if_pos h5] at hst
                              have e : applyV c l = ([], W.2) := by rw [hA2, ← hf, hst]
                              first | (rw [e]; done) | (rw [e]; rfl))
                           | (have h0 : ¬ o.2.1 = 0 := by assumption
                              have hb := (hbo (by omega)).resolve_left h0
                              have hsp := hsp hb
                              omega)
                           | omega
                           | (have e5 : P.drop j = [] := List.drop_of_length_le (by omega)
                              have e : applyV c l = (R, 0) := by rw [hA2, ← hf, e5]; rfl
                              first | (rw [e]; done) | (rw [e]; rfl))))))
end Go.Proofs.YtpglcghgklmedaaGreat

set_option maxRecDepth 100000
set_option maxHeartbeats 8000000
namespace Go.Proofs.YtpglcghgklmedaaGreat
open Go.Ev
attribute [local go_sem] List.set_cons_succ List.set_cons_zero List.getD_cons_succ List.getD_cons_zero List.set_nil
end Go.Proofs.YtpglcghgklmedaaGreat

set_option maxRecDepth 100000
set_option maxHeartbeats 8000000
namespace Go.Proofs.YtpglcghgklmedaaGreat
open Go.Ev
attribute [local go_sem] List.set_cons_succ List.set_cons_zero List.getD_cons_succ List.getD_cons_zero List.set_nil
def empC (i j : Nat) : Cnt := ((i : Int) + 1, fltsV j, 31, 500, 20, (i : Int) + 1, 0, [])
structure EmpR (most : Int) (l : List Cnt) : Prop where
 len : (l.length : Int) ≤ most
 at_ : ∀ i, i < l.length → ∃ j : Nat, j < 3 ∧ l.getD i ct0 = empC i j
theorem EmpR.ok {most : Int} {l : List Cnt} (h : EmpR most l) (hm : most ≤ 24) : CtsOk l := by
 have hl := h.len
 have hp : ∀ i j : Nat, i < 24 → propC (empC i j) = true := fun i j hi => by
  unfold propC inV empC
  simp only [Cnt.num, Cnt.flt, Cnt.cats, Cnt.lim, Cnt.most, Cnt.pos, Cnt.arm, fltsV_ok, Bool.and_eq_true, decide_eq_true_eq, and_true]
  omega
 refine ⟨by omega, fun c hc => ?_, (pw_getD ct0).2 fun a b hab hb => ?_, (pw_getD ct0).2 fun a b hab hb => ?_, (pw_getD ct0).2 fun a b hab hb => ?_⟩
 · obtain ⟨i, hi, rfl⟩ := getD_ct hc
   obtain ⟨j, _, e⟩ := h.at_ i hi
   rw [e]
   exact ⟨hp i j (by omega), (by show (0 : Nat) ≤ 60; omega), fun x hx => (by cases hx), .nil⟩
 · obtain ⟨j, _, e⟩ := h.at_ a (by omega)
   obtain ⟨k, _, e2⟩ := h.at_ b hb
   rw [e, e2]; show ((a : Int) + 1) < (b : Int) + 1; omega
 · obtain ⟨j, _, e⟩ := h.at_ a (by omega)
   obtain ⟨k, _, e2⟩ := h.at_ b hb
   rw [e, e2]; intro _ hq
   have hq : (a : Int) + 1 = (b : Int) + 1 := hq
   omega
 · obtain ⟨j, _, e⟩ := h.at_ a (by omega)
   rw [e]; intro x hx; cases hx
def con16 : RCon := { ps := [.p 67 ySR, .d false (.int .i64)], rs := [.o 31 yCT], pre := fun (x : Src × Int × Unit) => 0 ≤ x.1.2 ∧ 0 ≤ x.2.1 ∧ x.2.1 ≤ 24, rel := fun (x : Src × Int × Unit) (y : List Cnt × Unit) (z : Src × Int × Unit) => 0 ≤ z.1.2 ∧ EmpR x.2.1 y.1 }
theorem c16 : RCtrOk Tryz.prog 16 con16.rctr :=
 rcon_sound (G := ⟨[(22, con22.ctr), (6, con6.ctr)], [], [], [], []⟩) tab_ok (EnvOk.cons c22 has22 (EnvOk.cons c6 has6 EnvOk.nil)) rfl Tryz.func16 rfl con16 4211 (by kernel_rfl) (by decide) (by decide) rfl (by decide) rfl (by
  rintro ⟨⟨(s : List Int), (a : Int)⟩, (most : Int), _⟩ hpre hwf X hT hG hk hK
  (simp -implicitDefEqProofs only [go_sem, bP, con16, con22, con6, hT, hG, hk, hK, Tryz.results16] at hwf ⊢)
  obtain ⟨h1, h2, h3⟩ : 0 ≤ a ∧ 0 ≤ most ∧ most ≤ 24 := hpre
  have hs1 : 0 ≤ (Src.step (s, a)).snd := step_pos h1
  have hkb := goMod_bd (Src.raw (s, a)) (most + 1) (by omega)
  generalize goMod (Src.raw (s, a)) (most + 1) = K at hkb ⊢
  generalize Src.step (s, a) = S1 at hs1 ⊢
  obtain ⟨s1, a1⟩ := S1
  (repeat' with_reducible first | refine And.intro ?_ ?_ | intro _) <;> try first | with_reducible (first | assumption | omega | contradiction) | decide
  refine evk_loop ⟨{ q : Src × List Cnt × Int // 0 ≤ q.1.2 ∧ EmpR (most - q.2.2) q.2.1 ∧ 0 ≤ q.2.2 }, 1000, fun q => [(0, .one (.loc 0 0)), (5, .one (.row 64)), (6, .one (.int .i64 q.1.2.2))],
   fun q => [(0, .cells 67 [.sl (.int .i64) q.1.1.1 false, .int .i64 q.1.1.2]), (64, .row 31 yCT q.1.2.1)], fun q => q.1.2.2.toNat⟩ ⟨((s1, a1), [], K), hs1, ⟨by simp; omega, fun i hi => (by simp at hi)⟩, hkb.1⟩ ?_ ?_
  · simp only [go_sem]
    try first | rfl | (and_intros <;> first | trivial | rfl | omega)
  · rintro ⟨⟨⟨s, a⟩, l, k⟩, (h1 : 0 ≤ a), (hI : EmpR (most - k) l), (hk0 : 0 ≤ k)⟩
    (simp -implicitDefEqProofs only [go_sem, bP, con16, con22, con6, hT, hG, hk, hK, Tryz.results16])
    have hl := hI.len
    have p1 : 0 ≤ (Src.step (s, a)).snd := step_pos h1
    have r1 := goMod_bd (Src.raw (s, a)) 3 (by omega)
    generalize Src.step (s, a) = S1 at p1 ⊢
    obtain ⟨s1, a1⟩ := S1
    obtain ⟨j, hj⟩ : ∃ j : Nat, goMod (Src.raw (s, a)) 3 = j := ⟨(goMod (Src.raw (s, a)) 3).toNat, by omega⟩
    rw [hj] at r1 ⊢
    (repeat' with_reducible first | refine And.intro ?_ ?_ | intro _) <;> try first | with_reducible (first | assumption | omega | contradiction) | decide
    all_goals first
     | (refine fin_lp ⟨((s1, a1), l ++ [empC l.length j], k - 1), p1, ⟨?_, fun i hi => ?_⟩, (by show 0 ≤ k - 1; omega)⟩ ?_ (by dsimp only; omega)
        · rw [List.length_append, List.length_singleton]; dsimp only; omega
        · rw [List.length_append, List.length_singleton] at hi
          by_cases e : i < l.length
          · rw [List.getD_eq_getElem?_getD, List.getElem?_append_left e, ← List.getD_eq_getElem?_getD]; exact hI.at_ i e
          · have e : i = l.length := by omega
            subst e
            rw [List.getD_eq_getElem?_getD, List.getElem?_append_right (Nat.le_refl _), Nat.sub_self]
            exact ⟨j, by omega, rfl⟩
        · simp only [go_sem]
          try first | rfl | (and_intros <;> first | trivial | rfl | omega)
          done)
     | exact ⟨(l, ()), ((s, a), most, ()), ⟨h1, ⟨(by show (l.length : Int) ≤ most; omega), hI.at_⟩⟩, rfl, rfl, rfl⟩)
end Go.Proofs.YtpglcghgklmedaaGreat

set_option maxRecDepth 100000
set_option maxHeartbeats 4000000
namespace Go.Proofs.YtpglcghgklmedaaGreat
open Go.Ev
theorem ctAt {l : List Cnt} {k i : Nat} {o : Cnt} (hk : k < l.length) : (l.set k o).getD i ct0 = if i = k then o else l.getD i ct0 := by
 rw [List.getD_eq_getElem?_getD, List.getElem?_set, List.getD_eq_getElem?_getD]
 by_cases h : i = k
 · subst h; rw [if_pos rfl, if_pos rfl, if_pos hk]; rfl
 · rw [if_neg (fun e => h e.symm), if_neg h]
structure PInv (c : List Cnt) (n : Nat) (S : Nat → Pce → Prop) (w : List Cnt) : Prop where
 len : w.length = c.length
 same : ∀ k, k < c.length → w.getD k ct0 = setPcs (c.getD k ct0) (w.getD k ct0).pcs
 ok : ∀ k, k < c.length → ctErr (w.getD k ct0) = 0
 sz : ∀ k, k < c.length → (w.getD k ct0).pcs.length ≤ n
 mem : ∀ k, k < c.length → ∀ x, x ∈ (w.getD k ct0).pcs ↔ S k x
theorem okOp_pc {o : Opn} (h : okOp o = true) : okPc o.2.2.2.2.2 = true := by
 unfold okOp at h
 simp only [Bool.and_eq_true] at h
 exact h.2
theorem PInv.upd {c : List Cnt} {n n' : Nat} {S S' : Nat → Pce → Prop} {w : List Cnt} (h : PInv c n S w) {k : Nat} (hk : k < c.length) {l : List Pce} (hok : ctErr (setPcs (w.getD k ct0) l) = 0) (hsz : l.length ≤ n') (hn : n ≤ n') (hS : ∀ j, j < c.length → j ≠ k → ∀ x, S' j x ↔ S j x) (hm : ∀ x, x ∈ l ↔ S' k x) : PInv c n' S' (w.set k (setPcs (w.getD k ct0) l)) := by
 have hw : k < w.length := by rw [h.len]; exact hk
 refine ⟨by rw [List.length_set]; exact h.len, fun j hj => ?_, fun j hj => ?_, fun j hj => ?_, fun j hj x => ?_⟩ <;> rw [ctAt hw] <;> by_cases e : j = k
 · subst e; rw [if_pos rfl, h.same j hj]; rfl
 · rw [if_neg e]; exact h.same j hj
 · rw [if_pos e]; exact hok
 · rw [if_neg e]; exact h.ok j hj
 · rw [if_pos e]; exact hsz
 · rw [if_neg e]; exact Nat.le_trans (h.sz j hj) hn
 · subst e; rw [if_pos rfl]; exact hm x
 · rw [if_neg e]; exact (h.mem j hj x).trans (hS j hj e x).symm
theorem PInv.imp {c : List Cnt} {n n' : Nat} {S S' : Nat → Pce → Prop} {w : List Cnt} (h : PInv c n S w) (hn : n ≤ n') (hS : ∀ j, j < c.length → ∀ x, S' j x ↔ S j x) : PInv c n' S' w :=
 ⟨h.len, h.same, h.ok, fun k hk => Nat.le_trans (h.sz k hk) hn, fun k hk x => (h.mem k hk x).trans (hS k hk x).symm⟩
theorem hasP_iff {l : List Pce} {p : Plt} : hasP l p = true ↔ ∃ x ∈ l, x.1 = p := by
 unfold hasP
 rw [List.any_eq_true]
 exact ⟨fun ⟨x, h, e⟩ => ⟨x, h, of_decide_eq_true e⟩, fun ⟨x, h, e⟩ => ⟨x, h, decide_eq_true e⟩⟩
theorem insP_mem {l : List Pce} {x y : Pce} : y ∈ insP l x ↔ y = x ∨ y ∈ l := by
 unfold insP
 conv => rhs; rw [← List.take_append_drop (posP l x.1) l]
 rw [List.mem_append, List.mem_append, List.mem_cons]
 constructor
 · rintro (h | h | h)
   · exact .inr (.inl h)
   · exact .inl h
   · exact .inr (.inr h)
 · rintro (h | h | h)
   · exact .inr (.inl h)
   · exact .inl h
   · exact .inr (.inr h)
theorem insP_len (l : List Pce) (x : Pce) : (insP l x).length = l.length + 1 := by
 unfold insP
 have := posP_le l x.1
 rw [List.length_append, List.length_take, List.length_cons, List.length_drop]; omega
theorem insP_srt {l : List Pce} {x : Pce} (hs : PcSrt l) (h : hasP l x.1 = false) : PcSrt (insP l x) := by
 have hle := posP_le l x.1
 have hap := (pw_getD pc0).1 hs
 have hlt : ∀ k, posP l x.1 ≤ k → k < l.length → pltC x.1 (l.getD k pc0).1 < 0 := fun k h1 h2 => by
  have hd := posP_drop l x.1 (by omega)
  have hne : ¬ (l.getD (posP l x.1) pc0).1 = x.1 := fun e => by
   rw [hasP_pos hs, decide_eq_true (by omega : posP l x.1 < l.length), decide_eq_true e] at h; cases h
  have h3 : pltC x.1 (l.getD (posP l x.1) pc0).1 < 0 := by
   have h0 : ¬ pltC (l.getD (posP l x.1) pc0).1 x.1 = 0 := fun e => hne ((pltC_cmp.eq _ _).1 e)
   exact (pltC_cmp.anti _ _).2 (by omega)
  by_cases e : posP l x.1 = k
  · rw [← e]; exact h3
  · exact pltC_cmp.trans _ _ _ h3 (hap (posP l x.1) k (by omega) h2)
 unfold insP PcSrt
 refine List.pairwise_append.2 ⟨hs.sublist (List.take_sublist _ _), List.pairwise_cons.2 ⟨fun y hy => ?_, hs.sublist (List.drop_sublist _ _)⟩, fun a ha b hb => ?_⟩
 · obtain ⟨k, hk, rfl⟩ := getD_pc hy
   rw [List.length_drop] at hk
   rw [List.getD_eq_getElem?_getD, List.getElem?_drop, ← List.getD_eq_getElem?_getD]
   exact hlt _ (by omega) (by omega)
 · obtain ⟨k, hk, rfl⟩ := getD_pc ha
   rw [List.length_take] at hk
   rw [List.getD_eq_getElem?_getD, List.getElem?_take_of_lt (by omega), ← List.getD_eq_getElem?_getD]
   rcases List.mem_cons.1 hb with rfl | hb
   · exact posP_take l b.1 k (by omega)
   · obtain ⟨j, hj, rfl⟩ := getD_pc hb
     rw [List.length_drop] at hj
     rw [List.getD_eq_getElem?_getD (l := List.drop _ _), List.getElem?_drop, ← List.getD_eq_getElem?_getD]
     exact hap k _ (by omega) (by omega)
theorem ins_ok {c : Cnt} (h : ctErr c = 0) {x : Pce} (hx : okPc x = true) (hh : hasP c.pcs x.1 = false) (hl : c.pcs.length < 60) : ctErr (setPcs c (insP c.pcs x)) = 0 := by
 obtain ⟨h1, h2, h3⟩ := ctErr_iff.1 h
 refine ctErr_iff.2 ⟨h1, (by show (insP c.pcs x).length ≤ 60; rw [insP_len]; omega), fun y hy => ?_, insP_srt h3.srt hh⟩
 rcases insP_mem.1 hy with rfl | hy
 · exact hx
 · exact h3.ok y hy
theorem forceV_ok {c : Cnt} (h : ctErr c = 0) {x : Pce} (hx : okPc x = true) (hh : hasP c.pcs x.1 = false) (hl : c.pcs.length < 60) : forceV c x = (setPcs c (insP c.pcs x), 0) := by
 unfold forceV
 rw [if_neg (by simp [h]), if_neg (by simp [hx]), if_neg (by simp [hh]), if_neg (by omega)]
theorem PInv.ins {c : List Cnt} {n : Nat} {S : Nat → Pce → Prop} {w : List Cnt} (h : PInv c n S w) (hn : n < 60) {k : Nat} (hk : k < c.length) {x : Pce} (hx : okPc x = true) (hh : ∀ y, S k y → y.1 ≠ x.1) {S' : Nat → Pce → Prop} (hS : ∀ j, j < c.length → j ≠ k → ∀ x, S' j x ↔ S j x) (hm : ∀ y, S' k y ↔ y = x ∨ S k y) :
 (forceV (w.getD k ct0) x).2 = 0 ∧ PInv c (n + 1) S' (w.set k (forceV (w.getD k ct0) x).1) := by
 have hb : hasP (w.getD k ct0).pcs x.1 = false := by
  cases e : hasP (w.getD k ct0).pcs x.1
  · rfl
  · obtain ⟨y, hy, e⟩ := hasP_iff.1 e
    exact absurd e (hh y ((h.mem k hk y).1 hy))
 have hl := h.sz k hk
 rw [forceV_ok (h.ok k hk) hx hb (by omega)]
 refine ⟨rfl, h.upd hk (ins_ok (h.ok k hk) hx hb (by omega)) (by rw [insP_len]; omega) (by omega) hS fun y => ?_⟩
 rw [insP_mem, h.mem k hk, hm]
def LastL (m : List Opn) (k : Nat) (x : Pce) : Prop := ∃ o, (aboutP m x.1).getLast? = some o ∧ o.kind = 1 ∧ o.box = (k : Int) + 1 ∧ o.2.2.2.2.2 = x
theorem lastL_nil (k : Nat) (x : Pce) : ¬ LastL [] k x := fun ⟨o, h, _⟩ => by cases h
theorem lastL_places {l : List Opn} (hv : valV l = 0) (k : Nat) (x : Pce) : LastL l k x ↔ ∃ z ∈ placesV l, z.2.1 = (k : Int) + 1 ∧ z.1 = x := by
 have hlast : ∀ p, aboutP l p ≠ [] → (aboutP l p).getLast? = some ((aboutP l p).getD ((aboutP l p).length - 1) o0) := fun p hp => by
  have hl : 0 < (aboutP l p).length := List.length_pos_iff.2 hp
  rw [List.getLast?_eq_getElem?, List.getD_eq_getElem?_getD, List.getElem?_eq_getElem (by omega)]; rfl
 unfold placesV
 rw [if_neg (by simp [hv])]
 constructor
 · rintro ⟨o, h1, h2, h3, h4⟩
   have hne : aboutP l x.1 ≠ [] := fun e => by rw [e] at h1; cases h1
   have hm : x.1 ∈ sortBy pltC (abK l) := (sortBy_perm _ _).mem_iff.2 ((abK_mem x.1 l).2 (by
    obtain ⟨o, ho⟩ := List.exists_mem_of_ne_nil _ hne
    exact ⟨o, (List.mem_filter.1 ho).1, of_decide_eq_true (List.mem_filter.1 ho).2⟩))
   refine ⟨_, List.mem_map.2 ⟨x.1, hm, rfl⟩, ?_, ?_⟩
   all_goals
    rw [hlast _ hne] at h1
    have h1 := Option.some.inj h1
    unfold placeV
    dsimp only
    rw [h1]
   · rw [if_pos h2]; exact h3
   · exact h4
 · rintro ⟨z, hz, h2, rfl⟩
   obtain ⟨p, hp, rfl⟩ := List.mem_map.1 hz
   have hne := about_ne hp
   have hl : 0 < (aboutP l p).length := List.length_pos_iff.2 hne
   have hm : (aboutP l p).getD ((aboutP l p).length - 1) o0 ∈ aboutP l p := getD_mem (by omega)
   have hp1 : (placeV (aboutP l p)).1.1 = p := of_decide_eq_true (List.mem_filter.1 hm).2
   refine ⟨_, by rw [hp1]; exact hlast p hne, ?_⟩
   unfold placeV at h2
   dsimp only at h2
   split at h2
   · rename_i q
     exact ⟨q, h2, rfl⟩
   · omega
def NumC (c : List Cnt) : Prop := ∀ k, k < c.length → (c.getD k ct0).num = (k : Int) + 1
theorem numIdx_at : ∀ {c : List Cnt}, NumC c → ∀ {b : Int}, 1 ≤ b → b ≤ c.length → numIdx c b = b - 1 := by
 intro c hc b h1 h2
 unfold numIdx idxV
 have : c.findIdx? (fun c => decide (c.num = b)) = some (b - 1).toNat := by
  rw [List.findIdx?_eq_some_iff_getElem]
  have e : ∀ {k : Nat} (h : k < c.length), c[k] = c.getD k ct0 := fun h => by simp [h]
  refine ⟨by omega, ?_, fun j hj => ?_⟩
  · rw [e, hc _ (by omega)]; exact decide_eq_true (by omega)
  · rw [e (by omega), hc _ (by omega)]; simp; omega
 rw [this]
 show (((b - 1).toNat : Nat) : Int) = _
 omega
theorem forceAll_ok {c : List Cnt} (hc : NumC c) : ∀ (P : List Plc) (n : Nat) (S : Nat → Pce → Prop) (w : List Cnt), PInv c n S w → n + P.length ≤ 60 → (∀ z ∈ P, 0 ≤ z.2.1 ∧ z.2.1 ≤ c.length ∧ okPc z.1 = true) → P.Pairwise (fun y z => y.1.1 ≠ z.1.1) → (∀ z ∈ P, ∀ k, k < c.length → ∀ y, S k y → y.1 ≠ z.1.1) →
 (forceAll P w).2 = 0 ∧ PInv c (n + P.length) (fun k x => S k x ∨ ∃ z ∈ P, z.2.1 = (k : Int) + 1 ∧ z.1 = x) (forceAll P w).1
 | [], n, S, w, h, _, _, _, _ => ⟨rfl, h.imp (by simp) fun j hj x => by simp⟩
 | z :: P, n, S, w, h, hn, hP, hd, hS => by
   have hz := hP z (List.mem_cons_self ..)
   have hP' := fun y hy => hP y (List.mem_cons_of_mem z hy)
   rw [List.length_cons] at hn
   obtain ⟨hd1, hd2⟩ := List.pairwise_cons.1 hd
   by_cases h0 : z.2.1 = 0
   · obtain ⟨a, b⟩ := forceAll_ok hc P n S w h (by omega) hP' hd2 fun y hy => hS y (List.mem_cons_of_mem z hy)
     have e : forceAll (z :: P) w = forceAll P w := by rw [forceAll, if_pos h0]
     rw [e]
     refine ⟨a, b.imp (by rw [List.length_cons]; omega) fun j hj x => or_congr Iff.rfl ?_⟩
     constructor
     · rintro ⟨y, hy, q⟩
       rcases List.mem_cons.1 hy with rfl | hy
       · omega
       · exact ⟨y, hy, q⟩
     · rintro ⟨y, hy, q⟩; exact ⟨y, List.mem_cons_of_mem _ hy, q⟩
   · have hk : (z.2.1 - 1).toNat < c.length := by omega
     have hnw : NumC w := fun k hk => by
      rw [h.len] at hk
      rw [h.same k hk]; exact hc k hk
     have hi : (numIdx w z.2.1).toNat = (z.2.1 - 1).toNat := by rw [numIdx_at hnw (by omega) (by rw [h.len]; omega)]
     obtain ⟨a, b⟩ := h.ins (by omega) hk (x := z.1) hz.2.2 (hS z (List.mem_cons_self ..) _ hk) (S' := fun k y => S k y ∨ z.2.1 = (k : Int) + 1 ∧ z.1 = y)
      (fun j hj e x => by constructor
                          · rintro (q | q)
                            · exact q
                            · omega
                          · exact .inl)
      (fun y => by constructor
                   · rintro (q | q)
                     · exact .inr q
                     · exact .inl q.2.symm
                   · rintro (rfl | q)
                     · exact .inr ⟨by omega, rfl⟩
                     · exact .inl q)
     obtain ⟨a2, b2⟩ := forceAll_ok hc P (n + 1) _ _ b (by omega) hP' hd2 fun y hy k hk u hu => by
      rcases hu with hu | hu
      · exact hS y (List.mem_cons_of_mem z hy) k hk u hu
      · rw [← hu.2]; exact hd1 y hy
     have e : forceAll (z :: P) w = forceAll P (w.set (z.2.1 - 1).toNat (forceV (w.getD (z.2.1 - 1).toNat ct0) z.1).1) := by
      rw [forceAll, if_neg h0, hi, if_neg (fun q => q a)]
     rw [e]
     refine ⟨a2, b2.imp (by rw [List.length_cons]; omega) fun j hj x => ?_⟩
     constructor
     · rintro (q | ⟨y, hy, q⟩)
       · exact .inl (.inl q)
       · rcases List.mem_cons.1 hy with rfl | hy
         · exact .inl (.inr q)
         · exact .inr ⟨y, hy, q⟩
     · rintro ((q | q) | ⟨y, hy, q⟩)
       · exact .inl q
       · exact .inr ⟨z, List.mem_cons_self .., q⟩
       · exact .inr ⟨y, List.mem_cons_of_mem _ hy, q⟩
structure NC (m : Nat) (c : List Cnt) : Prop where
 len : c.length ≤ m
 at_ : ∀ k, k < c.length → (c.getD k ct0).num = (k : Int) + 1 ∧ (c.getD k ct0).pcs = [] ∧ propC (c.getD k ct0) = true ∧ ((c.getD k ct0).pos = 0 ∨ (c.getD k ct0).pos = (k : Int) + 1)
theorem NC.num {m : Nat} {c : List Cnt} (h : NC m c) : NumC c := fun k hk => (h.at_ k hk).1
theorem NC.ok {m : Nat} {c : List Cnt} (h : NC m c) (hm : m ≤ 24) : CtsOk c := by
 have hl := h.len
 refine ⟨by omega, fun c hc => ?_, (pw_getD ct0).2 fun a b hab hb => ?_, (pw_getD ct0).2 fun a b hab hb => ?_, (pw_getD ct0).2 fun a b hab hb => ?_⟩
 · obtain ⟨i, hi, rfl⟩ := getD_ct hc
   obtain ⟨_, h2, h3, _⟩ := h.at_ i hi
   rw [h2]
   exact ⟨h3, (by show (0 : Nat) ≤ 60; omega), fun x hx => (by cases hx), .nil⟩
 · rw [(h.at_ a (by omega)).1, (h.at_ b hb).1]; omega
 · intro h1 h2
   rcases (h.at_ a (by omega)).2.2.2 with q | q <;> rcases (h.at_ b hb).2.2.2 with r | r <;> omega
 · rw [(h.at_ a (by omega)).2.1]; intro x hx; cases hx
theorem NC.push {m : Nat} {c : List Cnt} {o : Cnt} (h : NC m c) (hl : c.length < m) (ho : o.num = (c.length : Int) + 1 ∧ o.pcs = [] ∧ propC o = true ∧ (o.pos = 0 ∨ o.pos = (c.length : Int) + 1)) : NC m (c ++ [o]) := by
 refine ⟨by simp; omega, fun k hk => ?_⟩
 rw [List.length_append, List.length_singleton] at hk
 by_cases e : k < c.length
 · rw [List.getD_eq_getElem?_getD, List.getElem?_append_left e, ← List.getD_eq_getElem?_getD]; exact h.at_ k e
 · have e : k = c.length := by omega
   subst e
   rw [List.getD_eq_getElem?_getD, List.getElem?_append_right (Nat.le_refl _), Nat.sub_self]
   exact ho
def padF (n : Nat) : Cnt := ((n : Int) + 1, fltsV 1, 31, 200, 9, 0, 0, [])
theorem padF_ok {n : Nat} (h : n < 6) : (padF n).num = (n : Int) + 1 ∧ (padF n).pcs = [] ∧ propC (padF n) = true ∧ ((padF n).pos = 0 ∨ (padF n).pos = (n : Int) + 1) := by
 refine ⟨rfl, rfl, ?_, .inl rfl⟩
 unfold propC inV padF
 simp only [Cnt.num, Cnt.flt, Cnt.cats, Cnt.lim, Cnt.most, Cnt.pos, Cnt.arm, fltsV_ok, Bool.and_eq_true, decide_eq_true_eq, and_true]
 omega
theorem NC.of {m : Nat} {c : List Cnt} (h : EmpR m c) (hm : m ≤ 24) : NC m c := by
 have hl := h.len
 refine ⟨by omega, fun k hk => ?_⟩
 have hp := (h.ok (by omega)).ok _ (getD_mem (d := ct0) hk)
 obtain ⟨j, _, e⟩ := h.at_ k hk
 rw [e] at hp ⊢
 exact ⟨rfl, rfl, hp.1, .inr rfl⟩
theorem NC.start {m : Nat} {c : List Cnt} (h : NC m c) (hm : m ≤ 24) : PInv c 0 (LastL []) c := by
 refine ⟨rfl, fun k hk => ?_, fun k hk => ctErr_iff.2 ((h.ok hm).ok _ (getD_mem hk)), fun k hk => ?_, fun k hk x => ?_⟩
 · rfl
 · rw [(h.at_ k hk).2.1]; exact Nat.le_refl _
 · rw [(h.at_ k hk).2.1]
   exact ⟨fun q => (by cases q), fun q => absurd q (lastL_nil k x)⟩
theorem applyV_nc {m : Nat} {c : List Cnt} {l : List Opn} (h : NC m c) (hm24 : m ≤ 24) (h5 : c.length = m) (hl : OpsR m l) : (applyV c l).2 = 0 ∧ PInv c 60 (LastL l) (applyV c l).1 := by
 have hlen := hl.len
 have hv : valV l = 0 := hl.okl.val (by omega)
 have hnum : numsIn c l = true := List.all_eq_true.2 fun o ho => by
  have hb := hl.bx o ho
  have := numIdx_at h.num (b := o.box) hb.1 (by rw [h5]; exact hb.2)
  have hb1 : 1 ≤ o.box := hb.1
  exact decide_eq_true (by omega)
 have hclr : c.map (clrC ((placesV l).map (fun x => x.1.1))) = c := by
  conv => rhs; rw [← List.map_id c]
  refine List.map_congr_left fun o ho => ?_
  obtain ⟨k, hk, rfl⟩ := getD_ct ho
  have := (h.at_ k hk).2.1
  unfold clrC
  rw [this]
  show setPcs _ [] = _
  rw [← this]; rfl
 have e : applyV c l = forceAll (placesV l) c := by
  unfold applyV
  rw [if_neg (by simp [checkV_iff.2 (h.ok hm24)]), if_neg (by simp [hv]), if_neg (by simp [hnum]), hclr]
 have hkey : ∀ p, p ∈ sortBy pltC (abK l) → (placeV (aboutP l p)).1.1 = p ∧ ∃ o ∈ l, (placeV (aboutP l p)).1 = o.2.2.2.2.2 := fun p hp => by
  have hne := about_ne hp
  have hl : 0 < (aboutP l p).length := List.length_pos_iff.2 hne
  have hm : (aboutP l p).getD ((aboutP l p).length - 1) o0 ∈ aboutP l p := getD_mem (by omega)
  exact ⟨of_decide_eq_true (List.mem_filter.1 hm).2, _, (List.mem_filter.1 hm).1, rfl⟩
 have hpl : (placesV l).length ≤ 30 := by
  unfold placesV
  rw [if_neg (by simp [hv]), List.length_map]
  exact Nat.le_trans (sortBy_len l) hlen
 obtain ⟨a, b⟩ := forceAll_ok h.num (placesV l) 0 (LastL []) c (h.start hm24) (by omega) (fun z hz => by
  have h1 : okPc z.1 = true := by
   unfold placesV at hz
   rw [if_neg (by simp [hv])] at hz
   obtain ⟨p, hp, rfl⟩ := List.mem_map.1 hz
   obtain ⟨_, o, ho, e⟩ := hkey p hp
   rw [e]; exact okOp_pc (hl.okl.ok o ho)
  rcases placesV_box hz with q | ⟨o, ho, q⟩
  · exact ⟨by omega, by omega, h1⟩
  · have hb := hl.bx o ho
    have hb1 : 1 ≤ o.box := hb.1
    have hb2 : o.box ≤ m := hb.2
    exact ⟨by omega, by omega, h1⟩) (by
  unfold placesV
  rw [if_neg (by simp [hv])]
  have hsub : ∀ L : List Plt, (∀ p ∈ L, p ∈ sortBy pltC (abK l)) → L.Nodup → (L.map (fun p => placeV (aboutP l p))).Pairwise (fun y z => y.1.1 ≠ z.1.1) := fun L hL hn => by
   rw [List.pairwise_map]
   exact List.Pairwise.imp_of_mem (fun {p q} hp hq e => by rw [(hkey p (hL p hp)).1, (hkey q (hL q hq)).1]; exact e) hn
  exact hsub _ (fun p hp => hp) ((sortBy_perm pltC (abK l)).nodup_iff.2 (abK_nodup l)))
  fun z hz k hk y hy => absurd hy (lastL_nil k y)
 rw [e]
 refine ⟨a, b.imp (by omega) fun j hj x => ?_⟩
 rw [lastL_places hv]
 exact ⟨.inr, fun q => q.resolve_left (lastL_nil j x)⟩
theorem pinv_ok {m : Nat} {c x : List Cnt} {l : List Opn} (h : NC m c) (hm : m ≤ 24) (hP : PInv c 60 (LastL l) x) : CtsOk x ∧ NumC x := by
 have hl := h.len
 have hxl := hP.len
 have hC := h.ok hm
 have hn : NumC x := fun k hk => by
  rw [hP.same k (by omega)]
  exact (h.at_ k (by omega)).1
 refine ⟨⟨by omega, fun o ho => ?_, (pw_getD ct0).2 fun a b hab hb => ?_, (pw_getD ct0).2 fun a b hab hb => ?_, (pw_getD ct0).2 fun a b hab hb => ?_⟩, hn⟩
 · obtain ⟨i, hi, rfl⟩ := getD_ct ho
   exact ctErr_iff.1 (hP.ok i (by omega))
 · rw [hn a (by omega), hn b hb]; omega
 · have h0 := (pw_getD ct0).1 hC.pos a b hab (by omega)
   rw [hP.same a (by omega), hP.same b (by omega)]
   exact h0
 · intro y hy z hz e
   obtain ⟨o1, g1, _, g3, _⟩ := (hP.mem a (by omega) y).1 hy
   obtain ⟨o2, k1, _, k3, _⟩ := (hP.mem b (by omega) z).1 hz
   rw [e, k1] at g1
   have := Option.some.inj g1
   rw [this] at k3
   omega
theorem place_in {k : Int} {l : List Opn} (hO : OpsR k l) {z : Plm} (hz : z ∈ placesV l) (h0 : z.2.1 ≠ 0) : z.2.1 ∈ z.2.2 := by
 unfold placesV at hz
 split at hz
 · cases hz
 · obtain ⟨p, hp, rfl⟩ := List.mem_map.1 hz
   have hne := about_ne hp
   obtain ⟨ys, a, e⟩ : ∃ ys a, aboutP l p = ys ++ [a] := ⟨_, _, (List.dropLast_concat_getLast hne).symm⟩
   rw [e] at h0 ⊢
   have hl : (ys ++ [a]).getD ((ys ++ [a]).length - 1) o0 = a := by simp [List.getD_eq_getElem?_getD]
   unfold placeV at h0 ⊢
   dsimp only at h0 ⊢
   rw [hl] at h0 ⊢
   by_cases q : a.kind = 1
   · rw [if_pos q, (compV_spec _).2, trail_snoc, if_pos q]
     exact List.mem_cons_self ..
   · rw [if_neg q] at h0
     exact absurd rfl h0
theorem pinv_cand {m : Nat} {c x : List Cnt} {l : List Opn} (hO : OpsR m l) (hl : l.length ≤ 30) (hP : PInv c 60 (LastL l) x) (hN : NumC x) {o : Cnt} (ho : o ∈ x) {y : Pce} (hy : y ∈ o.pcs) : o.num ∈ candV x (placesV l) y.1 := by
 obtain ⟨i, hi, rfl⟩ := getD_ct ho
 have hxl := hP.len
 have hv : valV l = 0 := hO.okl.val (by omega)
 obtain ⟨z, hz, h1, h2⟩ := (lastL_places hv i y).1 ((hP.mem i (by omega) y).1 hy)
 have h3 := db_plm hO hz
 rw [← h2, db_cand hz h3.1, hN i hi, ← h1]
 exact place_in hO hz (by omega)
theorem findV_num {x : List Cnt} {p : Plt} (h : (findV x p).2 = true) : ¬ numIdx x (findV x p).1 < 0 := by
 unfold findV at h ⊢
 split at h
 · rename_i hi
   rw [if_pos hi]
   obtain ⟨g1, _, _⟩ := idxV_spec (d := ct0) hi
   intro q
   have := idxV_neg q _ (getD_mem (d := ct0) g1)
   simp at this
 · cases h
theorem pinv_lost {m : Nat} {x : List Cnt} {l : List Opn} (hO : OpsR m l) (hN : NumC x) (hx : x.length = m) (p : Plt) : lostV x (placesV l) p = false := by
 unfold lostV
 rw [List.any_eq_false]
 intro n hn
 unfold candV at hn
 split at hn
 · rename_i z hz
   have h3 := (db_plm hO (List.mem_of_find?_eq_some hz)).2.2.2 n hn
   rw [numIdx_at hN h3.1 (by rw [hx]; exact h3.2)]
   simp; omega
 · split at hn
   · rename_i q
     have := findV_num q
     rw [List.mem_singleton.1 hn]
     simpa using this
   · cases hn
theorem want_ok {w : List Plt} (hn : w.Nodup) (hv : ∀ p ∈ w, okPl p = true) : wantE w = 0 := by
 unfold wantE
 have h1 : w.any (fun p => !okPl p) = false := by
  rw [List.any_eq_false]
  intro p hp
  rw [hv p hp]; simp
 have h2 : (setP w).Nodup := (setP_spec w).1.imp fun {a b} h q => by
  rw [q] at h
  have := (pltC_cmp.eq b b).2 rfl
  omega
 have h3 := ((List.perm_ext_iff_of_nodup h2 hn).2 (setP_spec w).2).length_eq
 rw [compP_set, if_neg (by rw [h1]; simp), if_neg (by omega)]
theorem find_tasks {x : List Cnt} {l : List Plm} {w : List Plt} (hw : w.Nodup) (hl : ∀ p ∈ w, lostV x l p = false) :
 TkN (sortT (tskL x l (sortBy pltC w))) ∧ (∀ t ∈ sortT (tskL x l (sortBy pltC w)), ¬ numIdx x t.1 < 0 ∧ ∀ p, p ∈ t.2 ↔ p ∈ w ∧ t.1 ∈ candV x l p) ∧ ∀ n, ∀ p ∈ w, n ∈ candV x l p → ∃ t ∈ sortT (tskL x l (sortBy pltC w)), t.1 = n := by
 have hp := sortBy_perm pltC w
 have hn : (sortBy pltC w).Nodup := hp.nodup_iff.2 hw
 have hP : (sortT (tskL x l (sortBy pltC w))).Perm (tskL x l (sortBy pltC w)) := List.mergeSort_perm _ _
 have I := tskL_i x l _ hn
 refine ⟨?_, fun t ht => ?_, fun n p hpw hc => ?_⟩
 · unfold TkN
   exact (hP.map _).nodup_iff.2 I.n
 · obtain ⟨h1, h2⟩ := I.m t (hP.mem_iff.1 ht)
   have h3 : ∀ p, p ∈ t.2 ↔ p ∈ w ∧ t.1 ∈ candV x l p := fun p => by rw [h1, namV_mem, hp.mem_iff]
   refine ⟨?_, h3⟩
   rw [← h1] at h2
   obtain ⟨p, hpm⟩ := List.exists_mem_of_ne_nil _ h2
   obtain ⟨g1, g2⟩ := (h3 p).1 hpm
   have hlo := hl p g1
   unfold lostV at hlo
   have := (List.any_eq_false.1 hlo) t.1 g2
   simpa using this
 · obtain ⟨t, ht, e⟩ := I.e n (by
    intro q
    have : p ∈ namV x l n (sortBy pltC w) := namV_mem.2 ⟨hp.mem_iff.2 hpw, hc⟩
    rw [q] at this; cases this)
   exact ⟨t, hP.mem_iff.2 ht, e⟩
def goneB (TS : List Tsk) (n : Int) (y : Pce) : Bool := TS.any (fun u => decide (u.1 = n) && inT u y)
theorem goneB_iff {TS : List Tsk} {n : Int} {y : Pce} : goneB TS n y = true ↔ ∃ u ∈ TS, u.1 = n ∧ y.1 ∈ u.2 := by
 unfold goneB inT
 rw [List.any_eq_true]
 constructor
 · rintro ⟨u, hu, h⟩
   rw [Bool.and_eq_true, List.any_eq_true] at h
   obtain ⟨h1, z, hz, e⟩ := h
   exact ⟨u, hu, of_decide_eq_true h1, of_decide_eq_true e ▸ hz⟩
 · rintro ⟨u, hu, h1, h2⟩
   refine ⟨u, hu, ?_⟩
   rw [Bool.and_eq_true, List.any_eq_true]
   exact ⟨decide_eq_true h1, y.1, h2, decide_eq_true rfl⟩
theorem goneB_snoc (TS : List Tsk) (u : Tsk) (n : Int) (y : Pce) : goneB (TS ++ [u]) n y = (goneB TS n y || (decide (u.1 = n) && inT u y)) := by
 unfold goneB
 rw [List.any_append, List.any_cons, List.any_nil, Bool.or_false]
def thinC (TS : List Tsk) (o : Cnt) : Cnt := setPcs o (o.pcs.filter (fun y => !goneB TS o.num y))
def thinL (TS : List Tsk) (x : List Cnt) : List Cnt := x.map (thinC TS)
theorem thin_nil (x : List Cnt) : thinL [] x = x := by
 unfold thinL
 conv => rhs; rw [← List.map_id x]
 refine List.map_congr_left fun o _ => ?_
 unfold thinC
 have e : o.pcs.filter (fun y => !goneB [] o.num y) = o.pcs := List.filter_eq_self.2 fun y _ => rfl
 rw [e]
 rfl
theorem thin_ok {x : List Cnt} (hC : CtsOk x) (TS : List Tsk) : CtsOk (thinL TS x) := by
 unfold thinL
 refine ⟨by rw [List.length_map]; exact hC.len, fun c hc => ?_, ?_, ?_, ?_⟩
 · obtain ⟨o, ho, rfl⟩ := List.mem_map.1 hc
   obtain ⟨h1, h2, h3⟩ := hC.ok o ho
   exact ⟨h1, Nat.le_trans (List.length_filter_le _ _) h2, fun y hy => h3.ok y (List.mem_filter.1 hy).1, h3.srt.filter _⟩
 · rw [List.pairwise_map]; exact hC.num
 · rw [List.pairwise_map]; exact hC.pos
 · rw [List.pairwise_map]
   exact hC.pl.imp fun {a b} h y hy z hz => h y (List.mem_filter.1 hy).1 z (List.mem_filter.1 hz).1
theorem num_uniq {x : List Cnt} (hC : CtsOk x) {i j : Nat} (hi : i < x.length) (hj : j < x.length) (e : (x.getD i ct0).num = (x.getD j ct0).num) : i = j := by
 have h := (pw_getD ct0).1 hC.num
 apply Classical.byContradiction
 intro q
 rcases (by omega : i < j ∨ j < i) with g | g
 · have := h i j g hj; omega
 · have := h j i g hi; omega
theorem thin_step {x : List Cnt} (hC : CtsOk x) {TS : List Tsk} {u : Tsk} (hu : ∀ t ∈ TS, t.1 ≠ u.1) (hk : ¬ numIdx x u.1 < 0) :
 perfV (thinL TS x) u = (thinL (TS ++ [u]) x, ((x.getD (numIdx x u.1).toNat ct0).pcs.filter (inT u)).map (fun y => y.1), 0) := by
 have hT := checkV_iff.2 (thin_ok hC TS)
 have hnum : numIdx (thinL TS x) u.1 = numIdx x u.1 := numIdx_nums (by unfold thinL; rw [List.map_map]; rfl) u.1
 obtain ⟨g1, g2, _⟩ := idxV_spec (d := ct0) (p := fun (o : Cnt) => decide (o.num = u.1)) (l := x) (by unfold numIdx at hk; omega)
 have g2 : (x.getD (numIdx x u.1).toNat ct0).num = u.1 := of_decide_eq_true g2
 have g1 : (numIdx x u.1).toNat < x.length := g1
 unfold perfV
 rw [if_neg (by rw [hT]; simp), hnum, if_neg hk]
 generalize (numIdx x u.1).toNat = k at g1 g2 ⊢
 have hgk : (thinL TS x).getD k ct0 = thinC TS (x.getD k ct0) := by
  unfold thinL
  rw [getD_lt (by rw [List.length_map]; exact g1), List.getElem_map, getD_lt g1]
 rw [hgk]
 have hg0 : ∀ y, goneB TS (x.getD k ct0).num y = false := fun y => by
  rw [Bool.eq_false_iff]
  intro q
  obtain ⟨t, ht, e, _⟩ := goneB_iff.1 q
  exact hu t ht (e.trans g2)
 have hpc : (thinC TS (x.getD k ct0)).pcs = (x.getD k ct0).pcs := by
  show (x.getD k ct0).pcs.filter (fun y => !goneB TS (x.getD k ct0).num y) = _
  exact List.filter_eq_self.2 fun y _ => by rw [hg0]; rfl
 rw [hpc]
 refine Prod.ext ?_ rfl
 dsimp only
 apply List.ext_getElem?
 intro i
 unfold thinL
 rw [List.getElem?_set, List.length_map]
 by_cases e : k = i
 · subst e
   rw [if_pos rfl, if_pos g1, List.getElem?_map, List.getElem?_eq_getElem g1]
   have e2 : x[k] = x.getD k ct0 := (getD_lt g1).symm
   rw [e2]
   show some _ = some (thinC (TS ++ [u]) (x.getD k ct0))
   congr 1
   show setPcs (x.getD k ct0) ((x.getD k ct0).pcs.filter (fun y => !inT u y)) = setPcs (x.getD k ct0) ((x.getD k ct0).pcs.filter (fun y => !goneB (TS ++ [u]) (x.getD k ct0).num y))
   congr 1
   refine List.filter_congr fun y _ => ?_
   rw [goneB_snoc, hg0, g2, decide_eq_true rfl, Bool.false_or, Bool.true_and]
 · rw [if_neg e, List.getElem?_map, List.getElem?_map]
   cases h : x[i]? with
   | none => rfl
   | some o =>
     show some (thinC TS o) = some (thinC (TS ++ [u]) o)
     congr 1
     obtain ⟨hi, ho⟩ := List.getElem?_eq_some_iff.1 h
     have hne : ¬ u.1 = o.num := fun q => by
      refine e (num_uniq hC g1 hi ?_)
      rw [g2, q, ← ho, getD_lt hi]
     unfold thinC
     congr 1
     refine List.filter_congr fun y _ => ?_
     rw [goneB_snoc, decide_eq_false hne, Bool.false_and, Bool.or_false]
def fndL (x : List Cnt) (TS : List Tsk) : List Plt := TS.flatMap (fun u => ((x.getD (numIdx x u.1).toNat ct0).pcs.filter (inT u)).map (fun y => y.1))
theorem fndL_snoc (x : List Cnt) (TS : List Tsk) (u : Tsk) : fndL x (TS ++ [u]) = fndL x TS ++ ((x.getD (numIdx x u.1).toNat ct0).pcs.filter (inT u)).map (fun y => y.1) := by
 unfold fndL
 rw [List.flatMap_append]
 simp
theorem inT_iff {u : Tsk} {y : Pce} : inT u y = true ↔ y.1 ∈ u.2 := by
 unfold inT
 rw [List.any_eq_true]
 exact ⟨fun ⟨z, hz, e⟩ => of_decide_eq_true e ▸ hz, fun h => ⟨y.1, h, decide_eq_true rfl⟩⟩
theorem findV_has {x : List Cnt} {p : Plt} : (findV x p).2 = true ↔ ∃ o ∈ x, ∃ y ∈ o.pcs, y.1 = p := by
 have := findV_take (l := x) (i := x.length) (p := p) (Nat.le_refl _)
 rw [List.take_length] at this
 rw [this]
 constructor
 · rintro ⟨k, hk, h⟩
   obtain ⟨y, hy, e⟩ := holdsV_iff.1 h
   exact ⟨_, getD_mem (d := ct0) hk, y, hy, e⟩
 · rintro ⟨o, ho, y, hy, e⟩
   obtain ⟨k, hk, rfl⟩ := getD_ct ho
   exact ⟨k, hk, holdsV_iff.2 ⟨y, hy, e⟩⟩
theorem remV_mem {x : List Cnt} {w : List Plt} {p : Plt} : p ∈ remV x w ↔ p ∈ w ∧ ∃ o ∈ x, ∃ y ∈ o.pcs, y.1 = p := by
 unfold remV
 rw [List.mem_filter]
 exact and_congr_right fun _ => findV_has
structure FndK (x : List Cnt) (w : List Plt) (TS : List Tsk) : Prop where
 ok : CtsOk x
 nd : w.Nodup
 n : TkN TS
 ex : ∀ t ∈ TS, ¬ numIdx x t.1 < 0
 sub : ∀ t ∈ TS, ∀ p ∈ t.2, p ∈ w
 all : ∀ o ∈ x, ∀ y ∈ o.pcs, y.1 ∈ w → ∃ t ∈ TS, t.1 = o.num ∧ y.1 ∈ t.2
theorem FndK.hold {x : List Cnt} {w : List Plt} {TS : List Tsk} (h : FndK x w TS) {o : Cnt} (ho : o ∈ x) {y : Pce} (hy : y ∈ o.pcs) : holdsV (thinC TS o) y.1 = !decide (y.1 ∈ w) := by
 rw [Bool.eq_iff_iff, holdsV_iff]
 constructor
 · rintro ⟨z, hz, e⟩
   obtain ⟨h1, h2⟩ := List.mem_filter.1 hz
   by_cases q : y.1 ∈ w
   · rw [← e] at q
     obtain ⟨t, ht, e2, h3⟩ := h.all o ho z h1 q
     rw [goneB_iff.2 ⟨t, ht, e2, h3⟩] at h2
     cases h2
   · rw [decide_eq_false q]; rfl
 · intro q
   have q : ¬ y.1 ∈ w := by simpa using q
   refine ⟨y, List.mem_filter.2 ⟨hy, ?_⟩, rfl⟩
   have : goneB TS o.num y = false := by
    rw [Bool.eq_false_iff]
    intro g
    obtain ⟨t, ht, _, h3⟩ := goneB_iff.1 g
    exact q (h.sub t ht _ h3)
   rw [this]; rfl
theorem FndK.rem {x : List Cnt} {w : List Plt} {TS : List Tsk} (h : FndK x w TS) : remV (thinL TS x) w = [] := by
 apply List.eq_nil_iff_forall_not_mem.2
 intro p hp
 obtain ⟨hpw, c, hc, y, hy, e⟩ := remV_mem.1 hp
 unfold thinL at hc
 obtain ⟨o, ho, rfl⟩ := List.mem_map.1 hc
 have h1 := (List.mem_filter.1 hy).1
 have := h.hold ho h1
 rw [e, decide_eq_true hpw, (holdsV_iff.2 ⟨y, hy, e⟩ : holdsV (thinC TS o) p = true)] at this
 cases this
theorem FndK.at_ {x : List Cnt} {w : List Plt} {TS : List Tsk} (h : FndK x w TS) {t : Tsk} (ht : t ∈ TS) : (numIdx x t.1).toNat < x.length ∧ (x.getD (numIdx x t.1).toNat ct0).num = t.1 := by
 have hk := h.ex t ht
 obtain ⟨g1, g2, _⟩ := idxV_spec (d := ct0) (p := fun (o : Cnt) => decide (o.num = t.1)) (l := x) (by unfold numIdx at hk; omega)
 exact ⟨g1, of_decide_eq_true g2⟩
theorem FndK.fnd {x : List Cnt} {w : List Plt} {TS : List Tsk} (h : FndK x w TS) : (fndL x TS).Perm (remV x w) := by
 refine (List.perm_ext_iff_of_nodup ?_ ?_).2 fun p => ?_
 · unfold fndL
   unfold List.Nodup
   rw [List.pairwise_flatMap]
   refine ⟨fun t ht => ?_, ?_⟩
   · obtain ⟨g1, _⟩ := h.at_ ht
     have hs := (h.ok.ok _ (getD_mem (d := ct0) g1)).2.2.srt
     rw [List.pairwise_map]
     exact (hs.filter _).imp fun {a b} q e => by
      rw [e] at q
      have := (pltC_cmp.eq b.1 b.1).2 rfl
      omega
   · have hN := h.n
     unfold TkN List.Nodup at hN
     rw [List.pairwise_map] at hN
     refine List.Pairwise.imp_of_mem (fun {s t} hs ht hne a ha b hb e => ?_) hN
     obtain ⟨y, hy, rfl⟩ := List.mem_map.1 ha
     obtain ⟨z, hz, e2⟩ := List.mem_map.1 hb
     have hy := (List.mem_filter.1 hy).1
     have hz := (List.mem_filter.1 hz).1
     obtain ⟨g1, g2⟩ := h.at_ hs
     obtain ⟨k1, k2⟩ := h.at_ ht
     have hpl := (pw_getD ct0).1 h.ok.pl
     have hij : (numIdx x s.1).toNat ≠ (numIdx x t.1).toNat := fun q => by
      rw [q, k2] at g2
      exact hne g2.symm
     rcases (by omega : (numIdx x s.1).toNat < (numIdx x t.1).toNat ∨ (numIdx x t.1).toNat < (numIdx x s.1).toNat) with q | q
     · exact hpl _ _ q k1 y hy z hz (e.trans e2.symm)
     · exact hpl _ _ q g1 z hz y hy (e2.trans e.symm)
 · exact List.Pairwise.filter _ h.nd
 · rw [remV_mem]
   unfold fndL
   rw [List.mem_flatMap]
   constructor
   · rintro ⟨t, ht, hp⟩
     obtain ⟨y, hy, rfl⟩ := List.mem_map.1 hp
     obtain ⟨h1, h2⟩ := List.mem_filter.1 hy
     exact ⟨h.sub t ht _ (inT_iff.1 h2), _, getD_mem (d := ct0) (h.at_ ht).1, y, h1, rfl⟩
   · rintro ⟨hpw, o, ho, y, hy, rfl⟩
     obtain ⟨t, ht, e, h3⟩ := h.all o ho y hy hpw
     obtain ⟨k, hk, rfl⟩ := getD_ct ho
     obtain ⟨g1, g2⟩ := h.at_ ht
     have : (numIdx x t.1).toNat = k := num_uniq h.ok g1 hk (g2.trans e)
     refine ⟨t, ht, List.mem_map.2 ⟨y, List.mem_filter.2 ⟨?_, inT_iff.2 h3⟩, rfl⟩⟩
     rw [this]; exact hy
theorem find_all {m : Nat} {c x : List Cnt} {l : List Opn} {w : List Plt} (h : NC m c) (hm : m ≤ 24) (h5 : c.length = m) (hO : OpsR m l) (hP : PInv c 60 (LastL l) x) (hw : w.Nodup) (hv : ∀ p ∈ w, okPl p = true) :
 ∃ TS, searchV x (placesV l) w = (TS, 0) ∧ FndK x w TS := by
 obtain ⟨hC, hN⟩ := pinv_ok h hm hP
 have hxl := hP.len
 have hlo : ∀ p ∈ w, lostV x (placesV l) p = false := fun p _ => pinv_lost hO hN (by omega) p
 have hw0 := want_ok hw hv
 refine ⟨sortT (tskL x (placesV l) (sortBy pltC w)), ?_, ?_⟩
 · unfold searchV
   rw [if_neg (by simp [checkV_iff.2 hC]), if_neg (by simp [hw0]), (sortBy_perm pltC w).any_eq, if_neg]
   intro q
   obtain ⟨p, hp, e⟩ := List.any_eq_true.1 q
   rw [hlo p hp] at e
   cases e
 · obtain ⟨h1, h2, h3⟩ := find_tasks hw hlo
   refine ⟨hC, hw, h1, fun t ht => (h2 t ht).1, fun t ht p hp => (((h2 t ht).2 p).1 hp).1, fun o ho y hy hyw => ?_⟩
   have hc := pinv_cand hO hO.len hP hN ho hy
   obtain ⟨t, ht, e⟩ := h3 _ _ hyw hc
   exact ⟨t, ht, e, ((h2 t ht).2 y.1).2 ⟨hyw, by rw [e]; exact hc⟩⟩
end Go.Proofs.YtpglcghgklmedaaGreat
