/- Part. -/
import Derived.Test.YtpglcghgklmedaaGreatOdKPToKE
import Derived.Test.YtpglcghgklmedaaGreatOdKUToK6
import Derived.Test.YtpglcghgklmedaaGreatEvTab
import Derived.OpenShut
import Derived.JoinedCond
import Derived.Below
import Derived.ChangeSame
import Derived.ChangeArms
import Derived.WideKeyArgs
import Derived.Test.YtpglcghgklmedaaGreatOdTab
import Derived.WalkKit
import Derived.ProofKit
set_option linter.all false
set_option maxRecDepth 100000
set_option maxHeartbeats 8000000
namespace Go.Proofs.YtpglcghgklmedaaGreat
open Go.Ev
attribute [local go_sem] List.set_cons_succ List.set_cons_zero List.getD_cons_succ List.getD_cons_zero List.set_nil
def con47 : Con := { ps := [.d false (.sl (.int .i64)), .d false (.sl (.int .i64))], rs := [.d false .bool], pre := fun x => True, out := fun (x : List Int × List Int × Unit) => (decide (x.1 = x.2.1), ()), nw := id }
theorem c47 : CtrOk Tryz.prog 47 con47.ctr :=
 con_sound (G := ⟨[], [], [], [], []⟩) tab_ok EnvOk.nil rfl Tryz.func47 rfl con47 33571891 (by kernel_rfl) (by decide) (by decide) rfl (by decide) rfl (by
  rintro ⟨(a : List Int), (b : List Int), _⟩ hpre hwf X hT hG hk hK
  (simp -implicitDefEqProofs only [go_sem, bP, con47, hT, hG, hk, hK, Tryz.results47] at hwf ⊢); (try simp (disch := decide +kernel) only [drawn, true_and, and_true])
  clear hwf
  refine fun _ _ => ⟨fun h => ?_, fun h => ?_⟩
  · rw [eq_comm, decide_eq_false_iff_not]
    intro q
    exact h (by rw [q])
  · refine evk_loop ⟨{ i : Nat // i ≤ a.length ∧ a.take i = b.take i }, 1000, fun q => [(0, .one (.sl (.int .i64) a false)), (1, .one (.sl (.int .i64) b false)), (5, .one (.int .i64 q.1))], fun q => [], fun q => a.length - q.1⟩ ⟨0, Nat.zero_le _, rfl⟩ ?_ ?_
    · simp only [go_sem]
      try first | rfl | (and_intros <;> first | trivial | rfl | omega)
    · rintro ⟨i, (hi : i ≤ a.length), (he : a.take i = b.take i)⟩
      (simp -implicitDefEqProofs only [go_sem, bP, con47, hT, hG, hk, hK, Tryz.results47]); (try simp (disch := decide +kernel) only [drawn, true_and, and_true])
      obtain ⟨o, ho⟩ : ∃ o, a.getD i 0 = o := ⟨_, rfl⟩
      have eo : a.getD (i : Int).toNat 0 = o := ho
      obtain ⟨u, hu⟩ : ∃ o, b.getD i 0 = o := ⟨_, rfl⟩
      have eu : b.getD (i : Int).toNat 0 = u := hu
      try simp only [eo, eu]
      refine fun _ => ⟨fun hlt => ?_, fun hge => ?_⟩
      · have hia : i < a.length := by omega
        have hib : i < b.length := by omega
        (repeat' with_reducible first | refine And.intro ?_ ?_ | intro _) <;> try first | with_reducible (first | assumption | omega | contradiction) | decide
        all_goals first
         | omega
         | (have hne : ¬ o = u := by assumption
            rw [eq_comm, decide_eq_false_iff_not]
            intro q
            subst q
            exact hne (ho.symm.trans hu))
         | (have hne : o = u := by assumption
            refine fin_lp ⟨i + 1, by omega, ?_⟩ ?_ (by dsimp only; omega)
            · show a.take (i + 1) = b.take (i + 1)
              rw [List.take_succ_eq_append_getElem hia, List.take_succ_eq_append_getElem hib, he, ← getD_lt (d := 0) hia, ← getD_lt (d := 0) hib, ho, hu, hne]
            · simp only [go_sem]
              try first | rfl | (and_intros <;> first | trivial | rfl | omega))
      · rw [eq_comm, decide_eq_true_eq]
        rw [List.take_of_length_le (by omega), List.take_of_length_le (by omega)] at he
        exact he)
theorem aS1 : searchV three3 [] [platesV 1] = ([(5, [platesV 1])], 0) := by decide +kernel
theorem aT2 : tskL three3 [((platesV 1, 20, 0), 5, [3, 5])] (sortBy pltC [platesV 1]) = [(3, [platesV 1]), (5, [platesV 1])] := by decide +kernel
theorem aT3 : sortT [(3, [platesV 1]), (5, [platesV 1])] = [(3, [platesV 1]), (5, [platesV 1])] := (sortT_eq (by unfold TkN; decide) (List.Perm.refl _) (by decide +kernel)).symm
theorem aS2 : searchV three3 [((platesV 1, 20, 0), 5, [3, 5])] [platesV 1] = ([(3, [platesV 1]), (5, [platesV 1])], 0) := by
 unfold searchV
 rw [if_neg (by decide +kernel), if_neg (by decide +kernel), if_neg (by decide +kernel), aT2, aT3]
theorem aAb : aboV three3 (fltsV 0) = three3 := by
 unfold aboV
 rw [show three3.filter (onB (fltsV 0)) = three3 by decide +kernel]
 exact (sortC_eq (by unfold PosN; decide +kernel) (List.Perm.refl _) (by decide +kernel)).symm
theorem aO1 : ordV three3 (fltsV 0) [(5, [platesV 1])] = ([8, 5], 0) := by
 unfold ordV
 rw [if_neg (by decide +kernel), if_neg (by decide +kernel), aAb]
 decide +kernel
theorem aO2 : ordV three3 (fltsV 0) [(3, [platesV 1]), (5, [platesV 1])] = ([8, 5, 3], 0) := by
 unfold ordV
 rw [if_neg (by decide +kernel), if_neg (by decide +kernel), aAb]
 decide +kernel
theorem aP : perfV three3 (5, [platesV 1]) = (three0, [platesV 1], 0) := by decide +kernel
theorem aR1 : remV three0 [platesV 1] = [] := by decide +kernel
theorem aR2 : remV three3 [platesV 1] = [platesV 1] := by decide +kernel
def con15 : Con := { ps := [], rs := [.d false .bool], pre := fun _ => True, out := fun _ => (true, ()), nw := id }
theorem c15 : CtrOk Tryz.prog 15 con15.ctr :=
 con_sound (G := ⟨[(6, con6.ctr), (44, con44.ctr), (45, con45.ctr), (12, con12.ctr), (46, con46.ctr), (13, con13.ctr), (14, con14.ctr), (47, con47.ctr)], [], [(109, 4), (116, 4)], [], []⟩) tab_ok (EnvOk.cons c6 has6 (EnvOk.cons c44 has44 (EnvOk.cons c45 has45 (EnvOk.cons c12 has12 (EnvOk.cons c46 has46 (EnvOk.cons c13 has13 (EnvOk.cons c14 has14 (EnvOk.cons c47 has47 EnvOk.nil)))))))) rfl Tryz.func15 rfl con15 16383 (by kernel_rfl) (by decide) (by decide) rfl (by decide) rfl (by
  rintro _ hpre hwf X hT hG hk hK
  (simp -implicitDefEqProofs only [go_sem, bP, con15, con6, con44, con45, con12, con46, con13, con14, con47, hT, hG, hk, hK, Tryz.results15] at hwf ⊢); (try simp (disch := decide +kernel) only [drawn, true_and, and_true])
  simp only [aS1, aS2, aO1, aO2, aP, aR1, aR2]
  (repeat' with_reducible first | refine And.intro ?_ ?_ | intro _) <;> try first | with_reducible (first | assumption | omega | contradiction) | decide
  all_goals first
   | decide
   | (subst_vars; decide))
end Go.Proofs.YtpglcghgklmedaaGreat

set_option maxRecDepth 100000
set_option maxHeartbeats 16000000
namespace Go.Proofs.YtpglcghgklmedaaGreat
open Go.Ev
attribute [local go_sem] List.set_cons_succ List.set_cons_zero List.getD_cons_succ List.getD_cons_zero List.set_nil
def plB (n : Int) (k : Nat) : List Plt := (List.range k).map (fun (i : Nat) => platesV (((i : Int) * 5 + 3).tmod n))
theorem plB_succ (n : Int) (k : Nat) : plB n (k + 1) = plB n k ++ [platesV (((k : Int) * 5 + 3).tmod n)] := by
 unfold plB
 rw [List.range_succ, List.map_append]; rfl
theorem plB_ok {n : Int} {k : Nat} : ∀ p ∈ plB n k, okPl p = true := fun p hp => by
 obtain ⟨i, _, rfl⟩ := List.mem_map.1 hp
 exact platesV_ok _
theorem plB_nodup : (plB 14 14).Nodup := by decide +kernel
theorem db_mayF {l : List Opn} {z : Plc} (h : z ∈ placesV l) : z.2.2.length ≤ l.length := by
 rw [← placesR_eq] at h
 unfold placesR at h
 split at h
 · cases h
 · obtain ⟨p, hp, rfl⟩ := List.mem_map.1 h
   exact Nat.le_trans (placeR_len _) (about_len _ _)
theorem pl_dec (a b : Plt) : (decide (a.1 = b.1) && (decide (a.2.1 = b.2.1) && decide (a.2.2 = b.2.2))) = decide (a = b) := by
 rw [Bool.eq_iff_iff]
 simp only [Bool.and_eq_true, decide_eq_true_eq]
 rw [plE a b]
theorem pl_not {a b : Bool} (h1 : a = b) (h2 : (!b) = a) : False := by
 subst h1
 cases a <;> cases h2
theorem fnd_sz {a b : Nat} {F : List Plt} {L : List Plt} (h1 : F.length ≤ a) (h2 : a = b) (h3 : b ≤ 14) (h4 : L.length ≤ 60) : (F.length + L.length) * 24 ≤ 140737488355328 := by omega
theorem fnd_le (x : List Cnt) (TS : List Tsk) (j : Nat) : (fndL x (TS.take j)).length ≤ (fndL x TS).length := by
 conv => rhs; rw [← List.take_append_drop j TS]
 unfold fndL
 rw [List.flatMap_append, List.length_append]
 omega
def conPlF : RCon := { ps := [.p 67 ySR, .d false (.int .i64)], rs := [.d false (.sl yPL)], pre := fun (x : Src × Int × Unit) => 0 ≤ x.1.2 ∧ 1 ≤ x.2.1 ∧ x.2.1 ≤ 20, rel := fun (x : Src × Int × Unit) (y : List Plt × Unit) (z : Src × Int × Unit) => 0 ≤ z.1.2 ∧ y.1.Sublist (plB x.2.1 x.2.1.toNat) }
theorem cPlF : RCtrOk Tryz.prog 17 conPlF.rctr :=
 rcon_sound (G := ⟨[(22, con22.ctr), (44, con44.ctr)], [], [], [], []⟩) tab_ok (EnvOk.cons c22 has22 (EnvOk.cons c44 has44 EnvOk.nil)) rfl Tryz.func17 rfl conPlF 17011 (by kernel_rfl) (by decide) (by decide) rfl (by decide) rfl (by
  rintro ⟨⟨(s : List Int), (a : Int)⟩, (n : Int), _⟩ hpre hwf X hT hG hk hK
  obtain ⟨h1, h2, h3⟩ : 0 ≤ a ∧ 1 ≤ n ∧ n ≤ 20 := hpre
  (simp -implicitDefEqProofs only [go_sem, bP, conPlF, con22, con44, hT, hG, hk, hK, Tryz.results17] at hwf ⊢)
  clear hwf
  refine evk_loop ⟨{ q : Src × List Plt × Nat // 0 ≤ q.1.2 ∧ q.2.1.length ≤ q.2.2 ∧ q.2.2 ≤ 20 ∧ (q.2.2 : Int) ≤ n ∧ q.2.1.Sublist (plB n q.2.2) }, 1000, fun q => [(0, .one (.loc 0 0)), (1, .one (.int .i64 n)), (5, .one (.row 66)), (6, .one (.int .i64 q.1.2.2))],
   fun q => [(0, .cells 67 [.sl (.int .i64) q.1.1.1 false, .int .i64 q.1.1.2]), (66, .row 37 yPL q.1.2.1)], fun q => 20 - q.1.2.2⟩ ⟨((s, a), [], 0), h1, Nat.le_refl _, Nat.zero_le _, (by show ((0 : Nat) : Int) ≤ n; omega), (by exact List.Sublist.refl [])⟩ ?_ ?_
  · simp only [go_sem]
    try first | rfl | (and_intros <;> first | trivial | rfl | omega)
  · rintro ⟨⟨⟨s, a⟩, out, i⟩, (h1 : 0 ≤ a), (hl : out.length ≤ i), (hi : i ≤ 20), (hin : (i : Int) ≤ n), (hsub : out.Sublist (plB n i))⟩
    (simp -implicitDefEqProofs only [go_sem, bP, conPlF, con22, con44, hT, hG, hk, hK, Tryz.results17])
    have p1 : 0 ≤ (Src.step (s, a)).snd := step_pos h1
    have m1 : 0 ≤ ((i : Int) * 5 + 3).tmod n := Int.tmod_nonneg _ (by omega)
    have m2 : ((i : Int) * 5 + 3).tmod n < n := Int.tmod_lt_of_pos _ (by omega)
    generalize Src.step (s, a) = S1 at p1 ⊢
    obtain ⟨s1, a1⟩ := S1
    (repeat' with_reducible first | refine And.intro ?_ ?_ | intro _) <;> try first | with_reducible (first | assumption | omega | contradiction) | decide
    all_goals first
     | omega
     | exact ⟨(out, ()), ((s, a), n, ()), ⟨h1, (by show out.Sublist (plB n n.toNat); rw [show n.toNat = i by omega]; exact hsub)⟩, rfl, rfl, rfl⟩
     | (refine fin_lp ⟨((s1, a1), out ++ [platesV (((i : Int) * 5 + 3).tmod n)], i + 1), p1, (by show (out ++ [_]).length ≤ i + 1; rw [List.length_append, List.length_singleton]; omega), (by show i + 1 ≤ 20; omega), (by show ((i + 1 : Nat) : Int) ≤ n; omega), (by show (out ++ [_]).Sublist (plB n (i + 1)); rw [plB_succ]; exact hsub.append (List.Sublist.refl _))⟩ ?_ (by dsimp only; omega)
        simp only [go_sem]
        try first | rfl | (and_intros <;> first | trivial | rfl | omega)
        done)
     | (refine fin_lp ⟨((s1, a1), out, i + 1), p1, (by show out.length ≤ i + 1; omega), (by show i + 1 ≤ 20; omega), (by show ((i + 1 : Nat) : Int) ≤ n; omega), (by show out.Sublist (plB n (i + 1)); rw [plB_succ]; exact hsub.trans (List.sublist_append_left _ _))⟩ ?_ (by dsimp only; omega)
        simp only [go_sem]
        try first | rfl | (and_intros <;> first | trivial | rfl | omega)
        done))
def con4 : Con := { ps := [.d false (.sl (.int .i64))], rs := [.d false .bool], pre := fun _ => True, out := fun x => (true, ()), nw := id }
theorem c4 : CtrOk Tryz.prog 4 con4.ctr :=
 con_sound (G := ⟨[(5, con5.ctr), (6, con6.ctr), (8, con8.ctr), (18, con18.ctr), (12, con12.ctr), (13, con13.ctr), (14, con14.ctr), (10, con10.ctr), (21, con21.ctr), (20, con20.ctr), (19, con19.ctr), (15, con15.ctr)], [(16, con16.rctr), (7, con7.rctr), (17, conPlF.rctr)], [(103, 4)], [], []⟩) tab_ok (EnvOk.cons c5 has5 (EnvOk.cons c6 has6 (EnvOk.cons c8 has8 (EnvOk.cons c18 has18 (EnvOk.cons c12 has12 (EnvOk.cons c13 has13 (EnvOk.cons c14 has14 (EnvOk.cons c10 has10 (EnvOk.cons c21 has21 (EnvOk.cons c20 has20 (EnvOk.cons c19 has19 (EnvOk.cons c15 has15 (EnvOk.rcons c16 has16 (EnvOk.rcons c7 has7 (EnvOk.rcons cPlF has17 EnvOk.nil))))))))))))))) rfl Tryz.func4 rfl con4 11418023014765760409031282634412761439200591869 (by kernel_rfl) (by decide) (by decide) rfl (by decide) rfl (by
  rintro ⟨(src : List Int), _⟩ hpre hwf X hT hG hk hK
  (simp -implicitDefEqProofs only [go_sem, bP, con4, con5, con6, con8, con18, con12, con13, con14, con10, con21, con20, con19, con15, con16, con7, conPlF, hT, hG, hk, hK, Tryz.results4] at hwf ⊢); (try simp (disch := decide +kernel) only [drawn, true_and, and_true])
  clear hwf
  refine fun _ => ⟨by decide, ?_⟩
  rintro ⟨⟨(emp : List Cnt), _⟩, ⟨⟨(s1 : List Int), (a1 : Int)⟩, _⟩⟩ hy1
  obtain ⟨⟨h1, hemp⟩, -⟩ := hy1
  have h1 : 0 ≤ a1 := h1
  have hemp : EmpR 6 emp := hemp
  dsimp only
  refine evk_loop ⟨{ c : List Cnt // NC 6 c }, 1000, fun q => [(3, .one (.loc 70 0)), (4, .one (.row 64))], fun q => [(70, .cells 67 [.sl (.int .i64) s1 false, .int .i64 a1]), (64, .row 31 yCT q.1)], fun q => 6 - q.1.length⟩ ⟨emp, NC.of hemp (by decide)⟩ ?_ ?_
  · simp only [go_sem]
    try first | rfl | (and_intros <;> first | trivial | rfl | omega)
  rintro ⟨c, (hc : NC 6 c)⟩
  (simp -implicitDefEqProofs only [go_sem, bP, con4, con5, con6, con8, con18, con12, con13, con14, con10, con21, con20, con19, con15, con16, con7, conPlF, hT, hG, hk, hK, Tryz.results4]); (try simp (disch := decide +kernel) only [drawn, true_and, and_true])
  have hlc := hc.len
  refine fun _ => ⟨fun hlt _ => ⟨by omega, fun _ => ⟨by omega, ?_⟩⟩, fun hge => ?_⟩
  · refine fin_lp ⟨c ++ [padF c.length], hc.push (by omega) (padF_ok (by omega))⟩ ?_ (by dsimp only; rw [List.length_append, List.length_singleton]; omega)
    simp only [go_sem]
    try first | rfl | (and_intros <;> first | trivial | rfl | omega)
  have h6 : c.length = 6 := by omega
  refine ⟨⟨h1, by decide⟩, ?_⟩
  rintro ⟨⟨(ops : List Opn), _⟩, ⟨⟨(s2 : List Int), (a2 : Int)⟩, _⟩⟩ hy2
  obtain ⟨⟨h2, hops⟩, -⟩ := hy2
  have h2 : 0 ≤ a2 := h2
  have hops : OpsR 6 ops := hops
  dsimp only
  refine ⟨⟨h2, by decide⟩, ?_⟩
  rintro ⟨⟨(w : List Plt), _⟩, ⟨⟨(s3 : List Int), (a3 : Int)⟩, _⟩⟩ hy3
  have hws : w.Sublist (plB 14 14) := hy3.1.2
  clear hy3
  have hwn : w.Nodup := plB_nodup.sublist hws
  have hwl : w.length ≤ 14 := hws.length_le
  have hwv : ∀ p ∈ w, okPl p = true := fun p hp => plB_ok p (hws.subset hp)
  dsimp only
  obtain ⟨ha, hb⟩ := applyV_nc hc (by decide) h6 hops
  obtain ⟨x, xe, hX⟩ : ∃ x e, applyV c ops = (x, e) := ⟨_, _, rfl⟩
  rw [hX] at ha hb
  have ha : xe = 0 := ha
  have hb : PInv c 60 (LastL ops) x := hb
  subst ha
  obtain ⟨TS, hS, hK5⟩ := find_all hc (by decide) h6 hops hb hwn hwv
  have hpm : ∀ y ∈ placesV ops, y.2.2.length ≤ 1000 := fun y hy => Nat.le_trans (db_mayF hy) (Nat.le_trans hops.len (by decide))
  simp only [hX, hS]
  generalize placesV ops = P at hpm ⊢
  have hxl : x.length = 6 := by rw [hb.len, h6]
  have hxc : ∀ o ∈ x, o.pcs.length ≤ 100000 := fun o ho => Nat.le_trans (hK5.ok.ok o ho).2.1 (by decide)
  have hrl : (remV x w).length ≤ 14 := Nat.le_trans (List.length_filter_le _ _) hwl
  have hfl := hK5.fnd.length_eq
  simp only [not_true_eq_false, ne_eq, or_self, false_implies, true_implies, true_and]
  (repeat' with_reducible first | refine And.intro ?_ ?_ | intro _) <;> try first | with_reducible (first | assumption | omega | contradiction) | decide
  all_goals try first | omega | exact hpm _ (by assumption) | exact hxc _ (by assumption)
  refine evk_loop ⟨{ k : Nat // k ≤ TS.length }, 3000, fun q => [(6, .one (.sl yPL w false)), (7, .one (.sl yCT x false)), (11, .one (.sl yPL (remV x w) false)), (12, .one (.sl yCT (thinL (TS.take q.1) x) false)), (13, .one (.row 66)), (69, .one (.sl yTK TS false)), (70, .one (.int .i64 TS.length)), (71, .one (.int .i64 q.1))], fun q => [(66, .row 37 yPL (fndL x (TS.take q.1)))], fun q => TS.length - q.1⟩ ⟨0, Nat.zero_le _⟩ ?_ ?_
  · simp only [go_sem]
    first
     | exact ⟨rfl, rfl, (thin_nil x).symm⟩
  · rintro ⟨j, (hj : j ≤ TS.length)⟩
    (simp -implicitDefEqProofs only [go_sem, bP, con4, con5, con6, con8, con18, con12, con13, con14, con10, con21, con20, con19, con15, con16, con7, conPlF, hT, hG, hk, hK, Tryz.results4]); (try simp (disch := decide +kernel) only [drawn, true_and, and_true])
    obtain ⟨u, hu⟩ : ∃ u, TS.getD j tk0 = u := ⟨_, rfl⟩
    have eu : TS.getD (j : Int).toNat (0, []) = u := hu
    have eU : (u.1, u.2) = u := rfl
    try simp only [eu, eU]
    have hfj := fnd_le x TS j
    by_cases hjl : j < TS.length
    · have hum : u ∈ TS := by rw [← hu]; exact getD_mem hjl
      have hts : TS.take (j + 1) = TS.take j ++ [u] := by rw [List.take_succ_eq_append_getElem hjl, ← getD_lt (d := tk0) hjl, hu]
      have hst := thin_step hK5.ok (TS := TS.take j) (u := u) (fun t ht e => by
       have hN := hK5.n
       unfold TkN at hN
       obtain ⟨i, hi, rfl⟩ := List.mem_iff_getElem.1 ht
       rw [List.length_take] at hi
       rw [List.getElem_take] at e
       rw [getD_lt hjl] at hu
       have : i = j := (List.getElem_inj (h₀ := by rw [List.length_map]; omega) (h₁ := by rw [List.length_map]; omega) hN).1 (by simpa [hu] using e)
       omega) (hK5.ex u hum)
      rw [← hts] at hst
      have hsn := fndL_snoc x (TS.take j) u
      rw [← hts] at hsn
      have hql : (((x.getD (numIdx x u.1).toNat ct0).pcs.filter (inT u)).map (fun y => y.1)).length ≤ 60 := by
       rw [List.length_map]
       refine Nat.le_trans (List.length_filter_le _ _) ?_
       exact (hK5.ok.ok _ (getD_mem (d := ct0) (hK5.at_ hum).1)).2.1
      generalize ((x.getD (numIdx x u.1).toNat ct0).pcs.filter (inT u)).map (fun y => y.1) = L at hst hsn hql
      simp only [hst, not_true_eq_false, ne_eq, false_implies, true_implies, true_and]
      (repeat' with_reducible first | refine And.intro ?_ ?_ | intro _) <;> try first | with_reducible (first | assumption | omega | contradiction) | decide
      all_goals first
       | omega
       | exact fnd_sz hfj hfl hrl hql
       | (refine fin_lp ⟨j + 1, by omega⟩ ?_ (by dsimp only; omega)
          simp only [go_sem]
          rw [hsn]
          try first | rfl | (and_intros <;> first | trivial | rfl | omega)
          done)
    · have ej : j = TS.length := by omega
      subst ej
      simp only [List.take_length]
      refine ⟨fun h => absurd h (Int.lt_irrefl _), fun _ => ?_⟩
      have hr := hK5.rem
      have hs := setP_ext (fun p => hK5.fnd.mem_iff (a := p))
      have hthl : (thinL TS x).length = x.length := by unfold thinL; rw [List.length_map]
      have hz0 : (((0 : Nat) : Int) = 0) = True := by simp
      simp only [hr, hs, hthl, hfl, List.length_nil, hz0, not_true_eq_false, ne_eq, or_self, and_self, false_implies, true_implies, true_and, and_true]
      (repeat' with_reducible first | refine And.intro ?_ ?_ | intro _) <;> try first | with_reducible (first | assumption | omega | contradiction) | decide
      all_goals try omega
      · refine evk_loop ⟨{ k : Nat // k ≤ x.length }, 4000, fun q => [(6, .one (.sl yPL w false)), (7, .one (.sl yCT x false)), (12, .one (.sl yCT (thinL TS x) false)), (117, .one (.int .i64 x.length)), (118, .one (.int .i64 q.1))], fun q => [], fun q => x.length - q.1⟩ ⟨0, Nat.zero_le _⟩ ?_ ?_
        · simp only [go_sem]
          first
           | (try first | rfl | (and_intros <;> first | trivial | rfl | omega)
              done)
        · rintro ⟨i, (hi : i ≤ x.length)⟩
          (simp -implicitDefEqProofs only [go_sem, bP, con4, con5, con6, con8, con18, con12, con13, con14, con10, con21, con20, con19, con15, con16, con7, conPlF, hT, hG, hk, hK, Tryz.results4]); (try simp (disch := decide +kernel) only [drawn, true_and, and_true])
          obtain ⟨o, ho⟩ : ∃ o, x.getD i ct0 = o := ⟨_, rfl⟩
          have eo : x.getD (i : Int).toNat (0, (ByteArray.empty, 0, ByteArray.empty, 0), 0, 0, 0, 0, 0, []) = o := ho
          try simp only [eo]
          refine fun hlt => ⟨⟨by omega, by omega⟩, fun _ _ _ => ?_⟩
          have hom : o ∈ x := by rw [← ho]; exact getD_mem (by omega)
          have hoy := fun y hy => hK5.hold hom (y := y) hy
          have eto : (thinL TS x).getD i ct0 = thinC TS o := by
           unfold thinL
           rw [getD_lt (by rw [List.length_map]; omega), List.getElem_map, ← ho, getD_lt (by omega)]
          have eto : (thinL TS x).getD (i : Int).toNat (0, (ByteArray.empty, 0, ByteArray.empty, 0), 0, 0, 0, 0, 0, []) = thinC TS o := eto
          obtain ⟨ys, hys⟩ : ∃ ys, o.pcs = ys := ⟨_, rfl⟩
          rw [hys] at hoy
          have hyl := hxc o hom
          rw [hys] at hyl
          have hys : o.2.2.2.2.2.2.2 = ys := hys
          try simp only [hys]
          refine evk_loop ⟨{ k : Nat // k ≤ ys.length }, 5000, fun q => [(6, .one (.sl yPL w false)), (7, .one (.sl yCT x false)), (12, .one (.sl yCT (thinL TS x) false)), (117, .one (.int .i64 x.length)), (118, .one (.int .i64 i)), (19, .one (.int .i64 i)), (125, .one (.sl yPC ys false)), (126, .one (.int .i64 ys.length)), (127, .one (.int .i64 q.1))], fun q => [], fun q => ys.length - q.1⟩ ⟨0, Nat.zero_le _⟩ ?_ ?_
          · simp only [go_sem]
            first
             | (try first | rfl | (and_intros <;> first | trivial | rfl | omega)
                done)
          rintro ⟨j, (hj : j ≤ ys.length)⟩
          (simp -implicitDefEqProofs only [go_sem, bP, con4, con5, con6, con8, con18, con12, con13, con14, con10, con21, con20, con19, con15, con16, con7, conPlF, hT, hG, hk, hK, Tryz.results4]); (try simp (disch := decide +kernel) only [drawn, true_and, and_true])
          obtain ⟨y, hy⟩ : ∃ y, ys.getD j pc0 = y := ⟨_, rfl⟩
          have ey : ys.getD (j : Int).toNat ((0, 0, 0), 0, 0) = y := hy
          try simp only [ey]
          refine ⟨fun hlt2 => ⟨⟨by omega, by omega⟩, fun _ _ _ => ?_⟩, fun hge2 => ?_⟩
          · have hyh := hoy y (by rw [← hy]; exact getD_mem (by omega))
            refine evk_loop ⟨{ k : Nat // k ≤ w.length }, 6000, fun q => [(6, .one (.sl yPL w false)), (7, .one (.sl yCT x false)), (12, .one (.sl yCT (thinL TS x) false)), (117, .one (.int .i64 x.length)), (118, .one (.int .i64 i)), (19, .one (.int .i64 i)), (125, .one (.sl yPC ys false)), (126, .one (.int .i64 ys.length)), (127, .one (.int .i64 j)), (21, .one (.loc 74 0)), (22, .one (.bool (decide (y.1 ∈ w.take q.1)))), (131, .one (.sl yPL w false)), (132, .one (.int .i64 w.length)), (133, .one (.int .i64 q.1))], fun q => [(74, .cells 39 [.int .i64 y.1.1, .int .i64 y.1.2.1, .int .i64 y.1.2.2, .int .i64 y.2.1, .int .i64 y.2.2])], fun q => w.length - q.1⟩ ⟨0, Nat.zero_le _⟩ ?_ ?_
            · simp only [go_sem]
              first
               | (try first | rfl | (and_intros <;> first | trivial | rfl | omega)
                  done)
            rintro ⟨k, (hkw : k ≤ w.length)⟩
            (simp -implicitDefEqProofs only [go_sem, bP, con4, con5, con6, con8, con18, con12, con13, con14, con10, con21, con20, con19, con15, con16, con7, conPlF, hT, hG, hk, hK, Tryz.results4]); (try simp (disch := decide +kernel) only [drawn, true_and, and_true])
            obtain ⟨p, hp⟩ : ∃ p, w.getD k pl0 = p := ⟨_, rfl⟩
            have ep : w.getD (k : Int).toNat (0, 0, 0) = p := hp
            try simp only [ep, eto, plE]
            have hst : k < w.length → decide (y.1 ∈ w.take (k + 1)) = (decide (y.1 ∈ w.take k) || decide (y.1 = p)) := fun h => by
             rw [List.take_succ_eq_append_getElem h, ← getD_lt (d := pl0) h, hp, Bool.eq_iff_iff]
             simp
            have hend : k = w.length → decide (y.1 ∈ w.take k) = decide (y.1 ∈ w) := fun h => by rw [h, List.take_length]
            try simp only [hyh]
            (repeat' with_reducible first | refine And.intro ?_ ?_ | intro _) <;> try first | with_reducible (first | assumption | omega | contradiction) | decide
            all_goals first
             | omega
             | (refine fin_lp ⟨k + 1, by omega⟩ ?_ (by dsimp only; omega)
                simp only [go_sem]
                rw [hst (by omega), ← pl_dec]
                exact ⟨by omega, rfl⟩)
             | (refine fin_lp ⟨j + 1, by omega⟩ ?_ (by dsimp only; omega)
                simp only [go_sem]
                try first | rfl | (and_intros <;> first | trivial | rfl | omega)
                done)
             | (have h1 := hend (by omega)
                have h2 : (!decide (y.1 ∈ w)) = decide (y.1 ∈ w.take k) := by assumption
                exact pl_not h1 h2)
          · refine ⟨by omega, ?_⟩
            refine fin_lp ⟨i + 1, by omega⟩ ?_ (by dsimp only; omega)
            simp only [go_sem]
            try first | rfl | (and_intros <;> first | trivial | rfl | omega))
end Go.Proofs.YtpglcghgklmedaaGreat

namespace Go.Ev
open Go.RowKit Go.WideShapes Go.ChangeShapes
def tyB (P : Program) : Nat → TypeId → Ty → Bool
 | 0, _, _ => false
 | d + 1, t, u => decide (P.cellsOf t = u.n) && decide (0 < u.n) && (match P.underlying t with
   | some (.struct fs) => tyFs (tyB P d) fs.toList 0 u
   | some (.int k) => (match u with | .int k' => decide (k = k') | _ => false)
   | some .bool => (match u with | .bool => true | _ => false)
   | some .string => (match u with | .str => true | _ => false)
   | some (.slice e) => (match u with | .sl v => tyB P d e v | _ => false)
   | _ => false)
where tyFs (f : TypeId → Ty → Bool) : List Field → Nat → Ty → Bool
 | [], _, _ => false
 | [x], off, u => decide (x.offset = off) && f x.type u
 | x :: y :: xs, off, .pair a b => decide (x.offset = off) && f x.type a && tyFs f (y :: xs) (off + a.n) b
 | _, _, _ => false
def sz : (t : Ty) → t.den → Nat
 | .int _, _ => 1
 | .bool, _ => 1
 | .str, s => s.size + 1
 | .unit, _ => 0
 | .sl t, xs => (xs.map (sz t)).sum + 1
 | .pair a b, p => sz a p.1 + sz b p.2
structure Bulk {H : Type} (B : DataW H → Nat) (BA : List (DataW H) → Nat) : Prop where
 lit : ∀ l, 1 ≤ B (.lit l)
 str : ∀ b, b.length + 1 ≤ B (.lit (.string b))
 nil : 1 ≤ B .nil
 sl : ∀ a b, BA a + 1 ≤ B (.slice a b)
 agg : ∀ a, BA a ≤ B (.agg a)
 cons : ∀ d r, BA (d :: r) = B d + BA r
section
variable {H : Type} {enc : TypeId × Value → H} {P : Program} {w : World} {B : DataW H → Nat} {BA : List (DataW H) → Nat}
theorem mapM_at {α β : Type} {f : α → Option β} : ∀ {l : List α} {r : List β}, l.mapM f = some r → r.length = l.length ∧ ∀ (i : Nat) (x : α) (y : β), l[i]? = some x → r[i]? = some y → f x = some y
 | [], r, h => by simp at h; subst h; exact ⟨rfl, fun i x y h => by simp at h⟩
 | a :: l, r, h => by
   rw [List.mapM_cons] at h
   cases hf : f a with
   | none => rw [hf] at h; cases h
   | some b =>
     rw [hf] at h
     cases hl : l.mapM f with
     | none => simp only [hl] at h; cases h
     | some bs =>
       simp only [hl] at h
       cases h
       obtain ⟨h1, h2⟩ := mapM_at hl
       refine ⟨by simp [h1], fun i x y hx hy => ?_⟩
       cases i with
       | zero => simp at hx hy; subst hx; subst hy; exact hf
       | succ i => simp at hx hy; exact h2 i x y hx hy
theorem cells?_spec {a : Addr} {n : Nat} {cs : List Value} (h : w.cells? 0 a n = some cs) : cs.length = n ∧ ∀ j u, cs[j]? = some u → w.cell? (a.add j) = some u := by
 unfold World.cells? at h
 rw [if_pos (Nat.zero_le _)] at h
 obtain ⟨h1, h2⟩ := mapM_at h
 refine ⟨by simpa using h1, fun j u hu => ?_⟩
 have hj : j < cs.length := (List.getElem?_eq_some_iff.1 hu).1
 have hjn : j < n := by simp at h1; omega
 exact h2 j j u (by simp [hjn]) hu
theorem sum_le {B : DataW H → Nat} {BA : List (DataW H) → Nat} (hB : Bulk B BA) {t : Ty} : ∀ (ys : List t.den) (ds : List (DataW H)), ys.length = ds.length → (∀ (i : Nat) (y : t.den) (d : DataW H), ys[i]? = some y → ds[i]? = some d → sz t y ≤ B d) → (ys.map (sz t)).sum ≤ BA ds
 | [], ds, _, _ => by simp
 | y :: ys, [], h, _ => by simp at h
 | y :: ys, d :: ds, h, hs => by
   have h0 := hs 0 y d rfl rfl
   have := sum_le hB ys ds (by simpa using h) (fun i y d hy hd => hs (i + 1) y d (by simpa using hy) (by simpa using hd))
   simp only [List.map_cons, List.sum_cons, hB.cons]
   omega
theorem roAll_mk {α : Type} {r : α → List Value → Prop} : ∀ (ys : List α) (cs : List (List Value)), ys.length = cs.length → (∀ (i : Nat) (y : α) (c : List Value), ys[i]? = some y → cs[i]? = some c → r y c) → roAll r ys cs.flatten
 | [], [], _, _ => rfl
 | [], _ :: _, h, _ => by simp at h
 | _ :: _, [], h, _ => by simp at h
 | y :: ys, c :: cs, h, hr => ⟨c, cs.flatten, by simp, hr 0 y c rfl rfl, roAll_mk ys cs (by simpa using h) (fun i z d hz hd => hr (i + 1) z d (by simpa using hz) (by simpa using hd))⟩
theorem pickQ {α : Type} {Q : Nat → α → Prop} : ∀ (n : Nat), (∀ i, i < n → ∃ y, Q i y) → ∃ ys : List α, ys.length = n ∧ ∀ (i : Nat) (y : α), ys[i]? = some y → Q i y
 | 0, _ => ⟨[], rfl, fun i y h => by simp at h⟩
 | n + 1, h => by
   obtain ⟨ys, h1, h2⟩ := pickQ n (fun i hi => h i (by omega))
   obtain ⟨y, hy⟩ := h n (by omega)
   refine ⟨ys ++ [y], by simp [h1], fun i z hz => ?_⟩
   by_cases e : i < n
   · rw [List.getElem?_append_left (by omega)] at hz; exact h2 i z hz
   · have hlt := (List.getElem?_eq_some_iff.1 hz).1
     have : i = n := by simp at hlt; omega
     subst this
     rw [List.getElem?_append_right (by omega), h1] at hz
     simp at hz; subst hz; exact hy
theorem pick_rows {α : Type} (f : Nat → Option α) : ∀ (n : Nat), (∀ i, i < n → ∃ y, f i = some y) → ∃ ys : List α, ys.length = n ∧ ∀ i, i < n → f i = ys[i]?
 | 0, _ => ⟨[], rfl, fun i hi => by omega⟩
 | n + 1, h => by
   obtain ⟨ys, h1, h2⟩ := pick_rows f n (fun i hi => h i (by omega))
   obtain ⟨y, hy⟩ := h n (by omega)
   refine ⟨ys ++ [y], by simp [h1], fun i hi => ?_⟩
   by_cases e : i = n
   · subst e; rw [hy, List.getElem?_append_right (by omega), h1]; simp
   · rw [h2 i (by omega), List.getElem?_append_left (by omega)]
theorem flatten_at {n : Nat} : ∀ (cs : List (List Value)), (∀ c ∈ cs, c.length = n) → ∀ (j : Nat) (u : Value), cs.flatten[j]? = some u → ∃ i q c, cs[i]? = some c ∧ c[q]? = some u ∧ j = i * n + q
 | [], _, j, u, h => by simp at h
 | c :: cs, hl, j, u, h => by
   rw [List.flatten_cons] at h
   by_cases hj : j < c.length
   · rw [List.getElem?_append_left hj] at h
     exact ⟨0, j, c, rfl, h, by omega⟩
   · rw [List.getElem?_append_right (by omega)] at h
     obtain ⟨i, q, d, h1, h2, h3⟩ := flatten_at cs (fun d hd => hl d (by simp [hd])) _ u h
     have := hl c (by simp)
     exact ⟨i + 1, q, d, by simpa using h1, h2, by rw [Nat.add_mul]; omega⟩
theorem add_add (a : Addr) (i j : Nat) (h : a.spot = none) : (a.add i).add j = a.add (i + j) := by
 obtain ⟨b, o, s⟩ := a
 simp only at h
 subst h
 simp [add_none, Nat.add_assoc]
theorem trod_ro (hB : Bulk B BA) : ∀ (fuel d : Nat) (t : TypeId) (u : Ty) (cs : List Value) (x : DataW H × List MemPlace), tyB P d t u = true → DataW.trod enc P w 0 (fun _ => true) true fuel t cs = some x → ∃ y : u.den, ro w (fun _ => False) u y cs ∧ sz u y ≤ B x.1
 | 0, d, t, u, cs, x, _, h => by simp [DataW.trod] at h
 | fuel + 1, 0, t, u, cs, x, ht, h => by cases ht
 | fuel + 1, d + 1, t, u, cs, x, ht, h => by
   simp only [tyB, Bool.and_eq_true, decide_eq_true_eq] at ht
   obtain ⟨⟨hn, hpos⟩, ht⟩ := ht
   cases hu : P.underlying t with
   | none => rw [hu] at ht; cases ht
   | some de =>
     rw [hu] at ht
     cases de <;> simp only at ht <;> try (cases ht; done)
     case bool =>
      cases u <;> simp only at ht <;> try (cases ht; done)
      obtain ⟨b, rfl, rfl⟩ := DataW.trod_bool hu h
      exact ⟨b, rfl, hB.lit _⟩
     case string =>
      cases u <;> simp only at ht <;> try (cases ht; done)
      obtain ⟨s, rfl, rfl, hs⟩ := DataW.trod_string hu h
      exact ⟨s, ⟨rfl, hs⟩, by have := hB.str s.data.toList; simpa [sz] using this⟩
     case int k =>
      cases u <;> simp only at ht <;> try (cases ht; done)
      simp only [decide_eq_true_eq] at ht
      subst ht
      obtain ⟨n, rfl, rfl, hs⟩ := DataW.trod_int hu h
      refine ⟨n, ⟨rfl, ?_⟩, hB.lit _⟩
      simpa [Lit.wf, InR] using hs
     case slice e =>
      cases u <;> simp only at ht <;> try (cases ht; done)
      rename_i v
      have hcell : P.cellsOf e = v.n ∧ 0 < v.n := by
       cases d with
       | zero => cases ht
       | succ d => simp only [tyB, Bool.and_eq_true, decide_eq_true_eq] at ht; exact ht.1
      rcases DataW.trod_slice hu h with ⟨rfl, rfl⟩ | ⟨a, len, cap, elems, rest, n, e1, rfl, rfl, _, hlc, hcm, hel, helem, hsp, _⟩
      · exact ⟨[], ⟨none, 0, 0, rfl, rfl, Nat.le_refl _, by simp [maxLen], .inl rfl⟩, by simpa [sz] using hB.nil⟩
      · cases e1
        obtain ⟨hrl, hrest⟩ := hsp rfl
        have hspot : 0 < cap → a.spot = none := by
         intro hc
         have key : ∀ i y, (w.cells? 0 (a.add (i * P.cellsOf e)) (P.cellsOf e)).bind (DataW.trod enc P w 0 (fun _ => true) true fuel e) = some y → i = 0 → a.spot = none := by
          rintro i y hy rfl
          rw [Nat.zero_mul] at hy
          cases hcs : w.cells? 0 (a.add 0) (P.cellsOf e) with
          | none => rw [hcs] at hy; cases hy
          | some c0 =>
            obtain ⟨g1, g2⟩ := cells?_spec hcs
            have hp : 0 < c0.length := by omega
            have g3 := g2 0 c0[0] (by simp [hp])
            simp only [Addr.add, if_true] at g3
            unfold World.cell? at g3
            split at g3
            · split at g3
              · cases g3
              · rename_i hs; simpa using hs
            · cases g3
         by_cases hl : 0 < len
         · have := helem 0 hl
           rw [List.getElem?_eq_getElem (by omega)] at this
           exact key 0 _ this rfl
         · have := hrest 0 (by omega)
           rw [List.getElem?_eq_getElem (by omega)] at this
           exact key _ _ this (by omega)
        have hex : ∀ i, i < len → ∃ c, w.cells? 0 (a.add (i * P.cellsOf e)) (P.cellsOf e) = some c := fun i hi => by
         have := helem i hi
         rw [List.getElem?_eq_getElem (by omega)] at this
         cases hc : w.cells? 0 (a.add (i * P.cellsOf e)) (P.cellsOf e) with
         | none => rw [hc] at this; cases this
         | some c => exact ⟨c, rfl⟩
        obtain ⟨css, hcl, hcs⟩ := pick_rows _ len hex
        have hrow : ∀ (i : Nat) (c : List Value), css[i]? = some c → ∃ y : v.den, ro w (fun _ => False) v y c ∧ ∃ q, elems[i]? = some q ∧ sz v y ≤ B q.1 := by
         intro i c hc
         have hi : i < len := by have := (List.getElem?_eq_some_iff.1 hc).1; omega
         have h1 := helem i hi
         rw [hcs i hi, hc] at h1
         simp only [Option.bind_some] at h1
         rw [List.getElem?_eq_getElem (by omega)] at h1
         obtain ⟨y, g1, g2⟩ := trod_ro hB fuel d e v c _ ht h1
         exact ⟨y, g1, _, List.getElem?_eq_getElem (by omega), g2⟩
        obtain ⟨ys, hyl, hyat⟩ := pickQ (Q := fun i (y : v.den) => ∀ c, css[i]? = some c → ro w (fun _ => False) v y c ∧ ∃ q, elems[i]? = some q ∧ sz v y ≤ B q.1) len (fun i hi => by
         obtain ⟨y, g⟩ := hrow i css[i] (List.getElem?_eq_getElem (by omega))
         exact ⟨y, fun c hc => by
          have : css[i] = c := by rw [List.getElem?_eq_getElem (by omega)] at hc; exact Option.some.inj hc
          rw [← this]; exact g⟩)
        have hro : roAll (ro w (fun _ => False) v) ys css.flatten := roAll_mk ys css (by omega) (fun i y c hy hc => (hyat i y hy c hc).1)
        refine ⟨ys, ⟨some a, len, cap, rfl, hyl.symm, hlc, hcm, ?_⟩, ?_⟩
        · by_cases hc0 : cap = 0
          · exact .inl hc0
          · have hs := hspot (by omega)
            refine .inr ⟨a.block, a.off, css.flatten, by obtain ⟨b, o, s⟩ := a; simp only at hs; subst hs; rfl, hro, fun j q hq => ⟨fun h => h, ?_⟩⟩
            obtain ⟨i, r, c, g1, g2, g3⟩ := flatten_at (n := v.n) css (fun c hc => by
             obtain ⟨i, hi, rfl⟩ := List.mem_iff_getElem.1 hc
             have := hcs i (by omega)
             rw [List.getElem?_eq_getElem hi] at this
             rw [(cells?_spec this).1]; exact hcell.1) j q hq
            have hi : i < len := by have := (List.getElem?_eq_some_iff.1 g1).1; omega
            have := hcs i hi
            rw [g1] at this
            have := (cells?_spec this).2 r q g2
            rw [add_add _ _ _ hs] at this
            obtain ⟨b, o, s⟩ := a
            simp only at hs; subst hs
            rw [add_none] at this
            rw [g3, ← hcell.1]
            exact this
        · have := sum_le hB ys (elems.map (·.1)) (by simp; omega) (fun i y q hy hq => by
           have hi : i < len := by have := (List.getElem?_eq_some_iff.1 hy).1; omega
           obtain ⟨_, z, g1, g2⟩ := hyat i y hy css[i] (List.getElem?_eq_getElem (by omega))
           rw [List.getElem?_map, g1] at hq
           simp at hq; subst hq; exact g2)
          have h2 := hB.sl (elems.map (·.1)) (rest.map (·.1))
          simp only [sz]
          omega
     case struct fs =>
      obtain ⟨xs, n, e1, rfl, hcl, hxl, hf⟩ := DataW.trod_struct hu h
      cases e1
      have key : ∀ (fl : List Field) (off : Nat) (u : Ty) (i : Nat), tyB.tyFs (tyB P d) fl off u = true → (∀ (j : Nat) (f : Field), fl[j]? = some f → fs[i + j]? = some f) → i + fl.length = fs.size → off + u.n ≤ cs.length →
       ∃ y : u.den, ro w (fun _ => False) u y ((cs.drop off).take u.n) ∧ sz u y ≤ BA ((xs.drop i).map (·.1)) := by
       intro fl
       induction fl with
       | nil => intro off u i h _ _ _; cases h
       | cons f fl ih =>
         intro off u i hfl hat hlen hoff
         have h0 := hat 0 f rfl
         have hf0 := hf i f (by simpa using h0)
         have hi : i < xs.length := by simp at hlen; omega
         have hdrop : xs.drop i = xs[i] :: xs.drop (i + 1) := List.drop_eq_getElem_cons hi
         have hlast : ∀ u, f.offset = off → tyB P d f.type u = true → ∃ y : u.den, ro w (fun _ => False) u y ((cs.drop off).take u.n) ∧ sz u y ≤ B xs[i].1 := by
          intro u e1 e2
          rw [List.getElem?_eq_getElem hi, e1] at hf0
          have hc : P.cellsOf f.type = u.n := by
           cases d with
           | zero => cases e2
           | succ d => simp only [tyB, Bool.and_eq_true, decide_eq_true_eq] at e2; exact e2.1.1
          rw [hc] at hf0
          exact trod_ro hB fuel d f.type u _ _ e2 hf0
         match fl, hfl with
         | [], hfl =>
           simp only [tyB.tyFs, Bool.and_eq_true, decide_eq_true_eq] at hfl
           obtain ⟨y, g1, g2⟩ := hlast u hfl.1 hfl.2
           refine ⟨y, g1, ?_⟩
           rw [hdrop, List.map_cons, hB.cons]; omega
         | f2 :: fl, hfl =>
           cases u <;> simp only [tyB.tyFs] at hfl <;> try (cases hfl; done)
           rename_i a b _
           simp only [Bool.and_eq_true, decide_eq_true_eq] at hfl
           obtain ⟨y, g1, g2⟩ := hlast a hfl.1.1 hfl.1.2
           simp only [Ty.n] at hoff
           obtain ⟨z, k1, k2⟩ := ih (off + a.n) b (i + 1) hfl.2 (fun j g hg => by have := hat (j + 1) g (by simpa using hg); rwa [show i + (j + 1) = i + 1 + j by omega] at this) (by simp at hlen ⊢; omega) (by omega)
           refine ⟨(y, z), ⟨_, _, ?_, g1, k1⟩, ?_⟩
           · simp only [Ty.n]
             rw [← List.drop_drop, ← List.take_add]
           · rw [hdrop, List.map_cons, hB.cons]
             simp only [sz]; omega
      obtain ⟨y, g1, g2⟩ := key fs.toList 0 u 0 ht (fun j f hj => by simpa using hj) (by simp) (by omega)
      refine ⟨y, ?_, ?_⟩
      · rw [List.drop_zero, List.take_of_length_le (by omega)] at g1; exact g1
      · rw [List.drop_zero] at g2
        exact Nat.le_trans g2 (hB.agg _)
end
end Go.Ev

namespace Go.Ev
open Go.RowKit Go.WideShapes Go.ChangeShapes
def lawPs (tys : List (Bool × Ty)) : List PK := tys.map fun p => .d p.1 p.2
def lawCon (tys : List (Bool × Ty)) (pre : dens (lawPs tys) → Prop) : Con := ⟨lawPs tys, [.d false .bool], pre, fun _ => (true, ()), id⟩
def szs : (tys : List (Bool × Ty)) → dens (lawPs tys) → Nat
 | [], _ => 0
 | p :: tys, x => sz p.2 x.1 + szs tys x.2
def tyBs (P : Program) : List TypeId → List (Bool × Ty) → Bool
 | [], [] => true
 | t :: ts, p :: tys => tyB P 20 t p.2 && (isAggB P t == p.1) && tyBs P ts tys
 | _, _ => false
theorem impl_expl (m : Mem) : ∀ (t : Ty) (y : t.den), impl m t (expl t y) = some y
 | .int k, n => by simp [impl, expl, implI]
 | .bool, b => rfl
 | .str, s => rfl
 | .unit, _ => rfl
 | .sl t, xs => by simp [impl, expl, implL, view, castTy_self]
 | .pair a b, p => by
   simp only [impl, expl]
   rw [List.take_append_of_le_length (by rw [expl_len]; omega), List.take_of_length_le (by rw [expl_len]; omega), List.drop_append_of_le_length (by rw [expl_len]; omega), List.drop_of_length_le (by rw [expl_len]; omega), List.nil_append]
   rw [impl_expl m a, impl_expl m b]
   rfl
section
variable {H : Type} {enc : TypeId × Value → H} {P : Program} {W : World} {B : DataW H → Nat} {BA : List (DataW H) → Nat}
theorem tyB_und {d : Nat} {t : TypeId} {u : Ty} (h : tyB P d t u = true) : ∃ de, P.underlying t = some de ∧ (match de with | .struct _ | .int _ | .bool | .string | .slice _ => True | _ => False) := by
 cases d with
 | zero => cases h
 | succ d =>
   simp only [tyB, Bool.and_eq_true] at h
   have h2 := h.2
   cases hu : P.underlying t with
   | none => rw [hu] at h2; cases h2
   | some de =>
     rw [hu] at h2
     refine ⟨de, rfl, ?_⟩
     cases de <;> first | trivial | (cases h2; done)
theorem val_rep (hB : Bulk B BA) {t : TypeId} {ag : Bool} {u : Ty} {v : Value} {d : DataW H} {ps : List MemPlace} {base : Nat} (hty : tyB P 20 t u = true) (hag : isAggB P t = ag) (hv : Value.okWide P W .any base t v)
 (h : DataW.Trod enc P W 0 (fun _ => true) true t v d ps) : ∃ y : u.den, repA ⟨W, fun _ => False, fun _ => .int .i64 0, fun _ => True⟩ (avOf ag (expl u y)) v ∧ sz u y ≤ B d ∧ Wf u y ∧ (ag = false → (expl u y).length = 1) := by
 obtain ⟨fuel, h⟩ := h
 obtain ⟨y, h1, h2⟩ := trod_ro hB fuel 20 t u _ _ hty h
 have h3 := expl_rep (x := ⟨W, fun _ => False, fun _ => .int .i64 0, fun _ => True⟩) u y _ h1
 have hl := repCs_len _ _ h3
 have hwf := ro_wf u y _ h1
 cases ag with
 | true =>
   refine ⟨y, ?_, h2, hwf, fun e => by cases e⟩
   have : ∃ cs, v = .agg cs := by
    unfold Value.okWide at hv
    unfold isAggB at hag
    cases hu : P.underlying t with
    | none => rw [hu] at hag; cases hag
    | some de =>
      rw [hu] at hv hag
      cases de <;> simp [aggB] at hag <;> (obtain ⟨cs, e, _⟩ := hv; exact ⟨cs, e⟩)
   obtain ⟨cs, rfl⟩ := this
   unfold avOf repA
   simp only [if_true]
   exact ⟨cs.toList, by simp, h3⟩
 | false =>
   have : v.cells.toList = [v] := by
    unfold Value.okWide at hv
    unfold isAggB at hag
    obtain ⟨de, hu, hde⟩ := tyB_und hty
    · rw [hu] at hv hag
      cases de <;> simp [aggB] at hag <;> simp only at hv hde <;> first
       | exact hde.elim
       | (unfold Cell.okWide Cell.ok at hv; rw [hu] at hv; cases v <;> first | rfl | exact False.elim hv)
   rw [this] at h3 hl
   refine ⟨y, ?_, h2, hwf, fun _ => by simpa using hl.symm⟩
   match hx : expl u y, hl with
   | [c], _ =>
     rw [hx] at h3
     obtain ⟨v', r, e, g1, _⟩ := repCs_cons.1 h3
     cases e
     unfold avOf repA
     simp only [Bool.false_eq_true, if_false]
     exact g1
theorem args_rep (hB : Bulk B BA) : ∀ (ts : List TypeId) (tys : List (Bool × Ty)) (vs : List Value) (ds : List (DataW H)) (ps : List MemPlace) (base : Nat), tyBs P ts tys = true → DataW.TrodAll enc P W 0 (fun _ => true) true ts vs ds ps →
 (∀ (j : Nat) (t : TypeId) (v : Value), ts[j]? = some t → vs[j]? = some v → Value.okWide P W .any base t v) → ∃ (x : dens (lawPs tys)) (avs : List AV), repAs ⟨W, fun _ => False, fun _ => .int .i64 0, fun _ => True⟩ avs vs ∧ rds (fun _ => .dead) (lawPs tys) avs = some x ∧ pids (lawPs tys) avs = [] ∧ szs tys x ≤ BA ds ∧ pwf (lawPs tys) x
 | [], [], vs, ds, ps, base, _, h, _ => by
   obtain ⟨rfl, rfl, rfl⟩ := trodAll_nil h
   exact ⟨(), [], by unfold repAs; rfl, rfl, rfl, Nat.zero_le _, trivial⟩
 | [], _ :: _, _, _, _, _, h, _, _ => by cases h
 | _ :: _, [], _, _, _, _, h, _, _ => by cases h
 | t :: ts, (ag, u) :: tys, vs, ds, ps, base, hty, h, hv => by
   obtain ⟨v, vs, d, ds, p, q, rfl, rfl, rfl, h1, h2⟩ := trodAll_cons h
   simp only [tyBs, Bool.and_eq_true, beq_iff_eq] at hty
   obtain ⟨y, g1, g2, g3, g4⟩ := val_rep hB hty.1.1 hty.1.2 (hv 0 t v rfl rfl) h1
   obtain ⟨x, avs, k1, k2, k3, k4, k5⟩ := args_rep hB ts tys vs ds q base hty.2 h2 (fun j t v ht hj => hv (j + 1) t v (by simpa using ht) (by simpa using hj))
   refine ⟨(y, x), avOf ag (expl u y) :: avs, by unfold repAs; exact ⟨v, vs, rfl, g1, k1⟩, ?_, ?_, ?_, ⟨g3, k5⟩⟩
   · have : rd (fun _ => Blk.dead) (.d ag u) (avOf ag (expl u y)) = some y := by
      cases ag with
      | true => simp only [avOf, if_true, rd]; exact impl_expl _ u y
      | false =>
        have := g4 rfl
        match hx : expl u y, this with
        | [c], _ =>
          simp only [avOf, Bool.false_eq_true, if_false, rd]
          rw [← hx]; exact impl_expl _ u y
     show implP (rd _ (.d ag u) _) (rds _ (lawPs tys) avs) = _
     rw [this, k2]; rfl
   · show pid (.d ag u) (avOf ag (expl u y)) ++ pids (lawPs tys) avs = []
     have : pid (.d ag u) (avOf ag (expl u y)) = [] := by
      cases avOf ag (expl u y) with
      | one c => cases c <;> rfl
      | _ => rfl
     rw [this]; exact k3
   · rw [hB.cons]
     simp only [szs]
     omega
theorem law_calls (hB : Bulk B BA) {f : FuncId} {tys : List (Bool × Ty)} {pre : dens (lawPs tys) → Prop} (hC : CtrOk P f (lawCon tys pre).ctr) {ts : List TypeId} (hty : tyBs P ts tys = true) {args : Array Value} {ds : List (DataW H)} {ps : List MemPlace} {base : Nat}
 (hA : DataW.TrodAll enc P W 0 (fun _ => true) true ts args.toList ds ps) (hv : ∀ (j : Nat) (t : TypeId) (v : Value), ts[j]? = some t → args.toList[j]? = some v → Value.okWide P W .any base t v)
 (hpre : ∀ x, szs tys x ≤ BA ds → pwf (lawPs tys) x → pre x) : Calls P f args W fun e W' => e = .returned (.bool true) ∧ Below W.heap.size W W' := by
 obtain ⟨x, avs, h1, h2, h3, h4, h5⟩ := args_rep hB ts tys _ ds ps base hty hA hv
 let cx : Cx := ⟨W, fun _ => False, fun _ => False, 0, fun _ => .int .i64 0, [], fun _ => none, False, []⟩
 have hM : RepM cx (fun _ => .int .i64 0) (fun _ => True) (fun _ => .dead) W :=
  ⟨fun _ => trivial, fun _ _ => rfl, fun _ _ _ h => (by cases h), fun _ _ h => (by cases h), fun _ _ h => (by cases h), ⟨rfl, rfl, rfl, fun _ => Nat.le_refl _, Nat.le_refl _, fun _ _ _ => rfl⟩, fun _ h => h.elim, fun _ => rfl, fun _ h => absurd h (Nat.not_lt_zero _), (fun _ h => by cases h), fun _ _ h => by cases h⟩
 have hr : repAs (rx cx (fun _ => .int .i64 0) (fun _ => True) (fun _ => .dead) W) avs args.toList := by
  refine repAs_keep (x := ⟨W, fun _ => False, fun _ => .int .i64 0, fun _ => True⟩) (y := rx cx (fun _ => .int .i64 0) (fun _ => True) (fun _ => .dead) W) ⟨.ex fun b _ _ => ⟨?_, rfl⟩, fun _ _ => rfl, fun _ h => h⟩ avs _ h1
  rintro (h | ⟨id, h, _⟩)
  · exact h
  · cases h
 have hp := hpre x h4 h5
 have hE : (lawCon tys pre).ctr avs (fun _ => .dead) 0 = (lawCon tys pre).eff avs (fun _ => .dead) 0 x := by
  show (lawCon tys pre).effO avs (fun _ => .dead) 0 (rds (fun _ => .dead) (lawPs tys) avs) = _
  rw [h2]
  show (if okIds (pids (lawPs tys) avs) (rws _ (lawPs tys) avs) then _ else _) = _
  rw [h3, if_pos ⟨List.nodup_nil, rfl⟩]
 have := hC False [] False.elim cx ⟨rfl, rfl⟩ (fun _ => .int .i64 0) (fun _ => True) (fun _ => .dead) W 0 avs args.toList hM (fun _ _ _ => trivial) hr (by rw [hE]; exact hp)
 rw [Array.toArray_toList] at this
 refine this.mono fun e W' he => ?_
 obtain ⟨v, rfl, σ', g1, g2, g3, _⟩ := he
 rw [hE] at g3
 have hb : v = .bool true := of_bool g3
 subst hb
 exact ⟨rfl, g1.evo.os, g1.evo.tape, g1.evo.output, g1.evo.size, fun k hk => g1.evo.block k hk (fun h => h)⟩
theorem trodAll_stays (hl : laidOutB P = true) {W' : World} {sp : Nat → Bool} : ∀ (ts : List TypeId) (vs : List Value) (ds : List (DataW H)) (ps : List MemPlace), (ts.all fun t => P.readableRec t && decide (t < P.types.size)) = true → DataW.TrodAll enc P W 0 (fun _ => true) true ts vs ds ps →
 (∀ p ∈ ps, W.sameAt W' p) → (∀ p ∈ ps, sp p.block = true) → DataW.TrodAll enc P W' 0 sp true ts vs ds ps
 | [], vs, ds, ps, _, h, _, _ => by obtain ⟨rfl, rfl, rfl⟩ := trodAll_nil h; exact trodAll_mk0
 | t :: ts, vs, ds, ps, hr, h, hs, hsp => by
   obtain ⟨v, vs, d, ds, p, q, rfl, rfl, rfl, h1, h2⟩ := trodAll_cons h
   simp only [List.all_cons, Bool.and_eq_true, decide_eq_true_eq] at hr
   exact ⟨p, q, WideElems.Trod_stays hl hr.1.1 hr.1.2 h1 (fun x hx => hs x (by simp [hx])) (fun x hx => hsp x (by simp [hx])),
    trodAll_stays hl ts vs ds q hr.2 h2 (fun x hx => hs x (by simp [hx])) (fun x hx => hsp x (by simp [hx])), rfl⟩
theorem law_post {f : Func} {s : ChangeSpec} {apart fresh handsOn again : Bool} {W' : World} {args : Array Value} {ds gs : List (DataW H)} {before : List MemPlace} (hl : laidOutB P = true) (hr : (f.params.toList.all fun t => P.readableRec t && decide (t < P.types.size)) = true)
 {tb : TypeId} (hres : f.resultTypes = #[tb]) (htb : P.underlying tb = some .bool) (hvars : s.vars = []) (hsf : (s.fn H (ds ++ gs)).results = [.lit (.bool true)] ∧ (s.fn H (ds ++ gs)).args = ds ∧ (s.fn H (ds ++ gs)).vars = [])
 (hW : DataW.Whole enc P f.params.toList s.vars apart W args.toList ds gs before) (hb : Below W.heap.size W W') : s.post enc P f apart fresh handsOn again W args (.bool true) W' := by
 have hlt : ∀ p ∈ before, p.block < W.heap.size := fun p hp => hW.lt p hp
 obtain ⟨pa, pv, hA, hV, hps, hz, hn⟩ := hW
 rw [hvars] at hV
 obtain ⟨rfl, rfl⟩ := trodVars_none hV
 have hbe : before = pa := by rw [hps, List.append_nil]
 subst hbe
 have hargs : ∀ sp : Nat → Bool, (∀ p ∈ before, sp p.block = true) → DataW.TrodAll enc P W' 0 sp true f.params.toList args.toList ds before := fun sp hsp =>
  trodAll_stays hl _ _ _ _ hr hA (fun p hp => hb.same (hlt p hp)) hsp
 have hbool : ∀ (b : Nat) (sp : Nat → Bool) (hd : Bool), DataW.TrodAll enc P W' b sp hd f.resultTypes.toList ((Value.bool true).resultList f.resultTypes.size) (s.fn H (ds ++ [])).results [] := fun b sp hd => by
  rw [hsf.1, hres]; exact trodAll_cons_mk (shut_bool htb true) trodAll_mk0
 refine ⟨ds, [], before, [], before, [], ⟨before, [], hA, by rw [hvars]; rfl, by simp, hz, hn⟩, hbool _ _ _, ?_, ?_, ?_, fun _ => ?_⟩
 · rw [hsf.2.1]; exact hargs _ (fun p hp => by simpa using hlt p hp)
 · rw [hvars, hsf.2.2]; rfl
 · exact World.keptBut_mono (fun p hp => ⟨hp, .inr (by simpa using hp)⟩) (hb.frame (· ∈ before))
 · refine ⟨ok_one hres rfl (okWide_bool_mk htb true), _, [], [] ++ before, ⟨[] ++ before, [], trodAll_append (hargs _ (fun _ _ => rfl)) (hbool _ _ _), by rw [hvars]; rfl, by simp, fun b off hp => ?_, fun ha => by simpa using hn ha⟩, fun p hp _ => by simpa using hp⟩
   have hp' : MemPlace.cell b off ∈ before := by simpa using hp
   rw [hb.frozen (hlt _ hp')]
   exact hz b off hp'
end
end Go.Ev

namespace Go.Proofs.YtpglcghgklmedaaGreat
open Go.Ev Go.ChangeShapes Go.WideShapes Go.ChangeAt Go.RowKit
theorem bulk_ok (H : Type) : Bulk (H := H) Rows.uptoBulk Rows.uptoBulkAll where
 lit l := by cases l <;> simp [Rows.uptoBulk]
 str b := by simp [Rows.uptoBulk]
 nil := by simp [Rows.uptoBulk]
 sl a b := by simp only [Rows.uptoBulk]; omega
 agg a := by simp only [Rows.uptoBulk]; omega
 cons d r := by simp only [Rows.uptoBulkAll]
theorem own : ownKnob Tryz.prog.godebug = none := by kernel_rfl
theorem laid : laidOutB Tryz.prog = true := by kernel_rfl
end Go.Proofs.YtpglcghgklmedaaGreat
