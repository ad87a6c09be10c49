/- Operations: the generators. -/
import Derived.Test.YthiddcobegnokaaGreatMzK2ToK3
import Derived.Test.YthiddcobegnokaaGreatEvFun4ToFun5
import Derived.Test.YthiddcobegnokaaGreatEvSimp
import Derived.Shelf.SlIter.Sorted
import Derived.Shelf.SlIter.Collect
set_option linter.unusedSimpArgs false
set_option linter.unusedVariables false
set_option maxRecDepth 100000
set_option maxHeartbeats 8000000
namespace Go.Proofs.YthiddcobegnokaaGreat
open Go.Ev

def con11 : RCon := { ps := [.p 77 ySR, .d false (.sl yOP)], rs := [.d false (.sl yOP)], pre := fun (x : Src × List Opn × Unit) => 0 ≤ x.1.2 ∧ x.2.1.length ≤ 1000, rel := fun (x : Src × List Opn × Unit) (y : List Opn × Unit) (z : Src × List Opn × Unit) => 0 ≤ z.1.2 ∧ y.1.length ≤ x.2.1.length + 1 }
theorem c11 : RCtrOk Tryz.prog 11 con11.rctr :=
 rcon_sound (G := ⟨[(17, con17.ctr), (30, con30.ctr)], [], [], []⟩) tab_ok (EnvOk.cons c17 has17 (EnvOk.cons c30 has30 EnvOk.nil)) rfl Tryz.func11 rfl con11 4629771061636894835 (by kernel_rfl) (by decide) (by decide) rfl (by decide) rfl (by
  rintro ⟨⟨(s : List Int), (a : Int)⟩, (l : List Opn), _⟩ hpre hwf X hT hG hk hK
  (simp -implicitDefEqProofs only [go_sem, Bool.not_eq_true', Bool.not_eq_false', Bool.or_eq_true, Bool.or_eq_false_iff, Bool.and_eq_true, Bool.and_eq_false_iff, decide_eq_true_eq, decide_eq_false_iff_not, Classical.not_not, not_or, maxLen, con11, con17, con30, hT, hG, hk, hK, Tryz.results11] at hwf ⊢); (try simp (disch := decide +kernel) only [drawn, true_and, and_true])
  obtain ⟨h1, h2⟩ : 0 ≤ a ∧ l.length ≤ 1000 := hpre
  have hs1 : 0 ≤ (Src.step (s, a)).snd := step_pos h1
  have hs2 : 0 ≤ (Src.step (s, a)).step.snd := step_pos hs1
  have hs3 : 0 ≤ (Src.step (s, a)).step.step.snd := step_pos hs2
  have hB : ¬ (l.length : Int) = 0 → 0 ≤ goMod (Src.raw (s, a)) l.length ∧ goMod (Src.raw (s, a)) l.length < l.length := fun h => goMod_bd _ _ (by omega)
  generalize goMod (Src.raw (s, a)) l.length = B at hB ⊢
  refine ⟨by omega, fun _ => ⟨fun h => ⟨by omega, ?_⟩, fun h _ => ?_⟩⟩
  · exact ⟨(l ++ [_], ()), ((s, a), l, ()), ⟨h1, by simp⟩, rfl, rfl, rfl⟩
  · have hB := hB h
    (repeat' (with_reducible (first | refine And.intro ?_ ?_ | intro _))) <;> (try (first | with_reducible (first | done | assumption | omega | contradiction) | decide))
    all_goals first | (simp only [List.length_set]; omega) | exact ⟨(_, ()), ((_, _), l, ()), ⟨by first | exact hs3 | exact hs2, by simp⟩, rfl, rfl, rfl⟩)
theorem rep_at (d : Nat) : (List.replicate 5 (0 : Int)).getD d 0 = 0 := by
 rw [List.getD_eq_getElem?_getD, List.getElem?_replicate]
 split <;> rfl
theorem tdiv_bd (x m n : Int) (h0 : 0 ≤ x) (h1 : x ≤ m) (h : 0 < n) : 0 ≤ x.tdiv n ∧ x.tdiv n ≤ m.tdiv n := by
 rw [Int.tdiv_eq_ediv_of_nonneg h0, Int.tdiv_eq_ediv_of_nonneg (by omega)]
 exact ⟨Int.ediv_nonneg h0 (by omega), Int.ediv_le_ediv h h1⟩
theorem ins_shift (l : List Opn) (z o : Opn) (i : Nat) (hi : i ≤ l.length) :
 (List.take (i + 1) (l ++ [z]) ++ (List.take (min (l.length - i) (List.drop i (List.take (i + (l.length + 1 - i)) (l ++ [z]))).length) (List.drop i (List.take (i + (l.length + 1 - i)) (l ++ [z]))) ++ List.drop (i + 1 + min (l.length - i) (List.drop i (List.take (i + (l.length + 1 - i)) (l ++ [z]))).length) (l ++ [z]))).length = l.length + 1
 ∧ (List.take (i + 1) (l ++ [z]) ++ (List.take (min (l.length - i) (List.drop i (List.take (i + (l.length + 1 - i)) (l ++ [z]))).length) (List.drop i (List.take (i + (l.length + 1 - i)) (l ++ [z]))) ++ List.drop (i + 1 + min (l.length - i) (List.drop i (List.take (i + (l.length + 1 - i)) (l ++ [z]))).length) (l ++ [z]))).set i o = l.take i ++ o :: l.drop i := by
 have h1 : List.take (i + (l.length + 1 - i)) (l ++ [z]) = l ++ [z] := List.take_of_length_le (by simp; omega)
 have h2 : List.drop i (l ++ [z]) = List.drop i l ++ [z] := List.drop_append_of_le_length hi
 have h3 : (List.drop i l ++ [z]).length = l.length - i + 1 := by simp
 have hl : i < (l ++ [z]).length := by simp; omega
 have h4 : List.take (i + 1) (l ++ [z]) = List.take i l ++ [(l ++ [z])[i]] := by rw [List.take_succ_eq_append_getElem hl, List.take_append_of_le_length hi]
 have h5 : min (l.length - i) (l.length - i + 1) = l.length - i := by omega
 have h6 : List.drop (i + 1 + (l.length - i)) (l ++ [z]) = [] := List.drop_of_length_le (by simp; omega)
 have h7 : List.take (l.length - i) (List.drop i l ++ [z]) = List.drop i l := by
  rw [List.take_append_of_le_length (by simp), List.take_of_length_le (by simp)]
 have h8 : (List.take i l).length = i := by simp; omega
 rw [h1, h2, h3, h5, h6, h4, h7, List.append_nil, List.append_assoc]
 constructor
 · simp; omega
 · rw [List.set_append_right _ _ (by omega), h8, Nat.sub_self]
   rfl
/-- What Ops gives. -/
structure OpsR (c : Int) (l : List Opn) : Prop where
 okl : OkL l
 len : l.length ≤ 30
 dv : ∀ o ∈ l, 1 ≤ o.2.1 ∧ o.2.1 ≤ 4
 tm : ∀ o ∈ l, o.1 ≤ 100
 bx : ∀ o ∈ l, 1 ≤ o.2.2.2.2.1 ∧ o.2.2.2.2.1 ≤ c
structure OInv (c t : Int) (k : Int) (sq : List Int) (l : List Opn) : Prop where
 gn : Gn l t sq
 kl : (l.length : Int) + k ≤ 30
 t0 : 0 ≤ t
 t1 : t ≤ 2 * l.length
 sl : sq.length = 5
 s0 : ∀ d, 0 ≤ sq.getD d 0
 s1 : ∀ d, sq.getD d 0 ≤ 2 * l.length
 bx : ∀ o ∈ l, 1 ≤ o.2.2.2.2.1 ∧ o.2.2.2.2.1 ≤ c
def con7 : RCon := { ps := [.p 77 ySR, .d false (.int .i64), .d false (.int .i64), .d false (.int .i64)], rs := [.d false (.sl yOP)], pre := fun (x : Src × Int × Int × Int × Unit) => 0 ≤ x.1.2 ∧ x.2.1 ≤ 30 ∧ 0 ≤ x.2.1 ∧ 1 ≤ x.2.2.2.1 ∧ x.2.2.2.1 ≤ 900, rel := fun (x : Src × Int × Int × Int × Unit) (y : List Opn × Unit) (z : Src × Int × Int × Int × Unit) => 0 ≤ z.1.2 ∧ OpsR x.2.2.2.1 y.1 }
theorem c7 : RCtrOk Tryz.prog 7 con7.rctr :=
 rcon_sound (G := ⟨[(17, con17.ctr), (21, con21.ctr)], [], [(92, 1), (95, 1)], []⟩) tab_ok (EnvOk.cons c17 has17 (EnvOk.cons c21 has21 EnvOk.nil)) rfl Tryz.func7 rfl con7 4835703278458516700987151 (by kernel_rfl) (by decide) (by decide) rfl (by decide) rfl (by
  rintro ⟨⟨(s : List Int), (a : Int)⟩, (most : Int), (n : Int), (c : Int), _⟩ hpre hwf X hT hG hk hK
  (simp -implicitDefEqProofs only [go_sem, Bool.not_eq_true', Bool.not_eq_false', Bool.or_eq_true, Bool.or_eq_false_iff, Bool.and_eq_true, Bool.and_eq_false_iff, decide_eq_true_eq, decide_eq_false_iff_not, Classical.not_not, not_or, maxLen, con7, con17, con21, hT, hG, hk, hK, Tryz.results7] at hwf ⊢); (try simp (disch := decide +kernel) only [drawn, true_and, and_true])
  obtain ⟨h1, h2, h3, h4, h5⟩ : 0 ≤ a ∧ most ≤ 30 ∧ 0 ≤ most ∧ 1 ≤ c ∧ c ≤ 900 := hpre
  have hs1 : 0 ≤ (Src.step (s, a)).snd := step_pos h1
  have hkb := goMod_bd (Src.raw (s, a)) (most + 1) (by omega)
  generalize goMod (Src.raw (s, a)) (most + 1) = K at hkb ⊢
  generalize Src.step (s, a) = S1 at hs1 ⊢
  obtain ⟨s1, a1⟩ := S1
  refine ⟨by omega, h1, fun _ => ?_⟩
  refine evk_loop ⟨{ q : Src × List Opn × List Int × Int × Int // 0 ≤ q.1.2 ∧ OInv c q.2.2.2.1 q.2.2.2.2 q.2.2.1 q.2.1 ∧ 0 ≤ q.2.2.2.2 }, 1000, fun q => [(0, .one (.loc 0 0)), (2, .one (.int .i64 n)), (3, .one (.int .i64 c)), (9, .one (.row 64)), (10, .one (.ep 65 1 0 0)), (11, .one (.int .i64 q.1.2.2.2.1)), (12, .one (.int .i64 q.1.2.2.2.2))],
   fun q => [(0, .cells 77 [.sl (.int .i64) q.1.1.1 false, .int .i64 q.1.1.2]), (64, .row 61 yOP q.1.2.1), (65, .row 78 (.int .i64) q.1.2.2.1)], fun q => q.1.2.2.2.2.toNat⟩ ⟨((s1, a1), [], List.replicate 5 0, 0, K), hs1, ⟨Gn.nil _ _, by simp only [List.length_nil]; omega, Int.le_refl _, by simp, by simp, fun d => (by rw [rep_at]; exact Int.le_refl _), fun d => (by rw [rep_at]; simp), fun o h => (by cases h)⟩, by simp only; omega⟩ ?_ ?_
  · simp only [go_sem]
    try (first | rfl | exact ⟨rfl, rfl⟩)
  · rintro ⟨⟨⟨s, a⟩, l, sq, t, k⟩, (h1 : 0 ≤ a), (hI : OInv c t k sq l), (hk0 : 0 ≤ k)⟩
    (simp -implicitDefEqProofs only [go_sem, Bool.not_eq_true', Bool.not_eq_false', Bool.or_eq_true, Bool.or_eq_false_iff, Bool.and_eq_true, Bool.and_eq_false_iff, decide_eq_true_eq, decide_eq_false_iff_not, Classical.not_not, not_or, maxLen, con7, con17, con21, hT, hG, hk, hK, Tryz.results7]); (try simp (disch := decide +kernel) only [drawn, true_and, and_true])
    obtain ⟨gn, kl, t0, t1, sl, s0, sb1, bx⟩ := hI
    have p1 : 0 ≤ (Src.step (s, a)).snd := step_pos h1
    have p2 : 0 ≤ (Src.step (s, a)).step.snd := step_pos p1
    have p3 : 0 ≤ (Src.step (s, a)).step.step.snd := step_pos p2
    have p4 : 0 ≤ (Src.step (s, a)).step.step.step.snd := step_pos p3
    have p5 : 0 ≤ (Src.step (s, a)).step.step.step.step.snd := step_pos p4
    have r1 := goMod_bd (Src.raw (s, a)) 3 (by omega)
    have r2 := goMod_bd (Src.step (s, a)).raw 4 (by omega)
    have r3 := goMod_bd (Src.step (s, a)).step.raw 8 (by omega)
    have r4 := goMod_bd (Src.step (s, a)).step.step.raw 4 (by omega)
    have r5 := goMod_bd (Src.step (s, a)).step.step.step.raw c (by omega)
    have r6 := tdiv_bd (goMod (Src.step (s, a)).step.raw 8) 7 7 (by omega) (by omega) (by omega)
    have r7 := tdiv_bd (goMod (Src.step (s, a)).step.step.raw 4) 3 3 (by omega) (by omega) (by omega)
    generalize (goMod (Src.step (s, a)).step.raw 8).tdiv 7 = V at r6 ⊢
    generalize (goMod (Src.step (s, a)).step.step.raw 4).tdiv 3 = W at r7 ⊢
    generalize goMod (Src.raw (s, a)) 3 = T at r1 ⊢
    generalize goMod (Src.step (s, a)).raw 4 = D at r2 ⊢
    generalize goMod (Src.step (s, a)).step.step.step.raw c = B at r5 ⊢
    have p8 : 0 ≤ (Src.step (s, a)).step.step.step.step.step.step.step.snd := step_pos (step_pos (step_pos p5))
    have hpc := pieceV_ok (Src.step (s, a)).step.step.step.step n
    generalize (Src.step (s, a)).step.step.step.step.step.step.step = S8 at p8 ⊢
    generalize (Src.step (s, a)).step.step.step.step = S5 at p5 hpc ⊢
    generalize pieceV S5 n = P at hpc ⊢
    obtain ⟨⟨P1, P2, P3⟩, P4, P5⟩ := P
    obtain ⟨s8, a8⟩ := S8
    have p8 : 0 ≤ a8 := p8
    have q0 := s0 (1 + D).toNat
    have q1 := sb1 (1 + D).toNat
    have st := set_at (sq := sq) (i := (1 + D).toNat) (x := sq.getD (1 + D).toNat 0 + (1 + V)) (by omega) (1 + D).toNat
    rw [if_pos rfl] at st
    have e6 : (7 : Int).tdiv 7 = 1 := by decide
    have e7 : (3 : Int).tdiv 3 = 1 := by decide
    rw [e6] at r6
    rw [e7] at r7
    simp only [st, List.length_set, sl]
    generalize hQ : sq.getD (1 + D).toNat 0 = Q at q0 q1 st ⊢
    (repeat' (with_reducible (first | refine And.intro ?_ ?_ | intro _))) <;> (try (first | with_reducible (first | done | assumption | omega | contradiction) | decide))
    · refine evk_loop ⟨{ i : Nat // i ≤ l.length ∧ ∀ z ∈ l.drop i, z.1 = t + T ∧ 1 + D < z.2.1 }, 1000, fun q => [(0, .one (.loc 0 0)), (2, .one (.int .i64 n)), (3, .one (.int .i64 c)), (9, .one (.row 64)), (10, .one (.ep 65 1 0 0)), (11, .one (.int .i64 (t + T))), (12, .one (.int .i64 k)), (14, .one (.loc 71 0)), (15, .one (.int .i64 q.1))],
       fun q => [(0, .cells 77 [.sl (.int .i64) s8 false, .int .i64 a8]), (64, .row 61 yOP l), (65, .row 78 (.int .i64) (sq.set (1 + D).toNat (Q + (1 + V)))), (71, .cells 61 [.int .i64 (t + T), .int .i64 (1 + D), .int .i64 (Q + (1 + V)), .int .i64 (1 + W), .int .i64 (1 + B), .int .i64 P1, .int .i64 P2, .int .i64 P3, .int .i64 P4, .int .i64 P5])], fun q => q.1⟩ ⟨l.length, Nat.le_refl _, by simp⟩ ?_ ?_
      · simp only [go_sem]
        try (first | rfl | exact ⟨rfl, rfl⟩)
      · rintro ⟨i, (hi : i ≤ l.length), (hd : ∀ z ∈ l.drop i, z.1 = t + T ∧ 1 + D < z.2.1)⟩
        (simp -implicitDefEqProofs only [go_sem, Bool.not_eq_true', Bool.not_eq_false', Bool.or_eq_true, Bool.or_eq_false_iff, Bool.and_eq_true, Bool.and_eq_false_iff, decide_eq_true_eq, decide_eq_false_iff_not, Classical.not_not, not_or, maxLen, con7, con17, con21, hT, hG, hk, hK, Tryz.results7]); (try simp (disch := decide +kernel) only [drawn, true_and, and_true])
        obtain ⟨u, hu⟩ : ∃ u, l.getD ((i : Int) - 1).toNat (0, 0, 0, 0, 0, (0, 0, 0), 0, 0) = u := ⟨_, rfl⟩
        have hu2 : l.getD (i - 1) o0 = u := by rw [← hu]; congr 1; omega
        simp only [hu]
        refine ⟨by omega, by omega, fun _ => ⟨by omega, fun _ => ⟨by omega, by omega, fun _ => ⟨by omega, fun _ => ⟨fun hc => ⟨by omega, ?_⟩, fun hc => ?_⟩⟩⟩⟩⟩
        · refine fin_lp ⟨i - 1, by omega, fun z hz => ?_⟩ ?_ (by dsimp only; omega)
          · rw [List.drop_eq_getElem_cons (by omega : i - 1 < l.length), show i - 1 + 1 = i by omega] at hz
            rcases List.mem_cons.1 hz with rfl | hz
            · rw [getD_at (by omega : i - 1 < l.length)] at hu2
              rw [hu2]; exact ⟨hc.1.2, by omega⟩
            · exact hd z hz
          · simp only [go_sem]
            try (first | rfl | exact ⟨rfl, rfl⟩ | (and_intros <;> first | rfl | omega))
        · have ll : (l ++ [((0, 0, 0, 0, 0, (0, 0, 0), 0, 0) : Opn)]).length = l.length + 1 := by simp
          have ln := gn.okl
          have lb : l.length ≤ 30 := by omega
          have e1 : ((i : Int) + 1).toNat = i + 1 := by omega
          have e2 : ((l.length + 1 : Nat) - ((i : Int) + 1)).toNat = l.length - i := by omega
          have e3 : ((l.length + 1 : Nat) - (i : Int)).toNat = l.length + 1 - i := by omega
          have e4 : (i : Int).toNat = i := by omega
          have w1 : (i + 1) + (l.length - i) ≤ l.length + 1 := by omega
          have w2 : i + (l.length + 1 - i) ≤ l.length + 1 := by omega
          simp only [ll, e1, e2, e3, e4]
          refine ⟨by omega, by omega, by omega, by omega, ?_⟩
          (simp -implicitDefEqProofs only [go_sem, Bool.not_eq_true', Bool.not_eq_false', Bool.or_eq_true, Bool.or_eq_false_iff, Bool.and_eq_true, Bool.and_eq_false_iff, decide_eq_true_eq, decide_eq_false_iff_not, Classical.not_not, not_or, maxLen, con7, con17, con21, hT, hG, hk, hK, Tryz.results7, w1, w2, ll]); (try simp (disch := decide +kernel) only [drawn, true_and, and_true])
          obtain ⟨i1, i2⟩ := ins_shift l ((0, 0, 0, 0, 0, (0, 0, 0), 0, 0) : Opn) (t + T, 1 + D, Q + (1 + V), 1 + W, 1 + B, (P1, P2, P3), P4, P5) i hi
          rw [e4]
          rw [i1, i2]
          refine ⟨by omega, fun _ => ⟨by omega, by omega, ?_⟩⟩
          have ok : okOp (t + T, 1 + D, Q + (1 + V), 1 + W, 1 + B, (P1, P2, P3), P4, P5) = true := by
           unfold okOp inV
           simp only [hpc, Bool.and_eq_true, Bool.or_eq_true, decide_eq_true_eq, and_true]
           omega
          have hmm : ∀ z ∈ l.take i ++ (t + T, 1 + D, Q + (1 + V), 1 + W, 1 + B, (P1, P2, P3), P4, P5) :: l.drop i, 1 ≤ z.2.2.2.2.1 ∧ z.2.2.2.2.1 ≤ c := fun z hz => by
           rcases List.mem_append.1 hz with h | h
           · exact bx z (List.mem_of_mem_take h)
           · rcases List.mem_cons.1 h with rfl | h
             · exact ⟨by dsimp only; omega, by dsimp only; omega⟩
             · exact bx z (List.mem_of_mem_drop h)
          have hgn := gn.ins (o := (t + T, 1 + D, Q + (1 + V), 1 + W, 1 + B, (P1, P2, P3), P4, P5)) (i := i) ok ⟨by dsimp only; omega, by dsimp only; omega⟩ (by dsimp only; omega) sl (by dsimp only; rw [hQ]; omega) hi hd (fun h0 q => by rw [hu2] at q; have q1 : u.1 = t + T := q.1; have q2 : 1 + D < u.2.1 := q.2; omega)
          have hlen : (l.take i ++ (t + T, 1 + D, Q + (1 + V), 1 + W, 1 + B, (P1, P2, P3), P4, P5) :: l.drop i).length = l.length + 1 := by simp; omega
          have sg : ∀ d, (sq.set (1 + D).toNat (Q + (1 + V))).getD d 0 = if (1 + D).toNat = d then Q + (1 + V) else sq.getD d 0 := fun d => set_at (by omega) d
          refine fin_lp ⟨((s8, a8), l.take i ++ (t + T, 1 + D, Q + (1 + V), 1 + W, 1 + B, (P1, P2, P3), P4, P5) :: l.drop i, sq.set (1 + D).toNat (Q + (1 + V)), t + T, k - 1), p8, ⟨hgn, ?_, ?_, ?_, ?_, fun d => ?_, fun d => ?_, hmm⟩, ?_⟩ ?_ ?_
          · rw [hlen]; dsimp only; omega
          · dsimp only; omega
          · rw [hlen]; dsimp only; omega
          · simp only [List.length_set]; exact sl
          · rw [sg]
            have := s0 d
            split <;> omega
          · rw [sg, hlen]
            have := sb1 d
            split <;> omega
          · dsimp only; omega
          · simp only [go_sem]
            try (first | rfl | exact ⟨rfl, rfl⟩ | (and_intros <;> first | rfl | omega))
          · dsimp only; omega
    · exact ⟨(l, ()), ((s, a), most, n, c, ()), ⟨h1, ⟨gn.okl, (show l.length ≤ 30 by omega), gn.dv, fun o ho => by have := gn.tm o ho; omega, bx⟩⟩, rfl, rfl, rfl⟩)
end Go.Proofs.YthiddcobegnokaaGreat

/- Operations: the reference's places. -/
set_option linter.unusedSimpArgs false
set_option linter.unusedVariables false
set_option maxRecDepth 100000
set_option maxHeartbeats 8000000
namespace Go.Proofs.YthiddcobegnokaaGreat
open Go.Ev

/-- A sorted list without repetitions. -/
theorem ddU_spec (xs : List Int) (hs : xs.Pairwise (· ≤ ·)) : ∀ i, i ≤ xs.length → (ddU xs i).Pairwise (fun a b => cmpV a b < 0) ∧ ∀ x, x ∈ ddU xs i ↔ x ∈ xs.take i
 | 0, _ => by simp [ddU]
 | i + 1, h => by
   obtain ⟨ih1, ih2⟩ := ddU_spec xs hs i (by omega)
   have hi : i < xs.length := by omega
   have g1 : xs.getD i 0 = xs[i] := by simp [hi]
   have ht : xs.take (i + 1) = xs.take i ++ [xs[i]] := List.take_succ_eq_append_getElem hi
   have hle : ∀ x ∈ xs.take i, x ≤ xs.getD (i - 1) 0 ∧ xs.getD (i - 1) 0 ∈ xs.take i := fun x hx => by
    obtain ⟨j, hj, rfl⟩ := List.getElem_of_mem hx
    have hj2 : j < i := by simp at hj; omega
    have g2 : xs.getD (i - 1) 0 = xs[i - 1] := by simp [show i - 1 < xs.length by omega]
    rw [g2, List.getElem_take]
    refine ⟨?_, ?_⟩
    · by_cases e : j = i - 1
      · subst e; exact Int.le_refl _
      · exact List.pairwise_iff_getElem.1 hs j (i - 1) (by omega) (by omega) (by omega)
    · have : (xs.take i)[i - 1]'(by simp; omega) = xs[i - 1] := List.getElem_take
      rw [← this]; exact List.getElem_mem _
   rw [ddU, ht, g1]
   split
   · rename_i e
     rw [List.append_nil]
     refine ⟨ih1, fun x => ?_⟩
     rw [ih2, List.mem_append]
     refine ⟨.inl, fun k => k.elim id fun k => ?_⟩
     have k : x = xs[i] := by simpa using k
     rw [k, e.2]
     have h0 : xs[0]'(by omega) ∈ xs.take i := by
      have : (xs.take i)[0]'(by simp; omega) = xs[0]'(by omega) := List.getElem_take
      rw [← this]; exact List.getElem_mem _
     exact (hle _ h0).2
   · rename_i e
     refine ⟨List.pairwise_append.2 ⟨ih1, by simp, fun x hx y hy => ?_⟩, fun x => by simp only [List.mem_append, ih2]⟩
     have hy : y = xs[i] := by simpa using hy
     subst hy
     have hx2 := (ih2 x).1 hx
     have h3 := hle x hx2
     have hi0 : i ≠ 0 := fun q => by subst q; simp at hx2
     have h4 : xs.getD (i - 1) 0 ≤ xs[i] := by
      have g2 : xs.getD (i - 1) 0 = xs[i - 1] := by simp [show i - 1 < xs.length by omega]
      rw [g2]
      exact List.pairwise_iff_getElem.1 hs (i - 1) i (by omega) (by omega) (by omega)
     have h5 : xs[i] ≠ xs.getD (i - 1) 0 := fun q => e ⟨hi0, q⟩
     rw [cmpV_lt]
     omega
theorem compV_spec (t : List Int) : (compV (sortI t)).Pairwise (fun a b => cmpV a b < 0) ∧ ∀ x, x ∈ compV (sortI t) ↔ x ∈ t := by
 obtain ⟨h1, h2⟩ := ddU_spec (sortI t) (sortI_sorted t) (sortI t).length (Nat.le_refl _)
 refine ⟨h1, fun x => ?_⟩
 unfold compV
 rw [h2, List.take_length]
 exact (sortI_perm t).mem_iff
/-- A placement, step by step. -/
def stepP (x : Plc) (o : Opn) : Plc := if o.2.2.2.1 = 2 then (o.2.2.2.2.2, 0, []) else (o.2.2.2.2.2, o.2.2.2.2.1, insC cmpV x.2.2 o.2.2.2.2.1)
def z0 : Plc := (((0, 0, 0), 0, 0), 0, [])
theorem trail_snoc (m : List Opn) (o : Opn) : trail (m ++ [o]) = if o.kind = 1 then o.box :: trail m else [] := by
 unfold trail
 rw [List.reverse_append, List.reverse_singleton, List.singleton_append, List.takeWhile_cons]
 by_cases h : o.kind = 1
 · simp [h]
 · simp [h]
theorem placeR_spec (m : List Opn) : (∀ o ∈ m, o.kind = 1 ∨ o.kind = 2) → ((m.foldl stepP z0).2.2.Pairwise (fun a b => cmpV a b < 0) ∧ (∀ x, x ∈ (m.foldl stepP z0).2.2 ↔ x ∈ trail m) ∧ (m ≠ [] → (m.foldl stepP z0).1 = (m.getD (m.length - 1) o0).2.2.2.2.2 ∧ (m.foldl stepP z0).2.1 = if (m.getD (m.length - 1) o0).kind = 1 then (m.getD (m.length - 1) o0).box else 0)) := by
 refine snoc_ind (P := fun m => (∀ o ∈ m, o.kind = 1 ∨ o.kind = 2) → ((m.foldl stepP z0).2.2.Pairwise (fun a b => cmpV a b < 0) ∧ (∀ x, x ∈ (m.foldl stepP z0).2.2 ↔ x ∈ trail m) ∧ (m ≠ [] → (m.foldl stepP z0).1 = (m.getD (m.length - 1) o0).2.2.2.2.2 ∧ (m.foldl stepP z0).2.1 = if (m.getD (m.length - 1) o0).kind = 1 then (m.getD (m.length - 1) o0).box else 0))) ?_ ?_ m
 · intro _
   exact ⟨by simp [z0], fun x => by simp [z0, trail], fun h => absurd rfl h⟩
 · intro m o ih hk
   obtain ⟨i1, i2, _⟩ := ih fun u hu => hk u (List.mem_append_left _ hu)
   have ho := hk o (by simp)
   have hl : (m ++ [o]).getD ((m ++ [o]).length - 1) o0 = o := by simp [List.getD_eq_getElem?_getD]
   rw [List.foldl_append, List.foldl_cons, List.foldl_nil, trail_snoc, hl]
   generalize m.foldl stepP z0 = x at i1 i2 ⊢
   have hko : o.kind = o.2.2.2.1 := rfl
   have hkb : o.box = o.2.2.2.2.1 := rfl
   unfold stepP
   rcases ho with e | e
   · rw [if_neg (by rw [← hko, e]; decide), if_pos e]
     refine ⟨insC_srt cmpV_cmp _ i1, fun y => ?_, fun _ => ⟨rfl, by rw [if_pos e]; rfl⟩⟩
     rw [insC_mem cmpV_cmp, i2, List.mem_cons]; rfl
   · rw [if_pos (by rw [← hko, e]), if_neg (by rw [e]; decide)]
     exact ⟨List.Pairwise.nil, fun y => Iff.rfl, fun _ => ⟨rfl, by rw [if_neg (by rw [e]; decide)]⟩⟩
theorem placeR_eq {m : List Opn} (hk : ∀ o ∈ m, o.kind = 1 ∨ o.kind = 2) (hm : m ≠ []) : m.foldl stepP z0 = placeV m := by
 obtain ⟨h1, h2, h3⟩ := placeR_spec m hk
 obtain ⟨h3, h4⟩ := h3 hm
 obtain ⟨c1, c2⟩ := compV_spec (trail m)
 unfold placeV
 refine Prod.ext h3 (Prod.ext h4 ?_)
 exact strict_ext (fun x y => Cmp.as cmpV_cmp x y) h1 c1 fun x => (h2 x).trans (c2 x).symm
theorem placeR_len (m : List Opn) : (m.foldl stepP z0).2.2.length ≤ m.length := by
 refine snoc_ind (P := fun m => (m.foldl stepP z0).2.2.length ≤ m.length) (by simp [z0]) (fun m o ih => ?_) m
 rw [List.foldl_append, List.foldl_cons, List.foldl_nil, List.length_append, List.length_singleton]
 generalize m.foldl stepP z0 = x at ih ⊢
 unfold stepP
 split
 · simp
 · have := insC_len (c := cmpV) o.2.2.2.2.1 x.2.2
   simp only
   omega
/-- The plates, inserted one after the other. -/
def platesR (l : List Opn) : List Plt := l.foldl (fun ks o => insC pltC ks o.plate) []
theorem platesR_snoc (l : List Opn) (o : Opn) : platesR (l ++ [o]) = insC pltC (platesR l) o.plate := by simp [platesR]
theorem platesR_spec (l : List Opn) : (platesR l).Pairwise (fun a b => pltC a b < 0) ∧ ∀ x, x ∈ platesR l ↔ ∃ o ∈ l, o.plate = x := by
 refine snoc_ind (P := fun l => (platesR l).Pairwise (fun a b => pltC a b < 0) ∧ ∀ x, x ∈ platesR l ↔ ∃ o ∈ l, o.plate = x) (by simp [platesR]) (fun l o ih => ?_) l
 rw [platesR_snoc]
 refine ⟨insC_srt pltC_cmp _ ih.1, fun x => ?_⟩
 rw [insC_mem pltC_cmp, ih.2]
 constructor
 · rintro (h | ⟨u, hu, e⟩)
   · exact ⟨o, by simp, h.symm⟩
   · exact ⟨u, List.mem_append_left _ hu, e⟩
 · rintro ⟨u, hu, e⟩
   rcases List.mem_append.1 hu with h | h
   · exact .inr ⟨u, h, e⟩
   · have : u = o := by simpa using h
     subst this; exact .inl e.symm
theorem platesR_len (l : List Opn) : (platesR l).length ≤ l.length := by
 refine snoc_ind (P := fun l => (platesR l).length ≤ l.length) (by simp [platesR]) (fun l o ih => ?_) l
 rw [platesR_snoc, List.length_append, List.length_singleton]
 have := insC_len (c := pltC) o.plate (platesR l)
 omega
theorem platesR_eq (l : List Opn) : platesR l = sortBy pltC (abK l) := by
 obtain ⟨h1, h2⟩ := platesR_spec l
 have hp := sortBy_perm pltC (abK l)
 have hn : (sortBy pltC (abK l)).Nodup := hp.nodup_iff.2 (abK_nodup l)
 have hs : (sortBy pltC (abK l)).Pairwise (fun a b => pltC a b < 0) := by
  have := (sortBy_sorted pltC_cmp (abK l)).and hn
  refine this.imp fun {a b} h => ?_
  have : pltC a b ≠ 0 := fun q => h.2 ((pltC_cmp.eq _ _).1 q)
  omega
 refine strict_ext (fun x y => Cmp.as pltC_cmp x y) h1 hs fun x => ?_
 rw [h2, hp.mem_iff, abK_mem]
theorem okOp_kind {o : Opn} (h : okOp o = true) : o.kind = 1 ∨ o.kind = 2 := by
 unfold okOp at h
 simp only [Bool.and_eq_true, Bool.or_eq_true, decide_eq_true_eq] at h
 exact h.1.1.2
/-- The places that the specification builds. -/
def placesR (l : List Opn) : List Plc := if valV l ≠ 0 then [] else (platesR l).map (fun p => (aboutP l p).foldl stepP z0)
theorem placesR_eq (l : List Opn) : placesR l = placesV l := by
 unfold placesR placesV
 by_cases h : valV l ≠ 0
 · rw [if_pos h, if_pos h]
 · rw [if_neg h, if_neg h, platesR_eq]
   refine List.map_congr_left fun p hp => ?_
   have ok := OkL.of (l := l) (by simpa using h)
   exact placeR_eq (fun o ho => okOp_kind (ok.ok o (List.mem_filter.1 ho).1)) (about_ne hp)
def con104 : Con := { ps := [.d false (.sl (.int .i64)), .d false (.int .i64)], rs := [.d false (.sl (.int .i64))], pre := fun (x : List Int × Int × Unit) => x.1.length ≤ 100000, out := fun (x : List Int × Int × Unit) => (insC cmpV x.1 x.2.1, ()), nw := id }
theorem c104 : CtrOk Tryz.prog 104 con104.ctr :=
 con_sound (G := ⟨[], [], [], []⟩) tab_ok EnvOk.nil rfl Tryz.func104 rfl con104 4295229555 (by kernel_rfl) (by decide) (by decide) rfl (by decide) rfl (by
  rintro ⟨(l : List Int), (n : Int), _⟩ hpre hwf X hT hG hk hK
  (simp -implicitDefEqProofs only [go_sem, Bool.not_eq_true', Bool.not_eq_false', Bool.or_eq_true, Bool.or_eq_false_iff, Bool.and_eq_true, Bool.and_eq_false_iff, decide_eq_true_eq, decide_eq_false_iff_not, Classical.not_not, not_or, maxLen, con104, hT, hG, hk, hK, Tryz.results104] at hwf ⊢); (try simp (disch := decide +kernel) only [drawn, true_and, and_true])
  have h1 : l.length ≤ 100000 := hpre
  refine evk_loop ⟨{ k : Nat // k ≤ l.length ∧ ∀ j, j < k → l.getD j 0 < n }, 1000, fun q => [(0, .one (.sl (.int .i64) l false)), (1, .one (.int .i64 n)), (5, .one (.int .i64 q.1))], fun q => [], fun q => l.length - q.1⟩ ⟨0, by omega, fun j hj => by omega⟩ ?_ ?_
  · simp only [go_sem]
    try (first | rfl | exact ⟨rfl, rfl⟩)
  · rintro ⟨k, (hkl : k ≤ l.length), (hlt : ∀ j, j < k → l.getD j 0 < n)⟩
    (simp -implicitDefEqProofs only [go_sem, Bool.not_eq_true', Bool.not_eq_false', Bool.or_eq_true, Bool.or_eq_false_iff, Bool.and_eq_true, Bool.and_eq_false_iff, decide_eq_true_eq, decide_eq_false_iff_not, Classical.not_not, not_or, maxLen, con104, hT, hG, hk, hK, Tryz.results104]); (try simp (disch := decide +kernel) only [drawn, true_and, and_true])
    have e4 : (k : Int).toNat = k := by omega
    simp only [e4]
    obtain ⟨v, hv⟩ : ∃ v, l.getD k 0 = v := ⟨_, rfl⟩
    have hat := insC_at (c := cmpV) n 0 hkl (fun j hj => (cmpV_lt _ _).2 (hlt j hj))
    simp only [cmpV_lt, cmpV_eq, hv] at hat ⊢
    refine fun _ => ⟨by omega, fun _ _ => ⟨fun hc => ⟨by omega, ?_⟩, fun hc _ => ⟨by omega, fun _ _ => ⟨fun he => ?_, fun he => ?_⟩⟩⟩⟩
    · refine fin_lp ⟨k + 1, by omega, fun j hj => ?_⟩ ?_ (by dsimp only; omega)
      · by_cases e : j = k
        · subst e; omega
        · exact hlt j (by omega)
      · simp only [go_sem]
        try (first | rfl | exact ⟨rfl, rfl⟩ | (and_intros <;> first | rfl | omega))
    · rw [hat (by omega), if_pos ⟨by omega, he.2⟩]
    · rw [hat (by omega), if_neg (by omega)]
      simp only [Int.toNat_natCast, List.take_length, List.append_assoc, List.singleton_append, List.length_append, List.length_take, List.length_drop, List.length_singleton]
      and_intros <;> first | omega | trivial | rfl)
def con76 : Con := { ps := [.d false (.sl yOP)], rs := [.d false (.sl yPL)], pre := fun (x : List Opn × Unit) => x.1.length ≤ 100000, out := fun (x : List Opn × Unit) => (platesR x.1, ()), nw := id }
theorem c76 : CtrOk Tryz.prog 76 con76.ctr :=
 con_sound (G := ⟨[(103, con103.ctr)], [], [(53, 1), (56, 1)], []⟩) tab_ok (EnvOk.cons c103 has103 EnvOk.nil) rfl Tryz.func76 rfl con76 35186519573629 (by kernel_rfl) (by decide) (by decide) rfl (by decide) rfl (by
  rintro ⟨(l : List Opn), _⟩ hpre hwf X hT hG hk hK
  (simp -implicitDefEqProofs only [go_sem, Bool.not_eq_true', Bool.not_eq_false', Bool.or_eq_true, Bool.or_eq_false_iff, Bool.and_eq_true, Bool.and_eq_false_iff, decide_eq_true_eq, decide_eq_false_iff_not, Classical.not_not, not_or, maxLen, con76, con103, hT, hG, hk, hK, Tryz.results76] at hwf ⊢); (try simp (disch := decide +kernel) only [drawn, true_and, and_true])
  have h1 : l.length ≤ 100000 := hpre
  refine evk_loop ⟨{ i : Nat // i ≤ l.length }, 1000, fun q => [(0, .one (.sl yOP l false)), (3, .one (.row 64)), (4, .one (.int .i64 q.1))], fun q => [(64, .row 52 yPL (platesR (l.take q.1)))], fun q => l.length - q.1⟩ ⟨0, by omega⟩ ?_ ?_
  · simp only [go_sem]
    try (first | rfl | exact ⟨rfl, rfl⟩)
  · rintro ⟨i, (hi : i ≤ l.length)⟩
    (simp -implicitDefEqProofs only [go_sem, Bool.not_eq_true', Bool.not_eq_false', Bool.or_eq_true, Bool.or_eq_false_iff, Bool.and_eq_true, Bool.and_eq_false_iff, decide_eq_true_eq, decide_eq_false_iff_not, Classical.not_not, not_or, maxLen, con76, con103, hT, hG, hk, hK, Tryz.results76]); (try simp (disch := decide +kernel) only [drawn, true_and, and_true])
    have hlen := platesR_len (l.take i)
    have hlt : (l.take i).length ≤ i := by simp; omega
    refine fun _ => ⟨fun hc => ?_, fun hc => ?_⟩
    · have hil : i < l.length := by omega
      obtain ⟨o, ho⟩ : ∃ o, l[i] = o := ⟨_, rfl⟩
      have eo : l.getD (i : Int).toNat (0, 0, 0, 0, 0, (0, 0, 0), 0, 0) = o := by rw [← ho]; simp [hil]
      have hts : platesR (l.take (i + 1)) = insC pltC (platesR (l.take i)) o.plate := by rw [List.take_succ_eq_append_getElem hil, ho, platesR_snoc]
      rw [eo]
      generalize platesR (l.take i) = ks at hlen hts ⊢
      refine ⟨by omega, fun _ _ => ?_⟩
      refine evk_loop ⟨{ k : Nat // k ≤ ks.length ∧ ∀ j, j < k → pltC (ks.getD j (0, 0, 0)) o.plate < 0 }, 1000, fun q => [(0, .one (.sl yOP l false)), (3, .one (.row 64)), (4, .one (.int .i64 i)), (5, .one (.loc 71 0)), (6, .one (.int .i64 q.1))], fun q => [(64, .row 52 yPL ks), (71, .cells 52 [.int .i64 o.2.2.2.2.2.1.1, .int .i64 o.2.2.2.2.2.1.2.1, .int .i64 o.2.2.2.2.2.1.2.2])], fun q => ks.length - q.1⟩ ⟨0, by omega, fun j hj => by omega⟩ ?_ ?_
      · simp only [go_sem]
        try (first | rfl | exact ⟨rfl, rfl⟩)
      · rintro ⟨k, (hkl : k ≤ ks.length), (hlt : ∀ j, j < k → pltC (ks.getD j (0, 0, 0)) o.plate < 0)⟩
        (simp -implicitDefEqProofs only [go_sem, Bool.not_eq_true', Bool.not_eq_false', Bool.or_eq_true, Bool.or_eq_false_iff, Bool.and_eq_true, Bool.and_eq_false_iff, decide_eq_true_eq, decide_eq_false_iff_not, Classical.not_not, not_or, maxLen, con76, con103, hT, hG, hk, hK, Tryz.results76]); (try simp (disch := decide +kernel) only [drawn, true_and, and_true])
        have e4 : (k : Int).toNat = k := by omega
        obtain ⟨v, hv⟩ : ∃ v, ks.getD k (0, 0, 0) = v := ⟨_, rfl⟩
        have hat := insC_at (c := pltC) o.plate (0, 0, 0) hkl hlt
        have hpl : o.plate = o.2.2.2.2.2.1 := rfl
        simp only [e4, hv] at hat ⊢
        refine fun _ => ⟨by omega, fun _ => ⟨by omega, fun _ _ => ⟨fun hc => ⟨by omega, ?_⟩, fun hc => ?_⟩⟩⟩
        · refine fin_lp ⟨k + 1, by omega, fun j hj => ?_⟩ ?_ (by dsimp only; omega)
          · by_cases e : j = k
            · subst e; rw [hv]; exact hc.2
            · exact hlt j (by omega)
          · simp only [go_sem]
            try (first | rfl | exact ⟨rfl, rfl⟩ | (and_intros <;> first | rfl | omega))
        · have hat := hat (fun h q => by rw [hpl] at q; omega)
          simp only [pltC_cmp.eq] at hat
          have hlks : ks.length ≤ 100000 := by omega
          refine fun _ => ⟨by omega, fun _ => ⟨by omega, fun _ => ⟨fun hc2 => ⟨by omega, ?_⟩, fun hc2 => ?_⟩⟩⟩
          · have hvo : v = o.plate := Prod.ext hc2.2.1 (Prod.ext hc2.2.2.1 hc2.2.2.2)
            rw [if_pos ⟨by omega, hvo⟩] at hat
            rw [hat] at hts
            refine fin_lp ⟨i + 1, by omega⟩ ?_ (by dsimp only; omega)
            simp only [go_sem]
            rw [hts]
            try (first | rfl | exact ⟨rfl, rfl⟩ | (and_intros <;> first | rfl | omega))
          · have hvo : ¬ (k < ks.length ∧ v = o.plate) := fun q => by
             have q2 := q.2
             subst q2
             rcases hc2 with h | h | h | h
             · omega
             · exact h rfl
             · exact h rfl
             · exact h rfl
            rw [if_neg hvo] at hat
            rw [hat] at hts
            have ll : (ks ++ [((0, 0, 0) : Plt)]).length = ks.length + 1 := by simp
            have e1 : ((k : Int) + 1).toNat = k + 1 := by omega
            have e2 : ((ks.length + 1 : Nat) - ((k : Int) + 1)).toNat = ks.length - k := by omega
            have e3 : ((ks.length + 1 : Nat) - (k : Int)).toNat = ks.length + 1 - k := by omega
            have w1 : (k + 1) + (ks.length - k) ≤ ks.length + 1 := by omega
            have w2 : k + (ks.length + 1 - k) ≤ ks.length + 1 := by omega
            simp only [ll, e1, e2, e3, e4]
            refine ⟨by omega, by omega, by omega, by omega, ?_⟩
            (simp -implicitDefEqProofs only [go_sem, Bool.not_eq_true', Bool.not_eq_false', Bool.or_eq_true, Bool.or_eq_false_iff, Bool.and_eq_true, Bool.and_eq_false_iff, decide_eq_true_eq, decide_eq_false_iff_not, Classical.not_not, not_or, maxLen, con76, con103, hT, hG, hk, hK, Tryz.results76, w1, w2, ll]); (try simp (disch := decide +kernel) only [drawn, true_and, and_true])
            obtain ⟨i1, i2⟩ := ins_shiftG ks ((0, 0, 0) : Plt) (o.2.2.2.2.2.1.1, o.2.2.2.2.2.1.2.1, o.2.2.2.2.2.1.2.2) k hkl
            try rw [e4]
            rw [i1, i2]
            refine ⟨by omega, fun _ => ⟨by omega, by omega, ?_⟩⟩
            refine fin_lp ⟨i + 1, by omega⟩ ?_ (by dsimp only; omega)
            simp only [go_sem]
            rw [hts]
            try (first | rfl | exact ⟨rfl, rfl⟩ | (and_intros <;> first | rfl | omega))
    · rw [List.take_of_length_le (by omega)])
theorem aboutP_succ {l : List Opn} {p : Plt} {i : Nat} {o : Opn} (h : i < l.length) (ho : l[i] = o) : (aboutP (l.take (i + 1)) p).foldl stepP z0 = if o.plate = p then stepP ((aboutP (l.take i) p).foldl stepP z0) o else (aboutP (l.take i) p).foldl stepP z0 := by
 rw [List.take_succ_eq_append_getElem h, ho]
 unfold aboutP
 rw [List.filter_append, List.foldl_append]
 by_cases e : o.plate = p <;> simp [e]
def con77 : Con := { ps := [.d false (.sl yOP), .d true yPL], rs := [.d true yPM], pre := fun (x : List Opn × Plt × Unit) => x.1.length ≤ 100000, out := fun (x : List Opn × Plt × Unit) => ((aboutP x.1 x.2.1).foldl stepP z0, ()), nw := id }
theorem c77 : CtrOk Tryz.prog 77 con77.ctr :=
 con_sound (G := ⟨[(104, con104.ctr)], [], [], []⟩) tab_ok (EnvOk.cons c104 has104 EnvOk.nil) rfl Tryz.func77 rfl con77 8590984315 (by kernel_rfl) (by decide) (by decide) rfl (by decide) rfl (by
  rintro ⟨(l : List Opn), ⟨(p1 : Int), (p2 : Int), (p3 : Int)⟩, _⟩ hpre hwf X hT hG hk hK
  (simp -implicitDefEqProofs only [go_sem, Bool.not_eq_true', Bool.not_eq_false', Bool.or_eq_true, Bool.or_eq_false_iff, Bool.and_eq_true, Bool.and_eq_false_iff, decide_eq_true_eq, decide_eq_false_iff_not, Classical.not_not, not_or, maxLen, con77, con104, hT, hG, hk, hK, Tryz.results77] at hwf ⊢); (try simp (disch := decide +kernel) only [drawn, true_and, and_true])
  have h1 : l.length ≤ 100000 := hpre
  obtain ⟨V, hV⟩ : ∃ V : Nat → Plc, V = fun i => (aboutP (l.take i) (p1, p2, p3)).foldl stepP z0 := ⟨_, rfl⟩
  have hVl : ∀ i, i ≤ l.length → (V i).2.2.length ≤ i := fun i hi => by
   rw [hV]
   refine Nat.le_trans (placeR_len _) (Nat.le_trans (about_len _ _) ?_)
   simp; omega
  have hV0 : V 0 = z0 := by rw [hV]; rfl
  refine evk_loop ⟨{ i : Nat // i ≤ l.length }, 1000, fun q => [(0, .one (.sl yOP l false)), (3, .one (.loc 70 0)), (4, .one (.loc 71 0)), (5, .one (.loc 72 0)), (6, .one (.int .i64 q.1))], fun q => [(70, .cells 52 [.int .i64 p1, .int .i64 p2, .int .i64 p3]), (71, .cells 88 [.undef, .undef, .undef, .undef, .undef, .undef, .undef]), (72, .cells 88 [.int .i64 (V q.1).1.1.1, .int .i64 (V q.1).1.1.2.1, .int .i64 (V q.1).1.1.2.2, .int .i64 (V q.1).1.2.1, .int .i64 (V q.1).1.2.2, .int .i64 (V q.1).2.1, .sl (.int .i64) (V q.1).2.2 false])], fun q => l.length - q.1⟩ ⟨0, by omega⟩ ?_ ?_
  · simp only [go_sem]
    simp only [hV0, z0]
    try (first | rfl | exact ⟨rfl, rfl⟩ | (and_intros <;> first | trivial | rfl))
  · rintro ⟨i, (hi : i ≤ l.length)⟩
    (simp -implicitDefEqProofs only [go_sem, Bool.not_eq_true', Bool.not_eq_false', Bool.or_eq_true, Bool.or_eq_false_iff, Bool.and_eq_true, Bool.and_eq_false_iff, decide_eq_true_eq, decide_eq_false_iff_not, Classical.not_not, not_or, maxLen, con77, con104, hT, hG, hk, hK, Tryz.results77]); (try simp (disch := decide +kernel) only [drawn, true_and, and_true])
    refine fun _ => ⟨fun hc => ?_, fun hc => ?_⟩
    · have hil : i < l.length := by omega
      obtain ⟨o, ho⟩ : ∃ o, l[i] = o := ⟨_, rfl⟩
      have eo : l.getD (i : Int).toNat (0, 0, 0, 0, 0, (0, 0, 0), 0, 0) = o := by rw [← ho]; simp [hil]
      have hst : V (i + 1) = if o.plate = (p1, p2, p3) then stepP (V i) o else V i := by rw [hV]; exact aboutP_succ hil ho
      have hli := hVl i (by omega)
      rw [eo]
      have hA : (¬o.2.2.2.2.2.1.1 = p1 ∨ ¬o.2.2.2.2.2.1.2.1 = p2 ∨ ¬o.2.2.2.2.2.1.2.2 = p3) → V (i + 1) = V i := fun q => by
       rw [hst, if_neg]
       intro e
       have e1 : o.2.2.2.2.2.1 = (p1, p2, p3) := e
       rw [e1] at q
       simp at q
      have hP : (o.2.2.2.2.2.1.1 = p1 ∧ o.2.2.2.2.2.1.2.1 = p2 ∧ o.2.2.2.2.2.1.2.2 = p3) → o.plate = (p1, p2, p3) := fun q => Prod.ext q.1 (Prod.ext q.2.1 q.2.2)
      have hB : (o.2.2.2.2.2.1.1 = p1 ∧ o.2.2.2.2.2.1.2.1 = p2 ∧ o.2.2.2.2.2.1.2.2 = p3) → o.2.2.2.1 = 2 → V (i + 1) = (o.2.2.2.2.2, 0, []) := fun q h => by
       rw [hst, if_pos (hP q), stepP, if_pos h]
      have hC : (o.2.2.2.2.2.1.1 = p1 ∧ o.2.2.2.2.2.1.2.1 = p2 ∧ o.2.2.2.2.2.1.2.2 = p3) → ¬ o.2.2.2.1 = 2 → V (i + 1) = (o.2.2.2.2.2, o.2.2.2.2.1, insC cmpV (V i).2.2 o.2.2.2.2.1) := fun q h => by
       rw [hst, if_pos (hP q), stepP, if_neg h]
      clear hst hP
      (repeat' (with_reducible (first | refine And.intro ?_ ?_ | intro _))) <;> (try (first | with_reducible (first | done | assumption | omega | contradiction) | decide))
      · have e := hA (by assumption)
        refine fin_lp ⟨i + 1, by omega⟩ ?_ (by dsimp only; omega)
        simp only [go_sem]
        simp only [e]
        try (first | rfl | exact ⟨rfl, rfl⟩ | (and_intros <;> first | trivial | rfl | omega))
      · have e := hB (by first | assumption | (and_intros <;> assumption)) (by assumption)
        refine fin_lp ⟨i + 1, by omega⟩ ?_ (by dsimp only; omega)
        simp only [go_sem]
        simp only [e]
        try (first | rfl | exact ⟨rfl, rfl⟩ | (and_intros <;> first | trivial | rfl | omega))
      · have e := hC (by first | assumption | (and_intros <;> assumption)) (by assumption)
        refine fin_lp ⟨i + 1, by omega⟩ ?_ (by dsimp only; omega)
        simp only [go_sem]
        simp only [e]
        try (first | rfl | exact ⟨rfl, rfl⟩ | (and_intros <;> first | trivial | rfl | omega))
    · have e : V i = (aboutP l (p1, p2, p3)).foldl stepP z0 := by rw [hV]; dsimp only; rw [List.take_of_length_le (by omega)]
      rw [← e]
      try (first | rfl | exact ⟨rfl, rfl⟩ | (and_intros <;> first | trivial | rfl | omega)))
def con43 : Con := { ps := [.d false (.sl yOP)], rs := [.d false (.sl yPM)], pre := fun _ => True, out := fun (x : List Opn × Unit) => (placesV x.1, ()), nw := id }
theorem c43 : CtrOk Tryz.prog 43 con43.ctr :=
 con_sound (G := ⟨[(28, con28.ctr), (76, con76.ctr), (77, con77.ctr)], [], [], []⟩) tab_ok (EnvOk.cons c28 has28 (EnvOk.cons c76 has76 (EnvOk.cons c77 has77 EnvOk.nil))) rfl Tryz.func43 rfl con43 16701 (by kernel_rfl) (by decide) (by decide) rfl (by decide) rfl (by
  rintro ⟨(l : List Opn), _⟩ hpre hwf X hT hG hk hK
  (simp -implicitDefEqProofs only [go_sem, Bool.not_eq_true', Bool.not_eq_false', Bool.or_eq_true, Bool.or_eq_false_iff, Bool.and_eq_true, Bool.and_eq_false_iff, decide_eq_true_eq, decide_eq_false_iff_not, Classical.not_not, not_or, maxLen, con43, con28, con76, con77, hT, hG, hk, hK, Tryz.results43] at hwf ⊢); (try simp (disch := decide +kernel) only [drawn, true_and, and_true])
  rw [← placesR_eq]
  refine fun _ => ⟨fun h => ?_, fun h => ?_⟩
  · unfold placesR; rw [if_pos h]
  · obtain ⟨hl, _⟩ := valV_zero h
    have hpl := platesR_len l
    refine ⟨by omega, fun _ => ?_⟩
    refine evk_loop ⟨{ i : Nat // i ≤ (platesR l).length }, 1000, fun q => [(0, .one (.sl yOP l false)), (3, .one (.row 64)), (4, .one (.sl yPL (platesR l) false)), (5, .one (.int .i64 q.1))], fun q => [(64, .row 88 yPM (((platesR l).take q.1).map (fun p => (aboutP l p).foldl stepP z0)))], fun q => (platesR l).length - q.1⟩ ⟨0, by omega⟩ ?_ ?_
    · simp only [go_sem]
      try (first | rfl | exact ⟨rfl, rfl⟩)
    · rintro ⟨i, (hi : i ≤ (platesR l).length)⟩
      (simp -implicitDefEqProofs only [go_sem, Bool.not_eq_true', Bool.not_eq_false', Bool.or_eq_true, Bool.or_eq_false_iff, Bool.and_eq_true, Bool.and_eq_false_iff, decide_eq_true_eq, decide_eq_false_iff_not, Classical.not_not, not_or, maxLen, con43, con28, con76, con77, hT, hG, hk, hK, Tryz.results43]); (try simp (disch := decide +kernel) only [drawn, true_and, and_true])
      refine fun _ => ⟨fun hc => ?_, fun hc => ?_⟩
      · have hil : i < (platesR l).length := by omega
        obtain ⟨p, hp⟩ : ∃ p, (platesR l)[i] = p := ⟨_, rfl⟩
        have ep : (platesR l).getD (i : Int).toNat (0, 0, 0) = p := by rw [← hp]; simp [hil]
        have hst : ((platesR l).take (i + 1)).map (fun p => (aboutP l p).foldl stepP z0) = ((platesR l).take i).map (fun p => (aboutP l p).foldl stepP z0) ++ [(aboutP l p).foldl stepP z0] := by
         rw [List.take_succ_eq_append_getElem hil, List.map_append, hp]; rfl
        have hml : (((platesR l).take i).map (fun p => (aboutP l p).foldl stepP z0)).length ≤ 360 := by simp; omega
        rw [ep]
        (repeat' (with_reducible (first | refine And.intro ?_ ?_ | intro _))) <;> (try (first | with_reducible (first | done | assumption | omega | contradiction) | decide))
        refine fin_lp ⟨i + 1, by omega⟩ ?_ (by dsimp only; omega)
        simp only [go_sem]
        rw [hst]
        try (first | rfl | exact ⟨rfl, rfl⟩ | (and_intros <;> first | trivial | rfl | omega))
      · rw [← placesR_eq]
        unfold placesR
        rw [if_neg (by simp [h]), List.take_of_length_le (by omega)])
end Go.Proofs.YthiddcobegnokaaGreat

/- The keys of a map, sorted: contracts of maps.Keys and slices.Sorted. -/
set_option linter.unusedSimpArgs false
set_option linter.unusedVariables false
namespace Go.Ev
open Go.Proofs (encStr)
variable {cx : Cx} {σ : Nat → Value} {N : Nat → Prop} {m : Mem} {w : World} {P : Program}

/-- Bytes, sorted. -/
def bytesOf (s : ByteArray) : List UInt8 := s.data.toList
def sortK (xs : List ByteArray) : List ByteArray := ((xs.map bytesOf).mergeSort leB).map fun l => ⟨l.toArray⟩

/-- A contract given as an effect. -/
structure Raw where
 ctr : Ctr
/-- The map is boxed; the function value captures the box. -/
def keysCtr (tb : TypeId) (g : FuncId) : Ctr := fun avs m fr => match avs with
 | [.one (.map id)] => (match m id with
   | .mapb .. => ⟨True, .one (.fn g [.loc fr 0]), [(fr, .cells tb [.map id])], True⟩
   | _ => bad)
 | _ => bad
def skEff (e : TypeId) (fr : Nat) : Blk → Eff
 | .mapb .str vt false va l => if stq .str vt = true then ⟨l.length ≤ 1000000, .one (.row fr), [(fr, .row e .str (sortK (l.map Prod.fst)))], True⟩ else bad
 | _ => bad
def sortedCtr (g : FuncId) (tb e : TypeId) : Ctr := fun avs m fr => match avs with
 | [.one (.fn g' [.loc i 0])] => (match m i with
   | .cells tb' [.map im] => if g' = g ∧ tb' = tb then skEff e fr (m im) else bad
   | _ => bad)
 | _ => bad

attribute [go_sem] keysCtr sortedCtr skEff stq
end Go.Ev
