/- Part. -/
import Derived.Test.YtpglcghgklmedaaGreatOdK1ToK3
import Derived.Test.YtpglcghgklmedaaGreatOdKPToKE
import Derived.Test.YtpglcghgklmedaaGreatEvBox
import Derived.Test.YtpglcghgklmedaaGreatOdKDToKeys
set_option linter.all false
set_option maxRecDepth 100000
set_option maxHeartbeats 8000000
namespace Go.Proofs.YtpglcghgklmedaaGreat
open Go.Ev
theorem rep_at (d : Nat) : (List.replicate 5 (0 : Int)).getD d 0 = 0 := by
 rw [List.getD_eq_getElem?_getD, List.getElem?_replicate]
 split <;> rfl
theorem tdiv_bd (x m n : Int) (h0 : 0 ≤ x) (h1 : x ≤ m) (h : 0 < n) : 0 ≤ x.tdiv n ∧ x.tdiv n ≤ m.tdiv n := by
 rw [Int.tdiv_eq_ediv_of_nonneg h0, Int.tdiv_eq_ediv_of_nonneg (by omega)]
 exact ⟨Int.ediv_nonneg h0 (by omega), Int.ediv_le_ediv h h1⟩
theorem ins_shift (l : List Opn) (z o : Opn) (i : Nat) (hi : i ≤ l.length) :
 (List.take (i + 1) (l ++ [z]) ++ (List.take (min (l.length - i) (List.drop i (List.take (i + (l.length + 1 - i)) (l ++ [z]))).length) (List.drop i (List.take (i + (l.length + 1 - i)) (l ++ [z]))) ++ List.drop (i + 1 + min (l.length - i) (List.drop i (List.take (i + (l.length + 1 - i)) (l ++ [z]))).length) (l ++ [z]))).length = l.length + 1
 ∧ (List.take (i + 1) (l ++ [z]) ++ (List.take (min (l.length - i) (List.drop i (List.take (i + (l.length + 1 - i)) (l ++ [z]))).length) (List.drop i (List.take (i + (l.length + 1 - i)) (l ++ [z]))) ++ List.drop (i + 1 + min (l.length - i) (List.drop i (List.take (i + (l.length + 1 - i)) (l ++ [z]))).length) (l ++ [z]))).set i o = l.take i ++ o :: l.drop i := by
 have h1 : List.take (i + (l.length + 1 - i)) (l ++ [z]) = l ++ [z] := List.take_of_length_le (by simp; omega)
 have h2 : List.drop i (l ++ [z]) = List.drop i l ++ [z] := List.drop_append_of_le_length hi
 have h3 : (List.drop i l ++ [z]).length = l.length - i + 1 := by simp
 have hl : i < (l ++ [z]).length := by simp; omega
 have h4 : List.take (i + 1) (l ++ [z]) = List.take i l ++ [(l ++ [z])[i]] := by rw [List.take_succ_eq_append_getElem hl, List.take_append_of_le_length hi]
 have h5 : min (l.length - i) (l.length - i + 1) = l.length - i := by omega
 have h6 : List.drop (i + 1 + (l.length - i)) (l ++ [z]) = [] := List.drop_of_length_le (by simp; omega)
 have h7 : List.take (l.length - i) (List.drop i l ++ [z]) = List.drop i l := by
  rw [List.take_append_of_le_length (by simp), List.take_of_length_le (by simp)]
 have h8 : (List.take i l).length = i := by simp; omega
 rw [h1, h2, h3, h5, h6, h4, h7, List.append_nil, List.append_assoc]
 constructor
 · simp; omega
 · rw [List.set_append_right _ _ (by omega), h8, Nat.sub_self]
   rfl
structure OpsR (c : Int) (l : List Opn) : Prop where
 okl : OkL l
 len : l.length ≤ 30
 dv : ∀ o ∈ l, 1 ≤ o.2.1 ∧ o.2.1 ≤ 4
 tm : ∀ o ∈ l, o.1 ≤ 100
 bx : ∀ o ∈ l, 1 ≤ o.2.2.2.2.1 ∧ o.2.2.2.2.1 ≤ c
structure OInv (c t : Int) (k : Int) (sq : List Int) (l : List Opn) : Prop where
 gn : Gn l t sq
 kl : (l.length : Int) + k ≤ 30
 t0 : 0 ≤ t
 t1 : t ≤ 2 * l.length
 sl : sq.length = 5
 s0 : ∀ d, 0 ≤ sq.getD d 0
 s1 : ∀ d, sq.getD d 0 ≤ 2 * l.length
 bx : ∀ o ∈ l, 1 ≤ o.2.2.2.2.1 ∧ o.2.2.2.2.1 ≤ c
def con7 : RCon := { ps := [.p 67 ySR, .d false (.int .i64), .d false (.int .i64), .d false (.int .i64)], rs := [.d false (.sl yOP)], pre := fun (x : Src × Int × Int × Int × Unit) => 0 ≤ x.1.2 ∧ x.2.1 ≤ 30 ∧ 0 ≤ x.2.1 ∧ 1 ≤ x.2.2.2.1 ∧ x.2.2.2.1 ≤ 900, rel := fun (x : Src × Int × Int × Int × Unit) (y : List Opn × Unit) (z : Src × Int × Int × Int × Unit) => 0 ≤ z.1.2 ∧ OpsR x.2.2.2.1 y.1 }
theorem c7 : RCtrOk Tryz.prog 7 con7.rctr :=
 rcon_sound (G := ⟨[(22, con22.ctr), (23, con23.ctr)], [], [(92, 1), (95, 1)], [], []⟩) tab_ok (EnvOk.cons c22 has22 (EnvOk.cons c23 has23 EnvOk.nil)) rfl Tryz.func7 rfl con7 4835703278458516700987151 (by kernel_rfl) (by decide) (by decide) rfl (by decide) rfl (by
  rintro ⟨⟨(s : List Int), (a : Int)⟩, (most : Int), (n : Int), (c : Int), _⟩ hpre hwf X hT hG hk hK
  (simp -implicitDefEqProofs only [go_sem, bP, con7, con22, con23, hT, hG, hk, hK, Tryz.results7] at hwf ⊢); (try simp (disch := decide +kernel) only [drawn, true_and, and_true])
  obtain ⟨h1, h2, h3, h4, h5⟩ : 0 ≤ a ∧ most ≤ 30 ∧ 0 ≤ most ∧ 1 ≤ c ∧ c ≤ 900 := hpre
  have hs1 : 0 ≤ (Src.step (s, a)).snd := step_pos h1
  have hkb := goMod_bd (Src.raw (s, a)) (most + 1) (by omega)
  generalize goMod (Src.raw (s, a)) (most + 1) = K at hkb ⊢
  generalize Src.step (s, a) = S1 at hs1 ⊢
  obtain ⟨s1, a1⟩ := S1
  refine ⟨by omega, h1, fun _ => ?_⟩
  refine evk_loop ⟨{ q : Src × List Opn × List Int × Int × Int // 0 ≤ q.1.2 ∧ OInv c q.2.2.2.1 q.2.2.2.2 q.2.2.1 q.2.1 ∧ 0 ≤ q.2.2.2.2 }, 1000, fun q => [(0, .one (.loc 0 0)), (2, .one (.int .i64 n)), (3, .one (.int .i64 c)), (9, .one (.row 64)), (10, .one (.ep 65 1 0 0)), (11, .one (.int .i64 q.1.2.2.2.1)), (12, .one (.int .i64 q.1.2.2.2.2))],
   fun q => [(0, .cells 67 [.sl (.int .i64) q.1.1.1 false, .int .i64 q.1.1.2]), (64, .row 73 yOP q.1.2.1), (65, .row 69 (.int .i64) q.1.2.2.1)], fun q => q.1.2.2.2.2.toNat⟩ ⟨((s1, a1), [], List.replicate 5 0, 0, K), hs1, ⟨Gn.nil _ _, by simp only [List.length_nil]; omega, Int.le_refl _, by simp, by simp, fun d => (by rw [rep_at]; exact Int.le_refl _), fun d => (by rw [rep_at]; simp), fun o h => (by cases h)⟩, by simp only; omega⟩ ?_ ?_
  · simp only [go_sem]
    try (first | rfl | exact ⟨rfl, rfl⟩)
  · rintro ⟨⟨⟨s, a⟩, l, sq, t, k⟩, (h1 : 0 ≤ a), (hI : OInv c t k sq l), (hk0 : 0 ≤ k)⟩
    (simp -implicitDefEqProofs only [go_sem, bP, con7, con22, con23, hT, hG, hk, hK, Tryz.results7]); (try simp (disch := decide +kernel) only [drawn, true_and, and_true])
    obtain ⟨gn, kl, t0, t1, sl, s0, sb1, bx⟩ := hI
    have p1 : 0 ≤ (Src.step (s, a)).snd := step_pos h1
    have p2 : 0 ≤ (Src.step (s, a)).step.snd := step_pos p1
    have p3 : 0 ≤ (Src.step (s, a)).step.step.snd := step_pos p2
    have p4 : 0 ≤ (Src.step (s, a)).step.step.step.snd := step_pos p3
    have p5 : 0 ≤ (Src.step (s, a)).step.step.step.step.snd := step_pos p4
    have r1 := goMod_bd (Src.raw (s, a)) 3 (by omega)
    have r2 := goMod_bd (Src.step (s, a)).raw 4 (by omega)
    have r3 := goMod_bd (Src.step (s, a)).step.raw 8 (by omega)
    have r4 := goMod_bd (Src.step (s, a)).step.step.raw 4 (by omega)
    have r5 := goMod_bd (Src.step (s, a)).step.step.step.raw c (by omega)
    have r6 := tdiv_bd (goMod (Src.step (s, a)).step.raw 8) 7 7 (by omega) (by omega) (by omega)
    have r7 := tdiv_bd (goMod (Src.step (s, a)).step.step.raw 4) 3 3 (by omega) (by omega) (by omega)
    generalize (goMod (Src.step (s, a)).step.raw 8).tdiv 7 = V at r6 ⊢
    generalize (goMod (Src.step (s, a)).step.step.raw 4).tdiv 3 = W at r7 ⊢
    generalize goMod (Src.raw (s, a)) 3 = T at r1 ⊢
    generalize goMod (Src.step (s, a)).raw 4 = D at r2 ⊢
    generalize goMod (Src.step (s, a)).step.step.step.raw c = B at r5 ⊢
    have p8 : 0 ≤ (Src.step (s, a)).step.step.step.step.step.step.step.snd := step_pos (step_pos (step_pos p5))
    have hpc := pieceV_ok (Src.step (s, a)).step.step.step.step n
    generalize (Src.step (s, a)).step.step.step.step.step.step.step = S8 at p8 ⊢
    generalize (Src.step (s, a)).step.step.step.step = S5 at p5 hpc ⊢
    generalize pieceV S5 n = P at hpc ⊢
    obtain ⟨⟨P1, P2, P3⟩, P4, P5⟩ := P
    obtain ⟨s8, a8⟩ := S8
    have p8 : 0 ≤ a8 := p8
    have q0 := s0 (1 + D).toNat
    have q1 := sb1 (1 + D).toNat
    have st := set_at (sq := sq) (i := (1 + D).toNat) (x := sq.getD (1 + D).toNat 0 + (1 + V)) (by omega) (1 + D).toNat
    rw [if_pos rfl] at st
    have e6 : (7 : Int).tdiv 7 = 1 := by decide
    have e7 : (3 : Int).tdiv 3 = 1 := by decide
    rw [e6] at r6
    rw [e7] at r7
    simp only [st, List.length_set, sl]
    generalize hQ : sq.getD (1 + D).toNat 0 = Q at q0 q1 st ⊢
    (repeat' with_reducible first | refine And.intro ?_ ?_ | intro _) <;> try first | with_reducible (first | assumption | omega | contradiction) | decide
    · refine evk_loop ⟨{ i : Nat // i ≤ l.length ∧ ∀ z ∈ l.drop i, z.1 = t + T ∧ 1 + D < z.2.1 }, 1000, fun q => [(0, .one (.loc 0 0)), (2, .one (.int .i64 n)), (3, .one (.int .i64 c)), (9, .one (.row 64)), (10, .one (.ep 65 1 0 0)), (11, .one (.int .i64 (t + T))), (12, .one (.int .i64 k)), (14, .one (.loc 71 0)), (15, .one (.int .i64 q.1))],
       fun q => [(0, .cells 67 [.sl (.int .i64) s8 false, .int .i64 a8]), (64, .row 73 yOP l), (65, .row 69 (.int .i64) (sq.set (1 + D).toNat (Q + (1 + V)))), (71, .cells 73 [.int .i64 (t + T), .int .i64 (1 + D), .int .i64 (Q + (1 + V)), .int .i64 (1 + W), .int .i64 (1 + B), .int .i64 P1, .int .i64 P2, .int .i64 P3, .int .i64 P4, .int .i64 P5])], fun q => q.1⟩ ⟨l.length, Nat.le_refl _, by simp⟩ ?_ ?_
      · simp only [go_sem]
        try (first | rfl | exact ⟨rfl, rfl⟩)
      · rintro ⟨i, (hi : i ≤ l.length), (hd : ∀ z ∈ l.drop i, z.1 = t + T ∧ 1 + D < z.2.1)⟩
        (simp -implicitDefEqProofs only [go_sem, bP, con7, con22, con23, hT, hG, hk, hK, Tryz.results7]); (try simp (disch := decide +kernel) only [drawn, true_and, and_true])
        obtain ⟨u, hu⟩ : ∃ u, l.getD ((i : Int) - 1).toNat (0, 0, 0, 0, 0, (0, 0, 0), 0, 0) = u := ⟨_, rfl⟩
        have hu2 : l.getD (i - 1) o0 = u := by rw [← hu]; congr 1; omega
        simp only [hu]
        refine ⟨by omega, by omega, fun _ => ⟨by omega, fun _ => ⟨by omega, by omega, fun _ => ⟨by omega, fun _ => ⟨fun hc => ⟨by omega, ?_⟩, fun hc => ?_⟩⟩⟩⟩⟩
        · refine fin_lp ⟨i - 1, by omega, fun z hz => ?_⟩ ?_ (by dsimp only; omega)
          · rw [List.drop_eq_getElem_cons (by omega : i - 1 < l.length), show i - 1 + 1 = i by omega] at hz
            rcases List.mem_cons.1 hz with rfl | hz
            · rw [getD_at (by omega : i - 1 < l.length)] at hu2
              rw [hu2]; exact ⟨hc.1.2, by omega⟩
            · exact hd z hz
          · simp only [go_sem]
            try first | rfl | (and_intros <;> first | rfl | omega)
        · have ll : (l ++ [((0, 0, 0, 0, 0, (0, 0, 0), 0, 0) : Opn)]).length = l.length + 1 := by simp
          have ln := gn.okl
          have lb : l.length ≤ 30 := by omega
          have e1 : ((i : Int) + 1).toNat = i + 1 := by omega
          have e2 : ((l.length + 1 : Nat) - ((i : Int) + 1)).toNat = l.length - i := by omega
          have e3 : ((l.length + 1 : Nat) - (i : Int)).toNat = l.length + 1 - i := by omega
          have e4 : (i : Int).toNat = i := by omega
          have w1 : (i + 1) + (l.length - i) ≤ l.length + 1 := by omega
          have w2 : i + (l.length + 1 - i) ≤ l.length + 1 := by omega
          simp only [ll, e1, e2, e3, e4]
          refine ⟨by omega, by omega, by omega, by omega, ?_⟩
          (simp -implicitDefEqProofs only [go_sem, bP, con7, con22, con23, hT, hG, hk, hK, Tryz.results7, w1, w2, ll]); (try simp (disch := decide +kernel) only [drawn, true_and, and_true])
          obtain ⟨i1, i2⟩ := ins_shift l ((0, 0, 0, 0, 0, (0, 0, 0), 0, 0) : Opn) (t + T, 1 + D, Q + (1 + V), 1 + W, 1 + B, (P1, P2, P3), P4, P5) i hi
          rw [e4]
          rw [i1, i2]
          refine ⟨by omega, fun _ => ⟨by omega, by omega, ?_⟩⟩
          have ok : okOp (t + T, 1 + D, Q + (1 + V), 1 + W, 1 + B, (P1, P2, P3), P4, P5) = true := by
           unfold okOp inV
           simp only [hpc, Bool.and_eq_true, Bool.or_eq_true, decide_eq_true_eq, and_true]
           omega
          have hmm : ∀ z ∈ l.take i ++ (t + T, 1 + D, Q + (1 + V), 1 + W, 1 + B, (P1, P2, P3), P4, P5) :: l.drop i, 1 ≤ z.2.2.2.2.1 ∧ z.2.2.2.2.1 ≤ c := fun z hz => by
           rcases List.mem_append.1 hz with h | h
           · exact bx z (List.mem_of_mem_take h)
           · rcases List.mem_cons.1 h with rfl | h
             · exact ⟨by dsimp only; omega, by dsimp only; omega⟩
             · exact bx z (List.mem_of_mem_drop h)
          have hgn := gn.ins (o := (t + T, 1 + D, Q + (1 + V), 1 + W, 1 + B, (P1, P2, P3), P4, P5)) (i := i) ok ⟨by dsimp only; omega, by dsimp only; omega⟩ (by dsimp only; omega) sl (by dsimp only; rw [hQ]; omega) hi hd (fun h0 q => by rw [hu2] at q; have q1 : u.1 = t + T := q.1; have q2 : 1 + D < u.2.1 := q.2; omega)
          have hlen : (l.take i ++ (t + T, 1 + D, Q + (1 + V), 1 + W, 1 + B, (P1, P2, P3), P4, P5) :: l.drop i).length = l.length + 1 := by simp; omega
          have sg : ∀ d, (sq.set (1 + D).toNat (Q + (1 + V))).getD d 0 = if (1 + D).toNat = d then Q + (1 + V) else sq.getD d 0 := fun d => set_at (by omega) d
          refine fin_lp ⟨((s8, a8), l.take i ++ (t + T, 1 + D, Q + (1 + V), 1 + W, 1 + B, (P1, P2, P3), P4, P5) :: l.drop i, sq.set (1 + D).toNat (Q + (1 + V)), t + T, k - 1), p8, ⟨hgn, ?_, ?_, ?_, ?_, fun d => ?_, fun d => ?_, hmm⟩, ?_⟩ ?_ ?_
          · rw [hlen]; dsimp only; omega
          · dsimp only; omega
          · rw [hlen]; dsimp only; omega
          · simp only [List.length_set]; exact sl
          · rw [sg]
            have := s0 d
            split <;> omega
          · rw [sg, hlen]
            have := sb1 d
            split <;> omega
          · dsimp only; omega
          · simp only [go_sem]
            try first | rfl | (and_intros <;> first | rfl | omega)
          · dsimp only; omega
    · exact ⟨(l, ()), ((s, a), most, n, c, ()), ⟨h1, ⟨gn.okl, (show l.length ≤ 30 by omega), gn.dv, fun o ho => by have := gn.tm o ho; omega, bx⟩⟩, rfl, rfl, rfl⟩)
theorem ddU_spec (xs : List Int) (hs : xs.Pairwise (· ≤ ·)) : ∀ i, i ≤ xs.length → (ddU xs i).Pairwise (fun a b => cmpV a b < 0) ∧ ∀ x, x ∈ ddU xs i ↔ x ∈ xs.take i
 | 0, _ => by simp [ddU]
 | i + 1, h => by
   obtain ⟨ih1, ih2⟩ := ddU_spec xs hs i (by omega)
   have hi : i < xs.length := by omega
   have g1 : xs.getD i 0 = xs[i] := by simp [hi]
   have ht : xs.take (i + 1) = xs.take i ++ [xs[i]] := List.take_succ_eq_append_getElem hi
   have hle : ∀ x ∈ xs.take i, x ≤ xs.getD (i - 1) 0 ∧ xs.getD (i - 1) 0 ∈ xs.take i := fun x hx => by
    obtain ⟨j, hj, rfl⟩ := List.getElem_of_mem hx
    have hj2 : j < i := by simp at hj; omega
    have g2 : xs.getD (i - 1) 0 = xs[i - 1] := by simp [show i - 1 < xs.length by omega]
    rw [g2, List.getElem_take]
    refine ⟨?_, ?_⟩
    · by_cases e : j = i - 1
      · subst e; exact Int.le_refl _
      · exact List.pairwise_iff_getElem.1 hs j (i - 1) (by omega) (by omega) (by omega)
    · have : (xs.take i)[i - 1]'(by simp; omega) = xs[i - 1] := List.getElem_take
      rw [← this]; exact List.getElem_mem _
   rw [ddU, ht, g1]
   split
   · rename_i e
     rw [List.append_nil]
     refine ⟨ih1, fun x => ?_⟩
     rw [ih2, List.mem_append]
     refine ⟨.inl, fun k => k.elim id fun k => ?_⟩
     have k : x = xs[i] := by simpa using k
     rw [k, e.2]
     have h0 : xs[0]'(by omega) ∈ xs.take i := by
      have : (xs.take i)[0]'(by simp; omega) = xs[0]'(by omega) := List.getElem_take
      rw [← this]; exact List.getElem_mem _
     exact (hle _ h0).2
   · rename_i e
     refine ⟨List.pairwise_append.2 ⟨ih1, by simp, fun x hx y hy => ?_⟩, fun x => by simp only [List.mem_append, ih2]⟩
     have hy : y = xs[i] := by simpa using hy
     subst hy
     have hx2 := (ih2 x).1 hx
     have h3 := hle x hx2
     have hi0 : i ≠ 0 := fun q => by subst q; simp at hx2
     have h4 : xs.getD (i - 1) 0 ≤ xs[i] := by
      have g2 : xs.getD (i - 1) 0 = xs[i - 1] := by simp [show i - 1 < xs.length by omega]
      rw [g2]
      exact List.pairwise_iff_getElem.1 hs (i - 1) i (by omega) (by omega) (by omega)
     have h5 : xs[i] ≠ xs.getD (i - 1) 0 := fun q => e ⟨hi0, q⟩
     rw [cmpV_lt]
     omega
theorem compV_spec (t : List Int) : (compV (sortI t)).Pairwise (fun a b => cmpV a b < 0) ∧ ∀ x, x ∈ compV (sortI t) ↔ x ∈ t := by
 obtain ⟨h1, h2⟩ := ddU_spec (sortI t) (sortI_sorted t) (sortI t).length (Nat.le_refl _)
 refine ⟨h1, fun x => ?_⟩
 unfold compV
 rw [h2, List.take_length]
 exact (sortI_perm t).mem_iff
def stepP (x : Plc) (o : Opn) : Plc := if o.2.2.2.1 = 2 then (o.2.2.2.2.2, 0, []) else (o.2.2.2.2.2, o.2.2.2.2.1, insC cmpV x.2.2 o.2.2.2.2.1)
def z0 : Plc := (((0, 0, 0), 0, 0), 0, [])
theorem trail_snoc (m : List Opn) (o : Opn) : trail (m ++ [o]) = if o.kind = 1 then o.box :: trail m else [] := by
 unfold trail
 rw [List.reverse_append, List.reverse_singleton, List.singleton_append, List.takeWhile_cons]
 by_cases h : o.kind = 1
 · simp [h]
 · simp [h]
theorem placeR_spec (m : List Opn) : (∀ o ∈ m, o.kind = 1 ∨ o.kind = 2) → ((m.foldl stepP z0).2.2.Pairwise (fun a b => cmpV a b < 0) ∧ (∀ x, x ∈ (m.foldl stepP z0).2.2 ↔ x ∈ trail m) ∧ (m ≠ [] → (m.foldl stepP z0).1 = (m.getD (m.length - 1) o0).2.2.2.2.2 ∧ (m.foldl stepP z0).2.1 = if (m.getD (m.length - 1) o0).kind = 1 then (m.getD (m.length - 1) o0).box else 0)) := by
 refine snoc_ind (P := fun m => (∀ o ∈ m, o.kind = 1 ∨ o.kind = 2) → ((m.foldl stepP z0).2.2.Pairwise (fun a b => cmpV a b < 0) ∧ (∀ x, x ∈ (m.foldl stepP z0).2.2 ↔ x ∈ trail m) ∧ (m ≠ [] → (m.foldl stepP z0).1 = (m.getD (m.length - 1) o0).2.2.2.2.2 ∧ (m.foldl stepP z0).2.1 = if (m.getD (m.length - 1) o0).kind = 1 then (m.getD (m.length - 1) o0).box else 0))) ?_ ?_ m
 · intro _
   exact ⟨by simp [z0], fun x => by simp [z0, trail], fun h => absurd rfl h⟩
 · intro m o ih hk
   obtain ⟨i1, i2, _⟩ := ih fun u hu => hk u (List.mem_append_left _ hu)
   have ho := hk o (by simp)
   have hl : (m ++ [o]).getD ((m ++ [o]).length - 1) o0 = o := by simp [List.getD_eq_getElem?_getD]
   rw [List.foldl_append, List.foldl_cons, List.foldl_nil, trail_snoc, hl]
   generalize m.foldl stepP z0 = x at i1 i2 ⊢
   have hko : o.kind = o.2.2.2.1 := rfl
   have hkb : o.box = o.2.2.2.2.1 := rfl
   unfold stepP
   rcases ho with e | e
   · rw [if_neg (by rw [← hko, e]; decide), if_pos e]
     refine ⟨insC_srt cmpV_cmp _ i1, fun y => ?_, fun _ => ⟨rfl, by rw [if_pos e]; rfl⟩⟩
     rw [insC_mem cmpV_cmp, i2, List.mem_cons]; rfl
   · rw [if_pos (by rw [← hko, e]), if_neg (by rw [e]; decide)]
     exact ⟨List.Pairwise.nil, fun y => Iff.rfl, fun _ => ⟨rfl, by rw [if_neg (by rw [e]; decide)]⟩⟩
theorem placeR_eq {m : List Opn} (hk : ∀ o ∈ m, o.kind = 1 ∨ o.kind = 2) (hm : m ≠ []) : m.foldl stepP z0 = placeV m := by
 obtain ⟨h1, h2, h3⟩ := placeR_spec m hk
 obtain ⟨h3, h4⟩ := h3 hm
 obtain ⟨c1, c2⟩ := compV_spec (trail m)
 unfold placeV
 refine Prod.ext h3 (Prod.ext h4 ?_)
 exact strict_ext (fun x y => Cmp.as cmpV_cmp x y) h1 c1 fun x => (h2 x).trans (c2 x).symm
theorem placeR_len (m : List Opn) : (m.foldl stepP z0).2.2.length ≤ m.length := by
 refine snoc_ind (P := fun m => (m.foldl stepP z0).2.2.length ≤ m.length) (by simp [z0]) (fun m o ih => ?_) m
 rw [List.foldl_append, List.foldl_cons, List.foldl_nil, List.length_append, List.length_singleton]
 generalize m.foldl stepP z0 = x at ih ⊢
 unfold stepP
 split
 · simp
 · have := insC_len (c := cmpV) o.2.2.2.2.1 x.2.2
   simp only
   omega
def platesR (l : List Opn) : List Plt := l.foldl (fun ks o => insC pltC ks o.plate) []
theorem platesR_snoc (l : List Opn) (o : Opn) : platesR (l ++ [o]) = insC pltC (platesR l) o.plate := by simp [platesR]
theorem platesR_spec (l : List Opn) : (platesR l).Pairwise (fun a b => pltC a b < 0) ∧ ∀ x, x ∈ platesR l ↔ ∃ o ∈ l, o.plate = x := by
 refine snoc_ind (P := fun l => (platesR l).Pairwise (fun a b => pltC a b < 0) ∧ ∀ x, x ∈ platesR l ↔ ∃ o ∈ l, o.plate = x) (by simp [platesR]) (fun l o ih => ?_) l
 rw [platesR_snoc]
 refine ⟨insC_srt pltC_cmp _ ih.1, fun x => ?_⟩
 rw [insC_mem pltC_cmp, ih.2]
 constructor
 · rintro (h | ⟨u, hu, e⟩)
   · exact ⟨o, by simp, h.symm⟩
   · exact ⟨u, List.mem_append_left _ hu, e⟩
 · rintro ⟨u, hu, e⟩
   rcases List.mem_append.1 hu with h | h
   · exact .inr ⟨u, h, e⟩
   · have : u = o := by simpa using h
     subst this; exact .inl e.symm
theorem platesR_eq (l : List Opn) : platesR l = sortBy pltC (abK l) := by
 obtain ⟨h1, h2⟩ := platesR_spec l
 have hp := sortBy_perm pltC (abK l)
 have hn : (sortBy pltC (abK l)).Nodup := hp.nodup_iff.2 (abK_nodup l)
 have hs : (sortBy pltC (abK l)).Pairwise (fun a b => pltC a b < 0) := by
  have := (sortBy_sorted pltC_cmp (abK l)).and hn
  refine this.imp fun {a b} h => ?_
  have : pltC a b ≠ 0 := fun q => h.2 ((pltC_cmp.eq _ _).1 q)
  omega
 refine strict_ext (fun x y => Cmp.as pltC_cmp x y) h1 hs fun x => ?_
 rw [h2, hp.mem_iff, abK_mem]
theorem okOp_kind {o : Opn} (h : okOp o = true) : o.kind = 1 ∨ o.kind = 2 := by
 unfold okOp at h
 simp only [Bool.and_eq_true, Bool.or_eq_true, decide_eq_true_eq] at h
 exact h.1.1.2
def placesR (l : List Opn) : List Plc := if valV l ≠ 0 then [] else (platesR l).map (fun p => (aboutP l p).foldl stepP z0)
theorem placesR_eq (l : List Opn) : placesR l = placesV l := by
 unfold placesR placesV
 by_cases h : valV l ≠ 0
 · rw [if_pos h, if_pos h]
 · rw [if_neg h, if_neg h, platesR_eq]
   refine List.map_congr_left fun p hp => ?_
   have ok := OkL.of (l := l) (by simpa using h)
   exact placeR_eq (fun o ho => okOp_kind (ok.ok o (List.mem_filter.1 ho).1)) (about_ne hp)
theorem db_cand {l : List Plm} {z : Plm} (hz : z ∈ l) (h1 : ∀ y ∈ l, y.1.1 = z.1.1 → y = z) (c : List Cnt) : candV c l z.1.1 = z.2.2 := by
 unfold candV
 split
 · rename_i y hy
   have h2 := List.find?_some hy
   rw [h1 y (List.mem_of_find?_eq_some hy) (of_decide_eq_true h2)]
 · rename_i hy
   exact absurd (decide_eq_true rfl) (List.find?_eq_none.1 hy z hz)
theorem db_plm {k : Int} {l : List Opn} (hO : OpsR k l) {z : Plm} (hz : z ∈ placesV l) : (∀ y ∈ placesV l, y.1.1 = z.1.1 → y = z) ∧ okPc z.1 = true ∧ z.2.2.Nodup ∧ ∀ m ∈ z.2.2, 1 ≤ m ∧ m ≤ k := by
 have key : ∀ p, p ∈ sortBy pltC (abK l) → (placeV (aboutP l p)).1.1 = p ∧ ∃ o ∈ l, o.2.2.2.2.2 = (placeV (aboutP l p)).1 := fun p hp => by
  have hne := about_ne hp
  unfold placeV
  have hl : 0 < (aboutP l p).length := List.length_pos_iff.2 hne
  have hm : (aboutP l p).getD ((aboutP l p).length - 1) o0 ∈ aboutP l p := getD_mem (by omega)
  have := (List.mem_filter.1 hm).2
  exact ⟨of_decide_eq_true this, _, (List.mem_filter.1 hm).1, rfl⟩
 unfold placesV at hz ⊢
 split at hz
 · cases hz
 · rename_i h
   rw [if_neg h]
   obtain ⟨p, hp, rfl⟩ := List.mem_map.1 hz
   obtain ⟨k1, o, ho, ke⟩ := key p hp
   refine ⟨fun y hy e => ?_, ?_, ?_, ?_⟩
   · obtain ⟨q, hq, rfl⟩ := List.mem_map.1 hy
     rw [k1, (key q hq).1] at e
     rw [e]
   · have := hO.okl.ok o ho
     unfold okOp at this
     rw [← ke]
     simp only [Bool.and_eq_true] at this
     exact this.2
   · show (compV (sortI (trail (aboutP l p)))).Nodup
     refine (compV_spec _).1.imp fun {a b} h e => ?_
     rw [cmpV_lt] at h
     omega
   · intro m hm
     have hm : m ∈ compV (sortI (trail (aboutP l p))) := hm
     rw [(compV_spec _).2] at hm
     unfold trail at hm
     obtain ⟨u, hu, e⟩ := List.mem_map.1 hm
     have h1 := (List.takeWhile_sublist _).subset hu
     rw [List.mem_reverse] at h1
     have := hO.bx u (List.mem_filter.1 h1).1
     rw [← e]; exact this
def isRowA : List AV → Bool
 | .one (.row _) :: _ => true
 | _ => false
def orCtr (A B : Ctr) : Ctr := fun avs m fr => if isRowA avs = true then A avs m fr else B avs m fr
theorem orCtr_ok {P : Program} {f : FuncId} {A B : Ctr} (hA : CtrOk P f A) (hB : CtrOk P f B) : CtrOk P f (orCtr A B) := by
 intro D gv hD cx hcx σ N m w fr avs vs h1 h2 h3 h4
 unfold orCtr at h4 ⊢
 by_cases h : isRowA avs = true
 · simp only [if_pos h] at h4 ⊢; exact hA D gv hD cx hcx σ N m w fr avs vs h1 h2 h3 h4
 · simp only [if_neg h] at h4 ⊢; exact hB D gv hD cx hcx σ N m w fr avs vs h1 h2 h3 h4
attribute [go_sem] isRowA orCtr
def setX (l : List Plt) : List (Plt × Unit) := l.foldl (fun m x => mset (kt := yPL) m x ()) []
theorem setX_push (l : List Plt) (x : Plt) : setX (l ++ [x]) = mset (kt := yPL) (setX l) x () := by
 unfold setX; rw [List.foldl_append]; rfl
theorem setX_in (x : Plt) : ∀ (l : List Plt), (mget (kt := yPL) (setX l) x).isSome = true ↔ x ∈ l := by
 have key : ∀ (l : List Plt) (m : List (Plt × Unit)), (mget (kt := yPL) (l.foldl (fun m x => mset (kt := yPL) m x ()) m) x).isSome = true ↔ (x ∈ l ∨ (mget (kt := yPL) m x).isSome = true) := by
  intro l
  induction l with
  | nil => intro m; simp
  | cons y l ih =>
    intro m
    rw [List.foldl_cons, ih, mget_mset (kt := yPL) (β := Unit) keyEq_plt]
    by_cases h : keyEq yPL x y = true
    · rw [if_pos h]; simp [(keyEq_plt x y).1 h]
    · rw [if_neg h]
      have : x ≠ y := fun e => h ((keyEq_plt x y).2 e)
      simp [this]
 intro l
 rw [setX, key]
 simp [mget]
def con84 : Con := { ps := [.d true yCT, .p 3 (.int .i64)], rs := [.d false .bool], pre := fun _ => True, out := fun (x : Cnt × Int × Unit) => (decide (x.1.num = x.2.1), ()), nw := id }
theorem c84 : CtrOk Tryz.prog 84 con84.ctr :=
 con_sound (G := ⟨[], [], [], [], []⟩) tab_ok EnvOk.nil rfl Tryz.func84 rfl con84 15 (by kernel_rfl) (by decide) (by decide) rfl (by decide) rfl (by
  rintro ⟨⟨(n : Int), ⟨a1, (a2 : Int), a3, (a4 : Int)⟩, (c : Int), (lm : Int), (t : Int), (p : Int), (r : Int), (l : List Pce)⟩, (k : Int), _⟩ hpre hwf X hT hG hk hK
  (simp -implicitDefEqProofs only [go_sem, bP, con84, hT, hG, hk, hK, Tryz.results84] at hwf ⊢))
def conIdxD : Con := { ps := [.d false (.sl yCT), .cl 84 [.p 3 (.int .i64)]], rs := [.d false (.int .i64)], pre := fun _ => True, out := fun (x : List Cnt × (Int × Unit) × Unit) => (numIdx x.1 x.2.1.1, ()), nw := id }
theorem cIdxD : CtrOk Tryz.prog 73 conIdxD.ctr :=
 con_sound (G := ⟨[(84, con84.ctr)], [], [], [], []⟩) tab_ok (EnvOk.cons c84 has84 EnvOk.nil) rfl Tryz.func73 rfl conIdxD 66483 (by kernel_rfl) (by decide) (by decide) rfl (by decide) rfl (by
  rintro ⟨(l : List Cnt), ⟨(n : Int), _⟩, _⟩ hpre hwf X hT hG hk hK
  skip
  (simp -implicitDefEqProofs only [go_sem, bP, conIdxD, con84, hT, hG, hk, hK, Tryz.results73] at hwf ⊢)
  clear hwf
  refine fun _ => evk_loop ⟨{ i : Nat // i ≤ l.length ∧ ∀ k, k < i → (fun c : Cnt => decide (c.num = n)) (l.getD k ct0) = false }, 1000, fun q => [(0, .one (.sl yCT l false)), (1, .one (.fn 84 [.loc 12 0])), (4, .one (.int .i64 0)), (7, .one (.int .i64 l.length)), (8, .one (.int .i64 q.1))], fun q => [(12, .cells 3 [.int .i64 n])], fun q => l.length - q.1⟩ ⟨0, by omega, fun k hk => by omega⟩ ?_ ?_
  · simp only [go_sem]
    try first | rfl | (and_intros <;> first | trivial | rfl | omega)
  · rintro ⟨i, (hi : i ≤ l.length), hz⟩
    (simp -implicitDefEqProofs only [go_sem, bP, conIdxD, con84, hT, hG, hk, hK, Tryz.results73])
    obtain ⟨o, ho⟩ : ∃ o, l.getD i ct0 = o := ⟨_, rfl⟩
    have eo : l.getD (i : Int).toNat (0, (ByteArray.empty, 0, ByteArray.empty, 0), 0, 0, 0, 0, 0, []) = o := ho
    try simp only [eo]
    (repeat' with_reducible first | refine And.intro ?_ ?_ | intro _) <;> try first | with_reducible (first | assumption | omega | contradiction) | decide
    all_goals first
     | (have h : o.1 = n := by assumption
        exact (idxV_at (d := ct0) hz (by omega) (by show decide ((l.getD i ct0).num = n) = true; rw [ho]; exact decide_eq_true h)).symm)
     | (have h : ¬ o.1 = n := by assumption
        refine fin_lp ⟨i + 1, by omega, lt_succ hz (by show decide ((l.getD i ct0).num = n) = false; rw [ho]; exact decide_eq_false h)⟩ (by simp only [go_sem]; first | rfl | ((repeat' apply And.intro) <;> first | rfl | assumption | omega)) (by dsimp only; omega)
        done)
     | exact (idxV_none (d := ct0) fun k hk => hz k (by omega)).symm)
def conIdxO : Con := { ps := [.o 31 yCT, .cl 84 [.p 3 (.int .i64)]], rs := [.d false (.int .i64)], pre := fun (x : List Cnt × (Int × Unit) × Unit) => x.1.length ≤ 1000000, out := fun (x : List Cnt × (Int × Unit) × Unit) => (numIdx x.1 x.2.1.1, ()), nw := id }
theorem cIdxO : CtrOk Tryz.prog 73 conIdxO.ctr :=
 con_sound (G := ⟨[(84, con84.ctr)], [], [], [], []⟩) tab_ok (EnvOk.cons c84 has84 EnvOk.nil) rfl Tryz.func73 rfl conIdxO 66483 (by kernel_rfl) (by decide) (by decide) rfl (by decide) rfl (by
  rintro ⟨(l : List Cnt), ⟨(n : Int), _⟩, _⟩ hpre hwf X hT hG hk hK
  have hlp : l.length ≤ 1000000 := hpre
  (simp -implicitDefEqProofs only [go_sem, bP, conIdxO, con84, hT, hG, hk, hK, Tryz.results73] at hwf ⊢)
  clear hwf
  refine fun _ => evk_loop ⟨{ i : Nat // i ≤ l.length ∧ ∀ k, k < i → (fun c : Cnt => decide (c.num = n)) (l.getD k ct0) = false }, 1000, fun q => [(0, .one (.row 0)), (1, .one (.fn 84 [.loc 12 0])), (4, .one (.int .i64 0)), (7, .one (.int .i64 l.length)), (8, .one (.int .i64 q.1))], fun q => [(0, .row 31 yCT l), (12, .cells 3 [.int .i64 n])], fun q => l.length - q.1⟩ ⟨0, by omega, fun k hk => by omega⟩ ?_ ?_
  · simp only [go_sem]
    try first | rfl | (and_intros <;> first | trivial | rfl | omega)
  · rintro ⟨i, (hi : i ≤ l.length), hz⟩
    (simp -implicitDefEqProofs only [go_sem, bP, conIdxO, con84, hT, hG, hk, hK, Tryz.results73])
    obtain ⟨o, ho⟩ : ∃ o, l.getD i ct0 = o := ⟨_, rfl⟩
    have eo : l.getD (i : Int).toNat (0, (ByteArray.empty, 0, ByteArray.empty, 0), 0, 0, 0, 0, 0, []) = o := ho
    try simp only [eo]
    (repeat' with_reducible first | refine And.intro ?_ ?_ | intro _) <;> try first | with_reducible (first | assumption | omega | contradiction) | decide
    all_goals first
     | (have h : o.1 = n := by assumption
        exact (idxV_at (d := ct0) hz (by omega) (by show decide ((l.getD i ct0).num = n) = true; rw [ho]; exact decide_eq_true h)).symm)
     | (have h : ¬ o.1 = n := by assumption
        refine fin_lp ⟨i + 1, by omega, lt_succ hz (by show decide ((l.getD i ct0).num = n) = false; rw [ho]; exact decide_eq_false h)⟩ (by simp only [go_sem]; first | rfl | ((repeat' apply And.intro) <;> first | rfl | assumption | omega)) (by dsimp only; omega)
        done)
     | exact (idxV_none (d := ct0) fun k hk => hz k (by omega)).symm)
def conNumD : Con := { ps := [.d false (.sl yCT), .d false (.int .i64)], rs := [.d false (.int .i64)], pre := fun _ => True, out := fun (x : List Cnt × Int × Unit) => (numIdx x.1 x.2.1, ()), nw := id }
theorem cNumD : CtrOk Tryz.prog 48 conNumD.ctr :=
 con_sound (G := ⟨[(73, conIdxD.ctr)], [], [], [], []⟩) tab_ok (EnvOk.cons cIdxD has73 EnvOk.nil) rfl Tryz.func48 rfl conNumD 27 (by kernel_rfl) (by decide) (by decide) rfl (by decide) rfl (by
  rintro ⟨(l : List Cnt), (n : Int), _⟩ hpre hwf X hT hG hk hK
  skip
  (simp -implicitDefEqProofs only [go_sem, bP, conNumD, conIdxD, hT, hG, hk, hK, Tryz.results48] at hwf ⊢)
  skip)
def conNumO : Con := { ps := [.o 31 yCT, .d false (.int .i64)], rs := [.d false (.int .i64)], pre := fun (x : List Cnt × Int × Unit) => x.1.length ≤ 1000000, out := fun (x : List Cnt × Int × Unit) => (numIdx x.1 x.2.1, ()), nw := id }
theorem cNumO : CtrOk Tryz.prog 48 conNumO.ctr :=
 con_sound (G := ⟨[(73, conIdxO.ctr)], [], [], [], []⟩) tab_ok (EnvOk.cons cIdxO has73 EnvOk.nil) rfl Tryz.func48 rfl conNumO 27 (by kernel_rfl) (by decide) (by decide) rfl (by decide) rfl (by
  rintro ⟨(l : List Cnt), (n : Int), _⟩ hpre hwf X hT hG hk hK
  have hlp : l.length ≤ 1000000 := hpre
  (simp -implicitDefEqProofs only [go_sem, bP, conNumO, conIdxO, hT, hG, hk, hK, Tryz.results48] at hwf ⊢)
  exact hlp)
def conNum : Raw := ⟨orCtr conNumO.ctr conNumD.ctr⟩
theorem cNum : CtrOk Tryz.prog 48 conNum.ctr := orCtr_ok cNumO cNumD
def con51 : BCon := { ps := [.d true yPC, .bx], rs := [.d false .bool], e := 103, k := .map yPL .unit true true, pre := fun _ _ => True, out := fun (x : Pce × Unit × Unit) z => ((mget (kt := yPL) z x.1.1).isSome, ()), nw := fun x _ => x, nx := fun _ z => z }
theorem c51 : CtrOk Tryz.prog 51 con51.ctr :=
 box_sound (G := ⟨[], [], [], [], []⟩) tab_ok EnvOk.nil rfl Tryz.func51 rfl con51 47 (by kernel_rfl) (by decide) (by decide) rfl (by decide) rfl (by
  rintro ⟨⟨⟨(a : Int), (b : Int), (c : Int)⟩, (d : Int), (e : Int)⟩, _⟩ (z : List (Plt × Unit)) hpre hwf X hT hG hk hK
  (simp -implicitDefEqProofs only [go_sem, bP, con51, hT, hG, hk, hK, Tryz.results51] at hwf ⊢))
theorem idxV_m1 {α : Type} {p : α → Bool} {l : List α} (h : idxV p l < 0) : idxV p l = -1 := by
 unfold idxV at h ⊢
 split at h
 · omega
 · rfl
def fz (z : List (Plt × Unit)) (x : Pce) : Bool := (mget (kt := yPL) z x.1).isSome
def conM79 : BCon := { ps := [.o 39 yPC, .cl 51 [.bx]], rs := [.d false (.int .i64)], e := 103, k := .map yPL .unit true true, pre := fun _ _ => True, out := fun (x : List Pce × (Unit × Unit) × Unit) z => (idxV (fz z) x.1, ()), nw := fun x _ => x, nx := fun _ z => z }
theorem cM79 : CtrOk Tryz.prog 79 conM79.ctr :=
 box_sound (G := ⟨[(51, con51.ctr)], [], [], [], []⟩) tab_ok (EnvOk.cons c51 has51 EnvOk.nil) rfl Tryz.func79 rfl conM79 66483 (by kernel_rfl) (by decide) (by decide) rfl (by decide) rfl (by
  rintro ⟨(l : List Pce), _⟩ (z : List (Plt × Unit)) hpre hwf X hT hG hk hK
  (simp -implicitDefEqProofs only [go_sem, bP, conM79, con51, hT, hG, hk, hK, Tryz.results79] at hwf ⊢)
  clear hwf
  refine fun _ => evk_loop ⟨{ i : Nat // i ≤ l.length ∧ ∀ k, k < i → fz z (l.getD k pc0) = false }, 1000, fun q => [(0, .one (.row 0)), (1, .one (.fn 51 [.loc 31 0])), (4, .one (.int .i64 0)), (7, .one (.int .i64 l.length)), (8, .one (.int .i64 q.1))], fun q => [(0, .row 39 yPC l), (31, .cells 103 [.map 40]), (40, .mapb yPL .unit true true z)], fun q => l.length - q.1⟩ ⟨0, by omega, fun k hk => by omega⟩ ?_ ?_
  · simp only [go_sem]
    try first | rfl | (and_intros <;> first | trivial | rfl | omega)
  · rintro ⟨i, (hi : i ≤ l.length), hz⟩
    (simp -implicitDefEqProofs only [go_sem, bP, conM79, con51, hT, hG, hk, hK, Tryz.results79])
    obtain ⟨o, ho⟩ : ∃ o, l.getD i pc0 = o := ⟨_, rfl⟩
    have eo : l.getD (i : Int).toNat ((0, 0, 0), 0, 0) = o := ho
    try simp only [eo]
    have eO : (o.1.1, o.1.2.1, o.1.2.2) = o.1 := rfl
    try simp only [eO]
    (repeat' with_reducible first | refine And.intro ?_ ?_ | intro _) <;> try first | with_reducible (first | assumption | omega | contradiction) | decide
    all_goals first
     | (have h : (mget (kt := yPL) z o.1).isSome = true := by assumption
        exact (idxV_at (d := pc0) hz (by omega) (by rw [ho]; exact h)).symm)
     | (have h : (mget (kt := yPL) z o.1).isSome = false := by assumption
        refine fin_lp ⟨i + 1, by omega, lt_succ hz (by rw [ho]; exact h)⟩ (by simp only [go_sem]; first | rfl | ((repeat' apply And.intro) <;> first | rfl | assumption | omega)) (by dsimp only; omega)
        done)
     | exact (idxV_none (d := pc0) fun k hk => hz k (by omega)).symm)
def conM41 : BCon := { ps := [.oc 39 yPC, .cl 51 [.bx]], rs := [.o 39 yPC], e := 103, k := .map yPL .unit true true, pre := fun (x : List Pce × (Unit × Unit) × Unit) _ => x.1.length ≤ 1048576, out := fun (x : List Pce × (Unit × Unit) × Unit) z => (x.1.filter (fun x => !fz z x), ()), nw := fun x _ => x, nx := fun _ z => z }
theorem cM41 : CtrOk Tryz.prog 41 conM41.ctr :=
 box_sound (G := ⟨[(79, conM79.ctr), (51, con51.ctr)], [], [(13, 2), (38, 1), (41, 2)], [], []⟩) tab_ok (EnvOk.cons cM79 has79 (EnvOk.cons c51 has51 EnvOk.nil)) rfl Tryz.func41 rfl conM41 537399539 (by kernel_rfl) (by decide) (by decide) rfl (by decide) rfl (by
  rintro ⟨(l : List Pce), _⟩ (z : List (Plt × Unit)) hpre hwf X hT hG hk hK
  have hl : l.length ≤ 1048576 := hpre
  (simp -implicitDefEqProofs only [go_sem, bP, conM41, conM79, con51, hT, hG, hk, hK, Tryz.results41] at hwf ⊢)
  clear hwf
  obtain ⟨F, hF⟩ : ∃ F : Pce → Bool, F = fun x => !fz z x := ⟨_, rfl⟩
  have hFa : ∀ x, F x = !fz z x := fun x => by rw [hF]
  have hfe : (fun x => !fz z x) = F := hF.symm
  simp only [hfe]
  refine fun _ => ⟨fun h => ?_, fun h => ?_⟩
  · have := idxV_neg (p := fz z) (l := l) (by omega)
    rw [List.filter_eq_self.2 fun x hx => by rw [hFa, this x hx]; rfl]
  · have hn : 0 ≤ idxV (fz z) l := by
     apply Classical.byContradiction
     intro hq
     have := idxV_m1 (p := fz z) (l := l) (by omega)
     exact h this
    obtain ⟨hi, h2, h3⟩ := idxV_spec (d := pc0) hn
    obtain ⟨i, hq⟩ : ∃ i : Nat, idxV (fz z) l = i := ⟨(idxV (fz z) l).toNat, by omega⟩
    rw [hq] at hi h2 h3 ⊢
    have hi : i < l.length := hi
    have h2 : fz z (l.getD i pc0) = true := h2
    have h3 : ∀ k, k < i → fz z (l.getD k pc0) = false := h3
    refine ⟨⟨by omega, by omega⟩, ?_⟩
    have b0 : (l.take i).filter F = l.take i := List.filter_eq_self.2 fun x hx => by
     obtain ⟨k, hk, rfl⟩ := getD_pc hx
     have hki : k < i := by rw [List.length_take] at hk; omega
     rw [hFa, List.getD_eq_getElem?_getD, List.getElem?_take_of_lt hki, ← List.getD_eq_getElem?_getD, h3 k hki]; rfl
    have b1 : l.take i = (l.take (i + 1)).filter F := by
     rw [List.take_succ_eq_append_getElem hi, List.filter_append, b0, ← getD_lt (d := pc0) hi, List.filter_cons_of_neg (by rw [hFa, h2]; simp)]; simp
    refine evk_loop ⟨{ q : Nat × Nat × List Pce // q.1 ≤ q.2.1 ∧ q.2.1 ≤ l.length ∧ q.2.2.length = l.length ∧ q.2.2.take q.1 = (l.take q.2.1).filter F ∧ q.2.2.drop q.2.1 = l.drop q.2.1 }, 1000, fun q => [(0, .one (.row 0)), (1, .one (.fn 51 [.loc 31 0])), (5, .one (.int .i64 q.1.1)), (6, .one (.int .i64 q.1.2.1))], fun q => [(0, .row 39 yPC q.1.2.2), (31, .cells 103 [.map 40]), (40, .mapb yPL .unit true true z)], fun q => l.length - q.1.2.1⟩ ⟨(i, i + 1, l), Nat.le_succ i, hi, rfl, b1, rfl⟩ ?_ ?_
    · simp only [go_sem]
      try first | rfl | (and_intros <;> first | trivial | rfl | omega)
    · rintro ⟨⟨a, r, R⟩, (c1 : a ≤ r), (c2 : r ≤ l.length), (c3 : R.length = l.length), (c4 : R.take a = (l.take r).filter F), (c5 : R.drop r = l.drop r)⟩
      (simp -implicitDefEqProofs only [go_sem, bP, conM41, conM79, con51, hT, hG, hk, hK, Tryz.results41])
      refine fun _ => ⟨fun hlt => ?_, fun hge => ?_⟩
      · have hr : r < R.length := by omega
        have hr2 : r < l.length := by omega
        obtain ⟨o, ho⟩ : ∃ o, l.getD r pc0 = o := ⟨_, rfl⟩
        have hRr : R.getD r pc0 = o := by
         have := congrArg (fun q => q.getD 0 pc0) c5
         simp only [List.getD_eq_getElem?_getD, List.getElem?_drop, Nat.add_zero] at this
         rw [List.getD_eq_getElem?_getD, this, ← List.getD_eq_getElem?_getD, ho]
        have eo : R.getD (r : Int).toNat ((0, 0, 0), 0, 0) = o := hRr
        have eO : (o.1.1, o.1.2.1, o.1.2.2) = o.1 := rfl
        simp only [eo, eO]
        have hd : R.drop (r + 1) = l.drop (r + 1) := by rw [← List.drop_drop, c5, List.drop_drop]
        have hst : (l.take (r + 1)).filter F = (l.take r).filter F ++ (if F o = true then [o] else []) := by
         rw [List.take_succ_eq_append_getElem hr2, List.filter_append, ← getD_lt (d := pc0) hr2, ho]
         by_cases q : F o = true
         · rw [if_pos q, List.filter_cons_of_pos q]; rfl
         · rw [if_neg q, List.filter_cons_of_neg q]; rfl
        (repeat' with_reducible first | refine And.intro ?_ ?_ | intro _) <;> try first | with_reducible (first | assumption | omega | contradiction) | decide
        all_goals first
         | (have h0 : (mget (kt := yPL) z o.1).isSome = false := by assumption
            have h1 : F o = true := by rw [hFa]; unfold fz; rw [h0]; rfl
            have har : a < R.length := by omega
            refine fin_lp ⟨(a + 1, r + 1, R.set a o), by dsimp only; omega, by dsimp only; omega, by dsimp only; rw [List.length_set]; exact c3, ?_, ?_⟩ ?_ (by dsimp only; omega)
            · dsimp only
              rw [hst, if_pos h1, ← c4, List.take_succ_eq_append_getElem (by rw [List.length_set]; omega), List.take_set_of_le (Nat.le_refl _), List.getElem_set_self]
            · dsimp only
              rw [List.drop_set_of_lt (by omega), hd]
            · simp only [go_sem]
              try first | rfl | (and_intros <;> first | trivial | rfl | omega)
              done)
         | (have h0 : (mget (kt := yPL) z o.1).isSome = true := by assumption
            have h1 : ¬ F o = true := by rw [hFa]; unfold fz; rw [h0]; simp
            refine fin_lp ⟨(a, r + 1, R), by dsimp only; omega, by dsimp only; omega, c3, by dsimp only; rw [hst, if_neg h1, List.append_nil]; exact c4, hd⟩ ?_ (by dsimp only; omega)
            simp only [go_sem]
            try first | rfl | (and_intros <;> first | trivial | rfl | omega)
            done)
      · refine ⟨by omega, ?_⟩
        have hr : r = l.length := by omega
        have e1 : (a : Int).toNat = a := by omega
        have e2 : ((R.length : Int) - (a : Int)).toNat = R.length - a := by omega
        have e3 : (a + (R.length - a) ≤ R.length) = True := by rw [eq_iff_iff, iff_true]; omega
        (simp -implicitDefEqProofs only [go_sem, bP, conM41, conM79, con51, hT, hG, hk, hK, Tryz.results41, e1, e2, e3])
        have e5 : (R.take a).length = a := by rw [List.length_take]; omega
        have e4 : List.take a (List.take a R ++ (List.replicate (R.length - a) ((0, 0, 0), 0, 0) ++ List.drop (a + (R.length - a)) R)) = l.filter F := by
         rw [List.take_append_of_le_length (by omega), List.take_of_length_le (by omega), c4, hr, List.take_of_length_le (Nat.le_refl _)]
        simp only [hfe]
        (repeat' with_reducible first | refine And.intro ?_ ?_ | intro _) <;> try first | with_reducible (first | assumption | omega | contradiction) | decide
        all_goals first
         | exact e4
         | (rw [List.length_append, e5]; omega))
end Go.Proofs.YtpglcghgklmedaaGreat
