/- Part. -/
import Derived.Test.YtabadacjbkhmkaaGreatDoorCnWToY
import Derived.Test.YtabadacjbkhmkaaGreatDoorEvSortToSc
import Derived.Test.YtabadacjbkhmkaaGreatDoorEvNst2ToV
set_option linter.all false
set_option maxRecDepth 100000
set_option maxHeartbeats 8000000
namespace Go.Proofs.YtabadacjbkhmkaaGreatDoor
open Go.Ev
attribute [local go_sem] List.set_cons_succ List.set_cons_zero List.getD_cons_succ List.getD_cons_zero List.set_nil
def binL (ns : List Nd) : Nat → List Int
 | 0 => []
 | i + 1 => if strN (ns.getD i nd0).2.1 = true then binL ns i else binL ns i ++ [(i : Int)]
theorem uB6 (ns : List Nd) : ∀ i, (binL ns i).length ≤ i
 | 0 => Nat.le_refl _
 | i + 1 => by
   have := uB6 ns i; unfold binL; split
   · omega
   · rw [List.length_append, List.length_singleton]; omega
def tgS (s : Src) : Nat → Src
 | 0 => s
 | k + 1 => (tgS s k).step.step
def tgC (ns : List Nd) (s : Src) : List Int := binL ns ns.length ++ [-1, 0 + goMod s.raw ((ns.length : Int) - 0 + 1)]
def tgL (ns : List Nd) (s : Src) : Nat → List Int
 | 0 => []
 | k + 1 => tgL ns s k ++ [(tgC ns (tgS s k)).getD (goMod (tgS s k).step.raw (tgC ns (tgS s k)).length).toNat 0]
theorem lB5 (ns : List Nd) (s : Src) : ∀ k, (tgL ns s k).length = k
 | 0 => rfl
 | k + 1 => by simp [tgL, lB5 ns s k]
theorem mB5 {s : Src} (h : 0 ≤ s.2) : ∀ k, 0 ≤ (tgS s k).2
 | 0 => h
 | k + 1 => Src.step_pos' (Src.step_pos' (mB5 h k))
def con11 : Con := { ps := [.p 75 ySR, .d true yLY, .d false yI], rs := [.d false (.sl yI)], pre := fun (x : Src × Ly × Int × Unit) => 0 ≤ x.1.2 ∧ x.2.1.1.length ≤ 1000 ∧ 0 ≤ x.2.2.1 ∧ x.2.2.1 ≤ 1000, out := fun (x : Src × Ly × Int × Unit) => (tgL x.2.1.1 x.1 x.2.2.1.toNat, ()), nw := fun (x : Src × Ly × Int × Unit) => (tgS x.1 x.2.2.1.toNat, x.2) }
theorem c11 : CtrOk Tryz.prog 11 con11.ctr :=
 aA0 eA0 (eC c23 has23 (eC c29 has29 (eC c38 has38 eN))) rfl Tryz.func11 rfl con11 4328556503 (by kernel_rfl) (by decide) (by decide) rfl (by decide) rfl (by
  rintro ⟨⟨(s : List Int), (a : Int)⟩, ⟨(ns : List Nd), (ds : List Dv)⟩, (n' : Int), _⟩ hpre hwf X hT hG hk hK; obtain ⟨h1, h2, h3, h4⟩ : 0 ≤ a ∧ ns.length ≤ 1000 ∧ 0 ≤ n' ∧ n' ≤ 1000 := hpre; obtain ⟨n, rfl⟩ : ∃ n : Nat, n' = n := ⟨n'.toNat, by omega⟩
  (simp -implicitDefEqProofs (maxSteps := 4000000) only [go_sem, bP, con11, con23, con29, con38, hT, hG, hk, hK, Tryz.results11] at hwf ⊢); (try simp (disch := decide +kernel) only [drawn, true_and, and_true])
  clear hwf; refine cA0 ⟨{ i : Nat // i ≤ ns.length }, 1000, fun i => [(0, .one (.loc 0 0)), (2, .one (.int .i64 (n : Int))), (4, .one (.loc 64 0)), (7, .one (.row 65)), (8, .one (.row 66)), (9, .one (.int .i64 (i.1 : Int)))], fun i => [(0, .cells 75 [.sl yI s false, .int .i64 a]), (64, .cells 30 [.sl yNO ns false, .sl yPL ds false]), (65, .row 3 yI (binL ns i.1)), (66, .row 3 yI [])], fun i => ns.length - i.1⟩ ⟨0, Nat.zero_le _⟩ ?_ ?_
  · simp only [go_sem]; simp only [binL]
    try first | rfl | (and_intros <;> first | trivial | rfl | omega)
  · rintro ⟨i, (hi : i ≤ ns.length)⟩; have hbl := uB6 ns i
    (simp -implicitDefEqProofs (maxSteps := 4000000) only [go_sem, bP, con11, con23, con29, con38, hT, hG, hk, hK, Tryz.results11]); (try simp (disch := decide +kernel) only [drawn, true_and, and_true])
    refine fun _ => ⟨fun hlt => ?_, fun hge => ?_⟩
    · have hi' : i < ns.length := by omega
      have eii : (i : Int).toNat = i := Int.toNat_natCast i; obtain ⟨y, ey⟩ : ∃ y, ns.getD i nd0 = y := ⟨_, rfl⟩; have ek : ∀ z, ns.getD i z = y := fun z => by rw [← ey]; simp [hi']
      have hst : binL ns (i + 1) = if strN y.2.1 = true then binL ns i else binL ns i ++ [(i : Int)] := by rw [binL, ey]
      simp only [eii, ek]
      (repeat' with_reducible first | refine And.intro ?_ ?_ | intro _) <;> try first | with_reducible (first | assumption | omega | contradiction) | decide
      all_goals first
       | omega
       | (rw [if_pos (by assumption)] at hst
          refine dA0 ⟨i + 1, by omega⟩ ?_ (by dsimp only; omega); simp only [go_sem]; rw [hst]
          try first | rfl | (and_intros <;> first | trivial | rfl | omega)
          done)
       | (have h : strN y.2.1 = false := by assumption
          rw [if_neg (by rw [h]; decide)] at hst; refine dA0 ⟨i + 1, by omega⟩ ?_ (by dsimp only; omega); simp only [go_sem]; rw [hst]
          try first | rfl | (and_intros <;> first | trivial | rfl | omega)
          done)
    · obtain rfl : i = ns.length := by omega
      refine cA0 ⟨{ k : Nat // k ≤ n }, 2000, fun k => [(0, .one (.loc 0 0)), (2, .one (.int .i64 (n : Int))), (4, .one (.loc 64 0)), (7, .one (.row 65)), (8, .one (.row 66)), (10, .one (.int .i64 (k.1 : Int)))], fun k => [(0, .cells 75 [.sl yI (tgS (s, a) k.1).1 false, .int .i64 (tgS (s, a) k.1).2]), (64, .cells 30 [.sl yNO ns false, .sl yPL ds false]), (65, .row 3 yI (binL ns ns.length)), (66, .row 3 yI (tgL ns (s, a) k.1))], fun k => n - k.1⟩ ⟨0, Nat.zero_le _⟩ ?_ ?_
      · simp only [go_sem]; simp only [tgS, tgL]
        try first | rfl | (and_intros <;> first | trivial | rfl | omega)
      · rintro ⟨k, (hk1 : k ≤ n)⟩; have hps := mB5 (s := (s, a)) h1 k; have hps2 := Src.step_pos' hps; have hll := lB5 ns (s, a) k; have hsS : tgS (s, a) (k + 1) = (tgS (s, a) k).step.step := rfl; have hsL : tgL ns (s, a) (k + 1) = tgL ns (s, a) k ++ [(tgC ns (tgS (s, a) k)).getD (goMod (tgS (s, a) k).step.raw (tgC ns (tgS (s, a) k)).length).toNat 0] := rfl; unfold tgC at hsL
        (simp -implicitDefEqProofs (maxSteps := 4000000) only [go_sem, bP, con11, con23, con29, con38, hT, hG, hk, hK, Tryz.results11]); (try simp (disch := decide +kernel) only [drawn, true_and, and_true])
        refine ⟨fun hlt => ?_, fun hge2 => ?_⟩
        · generalize tgS (s, a) k = S at *; generalize tgL ns (s, a) k = L at *; obtain ⟨S1, S2⟩ := S; have hcl : 0 < (binL ns ns.length ++ [-1, 0 + goMod (Src.raw (S1, S2)) ((ns.length : Int) - 0 + 1)]).length := by
           rw [List.length_append]; show 0 < _ + 2; omega
          (repeat' with_reducible first | refine And.intro ?_ ?_ | intro _) <;> try first | with_reducible (first | assumption | omega | contradiction) | decide
          all_goals first
           | omega
           | exact Int.natCast_nonneg _
           | (show ((ns.length : Nat) : Int) ≤ 1000000; omega)
           | (refine dA0 ⟨k + 1, by omega⟩ ?_ (by dsimp only; omega)
              simp only [go_sem]; rw [hsS, hsL]
              try first | rfl | (and_intros <;> first | trivial | rfl | omega)
              done)
        · obtain rfl : k = n := by omega
          rw [Int.toNat_natCast]; exact ⟨rfl, rfl, rfl⟩)
def mvHas (out : List Dv) (n w : Int) : Bool := out.any (fun y => decide (y.2.1 = n) && decide (y.2.2 = w))
def mv1 (ns : List Nd) (q : List Dv × Src) : List Dv × Src :=
 if (ns.getD (goMod q.2.raw ns.length).toNat nd0).2.2.1 = 0 then (q.1, q.2.step)
 else (if mvHas q.1 (goMod q.2.raw ns.length) (goMod q.2.step.step.raw (ns.getD (goMod q.2.raw ns.length).toNat nd0).2.2.1) = true then q.1
  else q.1 ++ [(1 + goMod q.2.step.raw (2 - 1 + 1), goMod q.2.raw ns.length, goMod q.2.step.step.raw (ns.getD (goMod q.2.raw ns.length).toNat nd0).2.2.1)], q.2.step.step.step)
def mvI (ns : List Nd) (s : Src) : Nat → List Dv × Src
 | 0 => ([], s)
 | k + 1 => mv1 ns (mvI ns s k)
theorem oD1 {ns : List Nd} {q : List Dv × Src} (h : 0 ≤ q.2.2) : 0 ≤ (mv1 ns q).2.2 := by
 have h1 := Src.step_pos' h; have h2 := Src.step_pos' h1; have h3 := Src.step_pos' h2; unfold mv1; split
 · exact h1
 · exact h3
theorem yB4 {ns : List Nd} {s : Src} (h : 0 ≤ s.2) : ∀ k, 0 ≤ (mvI ns s k).2.2
 | 0 => h
 | k + 1 => oD1 (yB4 h k)
structure MvOk (ns : List Nd) (k : Nat) (f : List Dv) : Prop where
 len : f.length ≤ k
 fl : FltOk ns f
 nd : ∀ i j (hi : i < j) (hj : j < f.length), ¬ ((f[i]).2.1 = (f[j]).2.1 ∧ (f[i]).2.2 = (f[j]).2.2)
theorem iD3 {ds : List Dv} {ns : List Nd} (hg : GoodL (ns, ds)) {k : Nat} {q : List Dv × Src} (h : MvOk ns k q.1) : MvOk ns (k + 1) (mv1 ns q).1 := by
 have hn1 : 1 ≤ ns.length := hg.n1; unfold mv1; split
 · exact ⟨Nat.le_succ_of_le h.len, h.fl, h.nd⟩
 · rename_i h0; split
   · exact ⟨Nat.le_succ_of_le h.len, h.fl, h.nd⟩
   · rename_i hk; have b1 := pA0 q.2.raw ns.length (by omega); have hl8 := len8 hg (goMod q.2.raw ns.length).toNat; have b2 := pA0 q.2.step.raw (2 - 1 + 1) (by decide); have b3 := pA0 q.2.step.step.raw (ns.getD (goMod q.2.raw ns.length).toNat nd0).2.2.1 (by omega); generalize goMod q.2.raw ns.length = n at *; generalize goMod q.2.step.step.raw (ns.getD n.toNat nd0).2.2.1 = w at *; generalize goMod q.2.step.raw (2 - 1 + 1) = kd at *; refine ⟨by rw [List.length_append, List.length_singleton]; have := h.len; omega, fun y hy => ?_, fun i j hi hj => ?_⟩
     · rcases List.mem_append.1 hy with hy | hy
       · exact h.fl y hy
       · rw [List.mem_singleton] at hy; subst hy; exact ⟨by dsimp only; omega, b1.1, b1.2, b3.1, b3.2⟩
     · have hj2 : j < q.1.length + 1 := by simpa using hj
       dsimp only; by_cases e : j < q.1.length
       · rw [List.getElem_append_left e, List.getElem_append_left (by omega)]; exact h.nd i j hi e
       · rw [List.getElem_append_left (show i < q.1.length by omega), List.getElem_append_right (show q.1.length ≤ j by omega)]; intro hc; simp only [List.getElem_singleton] at hc; refine hk ?_; unfold mvHas; rw [List.any_eq_true]; exact ⟨_, List.getElem_mem (show i < q.1.length by omega), by rw [Bool.and_eq_true, decide_eq_true_eq, decide_eq_true_eq]; exact hc⟩
theorem wC2 {ds : List Dv} {ns : List Nd} (hg : GoodL (ns, ds)) (s : Src) : ∀ k, MvOk ns k (mvI ns s k).1
 | 0 => ⟨Nat.le_refl _, fun y hy => (by cases hy), fun i j _ hj => absurd hj (Nat.not_lt_zero _)⟩
 | k + 1 => iD3 hg (wC2 hg s k)
theorem MvOk.poss {ns : List Nd} {k : Nat} {f : List Dv} (h : MvOk ns k f) {c : List Int} (hc : CmdOk ns c) (h4 : k ≤ 4) : Poss ns c f := ⟨hc.1, hc.2, h.fl, Nat.le_trans h.len h4, h.nd⟩
def con17 : Con := { ps := [.p 75 ySR, .d true yLY, .d false yI], rs := [.d false (.sl yPL)], pre := fun (x : Src × Ly × Int × Unit) => 0 ≤ x.1.2 ∧ GoodL x.2.1 ∧ 0 ≤ x.2.2.1 ∧ x.2.2.1 ≤ 1000, out := fun (x : Src × Ly × Int × Unit) => ((mvI x.2.1.1 x.1 x.2.2.1.toNat).1, ()), nw := fun (x : Src × Ly × Int × Unit) => ((mvI x.2.1.1 x.1 x.2.2.1.toNat).2, x.2) }
theorem c17 : CtrOk Tryz.prog 17 con17.ctr :=
 aA0 eA0 (eC c31 has31 (eC c29 has29 eN)) rfl Tryz.func17 rfl con17 1180591655902320304087 (by kernel_rfl) (by decide) (by decide) rfl (by decide) rfl (by
  rintro ⟨⟨(s : List Int), (a : Int)⟩, ⟨(ns : List Nd), (ds : List Dv)⟩, (n' : Int), _⟩ hpre hwf X hT hG hk hK; obtain ⟨h1, hg, h3, h4⟩ : 0 ≤ a ∧ GoodL (ns, ds) ∧ 0 ≤ n' ∧ n' ≤ 1000 := hpre; obtain ⟨n, rfl⟩ : ∃ n : Nat, n' = n := ⟨n'.toNat, by omega⟩; have hn1 : 1 ≤ ns.length := hg.n1; have hn24 : ns.length ≤ 24 := hg.n24
  (simp -implicitDefEqProofs (maxSteps := 4000000) only [go_sem, bP, con17, con31, con29, hT, hG, hk, hK, Tryz.results17] at hwf ⊢); (try simp (disch := decide +kernel) only [drawn, true_and, and_true])
  clear hwf; refine cA0 ⟨{ k : Nat // k ≤ n }, 1000, fun k => [(0, .one (.loc 0 0)), (2, .one (.int .i64 (n : Int))), (4, .one (.loc 64 0)), (7, .one (.row 65)), (8, .one (.int .i64 (k.1 : Int)))], fun k => [(0, .cells 75 [.sl yI (mvI ns (s, a) k.1).2.1 false, .int .i64 (mvI ns (s, a) k.1).2.2]), (64, .cells 30 [.sl yNO ns false, .sl yPL ds false]), (65, .row 99 yPL (mvI ns (s, a) k.1).1)], fun k => n - k.1⟩ ⟨0, Nat.zero_le _⟩ ?_ ?_
  · simp only [go_sem]; simp only [mvI]
    try first | rfl | (and_intros <;> first | trivial | rfl | omega)
  · rintro ⟨k, (hk1 : k ≤ n)⟩; have hps := yB4 (ns := ns) (s := (s, a)) h1 k; have hps2 := Src.step_pos' hps; have hps3 := Src.step_pos' hps2; have hmo := wC2 hg (s, a) k; have hst : mvI ns (s, a) (k + 1) = mv1 ns (mvI ns (s, a) k) := rfl
    (simp -implicitDefEqProofs (maxSteps := 4000000) only [go_sem, bP, con17, con31, con29, hT, hG, hk, hK, Tryz.results17]); (try simp (disch := decide +kernel) only [drawn, true_and, and_true])
    refine ⟨fun hlt => ?_, fun hge => ?_⟩
    · generalize mvI ns (s, a) k = Q at *; obtain ⟨F, S1, S2⟩ := Q; have b1 := pA0 (Src.raw (S1, S2)) ns.length (by omega); have hl8 := len8 hg (goMod (Src.raw (S1, S2)) ns.length).toNat; unfold mv1 at hst; dsimp only at hst hps hps2 hps3 hmo; obtain ⟨y, ey⟩ : ∃ y, ns.getD (goMod (Src.raw (S1, S2)) ns.length).toNat nd0 = y := ⟨_, rfl⟩; have ek : ∀ z, ns.getD (goMod (Src.raw (S1, S2)) ns.length).toNat z = y := fun z => by rw [← ey]; simp [show (goMod (Src.raw (S1, S2)) ns.length).toNat < ns.length by omega]
      rw [ey] at hst hl8; simp only [ek]; by_cases h0 : y.2.2.1 = 0
      · rw [if_pos h0] at hst; simp only [h0]
        (repeat' with_reducible first | refine And.intro ?_ ?_ | intro _) <;> try first | with_reducible (first | assumption | omega | contradiction) | decide
        all_goals first
         | omega
         | (refine dA0 ⟨k + 1, by omega⟩ ?_ (by dsimp only; omega)
            simp only [go_sem]; rw [hst]
            try first | rfl | (and_intros <;> first | trivial | rfl | omega)
            done)
      · rw [if_neg h0] at hst; have b2 := pA0 (Src.step (S1, S2)).raw (2 - 1 + 1) (by decide); have b3 := pA0 (Src.step (S1, S2)).step.raw y.2.2.1 (by omega); have hFl := hmo.len; generalize goMod (Src.raw (S1, S2)) ns.length = m at *; generalize goMod (Src.step (S1, S2)).raw (2 - 1 + 1) = kd at *; generalize goMod (Src.step (S1, S2)).step.raw y.2.2.1 = w at *
        (repeat' with_reducible first | refine And.intro ?_ ?_ | intro _) <;> try first | with_reducible (first | assumption | omega | contradiction) | decide
        all_goals first
         | omega
         | exact hps2
         | exact hps3
         | skip
        have hmt : ∀ j (h : j < F.length), mvHas (F.take (j + 1)) m w = (mvHas (F.take j) m w || (decide ((F[j]).2.1 = m) && decide ((F[j]).2.2 = w))) := fun j h => by
         unfold mvHas; rw [tsE h, List.any_append]; simp
        refine cA0 ⟨{ j : Nat // j ≤ F.length }, 2000, fun j => [(0, .one (.loc 0 0)), (2, .one (.int .i64 (n : Int))), (4, .one (.loc 64 0)), (7, .one (.row 65)), (8, .one (.int .i64 (k : Int))), (10, .one (.loc 66 0)), (11, .one (.bool (mvHas (F.take j.1) m w))), (12, .one (.int .i64 (j.1 : Int)))], fun j => [(0, .cells 75 [.sl yI (Src.step (S1, S2)).step.step.1 false, .int .i64 (Src.step (S1, S2)).step.step.2]), (64, .cells 30 [.sl yNO ns false, .sl yPL ds false]), (65, .row 99 yPL F), (66, .cells 99 [.int .i64 (1 + kd), .int .i64 m, .int .i64 w])], fun j => F.length - j.1⟩ ⟨0, Nat.zero_le _⟩ ?_ ?_
        · simp only [go_sem]; simp only [mvHas, List.take_zero, List.any_nil]
          try first | rfl | (and_intros <;> first | trivial | rfl | omega)
        · rintro ⟨j, (hj : j ≤ F.length)⟩
          (simp -implicitDefEqProofs (maxSteps := 4000000) only [go_sem, bP, con17, con31, con29, hT, hG, hk, hK, Tryz.results17]); (try simp (disch := decide +kernel) only [drawn, true_and, and_true])
          refine fun _ => ⟨fun hlt2 => ?_, fun hge2 => ?_⟩
          · have hj' : j < F.length := by omega
            have ejj : (j : Int).toNat = j := Int.toNat_natCast j; have ejk : ∀ z, F.getD j z = F[j] := fun z => by simp [hj']
            have hmj := hmt j hj'; simp only [ejj, ejk]; generalize F[j] = x at *; generalize mvHas (F.take j) m w = b at *
            cases b with
            | true =>
              simp only [Bool.true_or] at hmj
              (repeat' with_reducible first | refine And.intro ?_ ?_ | intro _) <;> try first | with_reducible (first | assumption | omega | contradiction) | decide
              all_goals first
               | omega
               | (refine dA0 ⟨j + 1, by omega⟩ ?_ (by dsimp only; omega)
                  simp only [go_sem]; rw [hmj]
                  try first | rfl | (and_intros <;> first | trivial | rfl | omega)
                  done)
            | false =>
              simp only [Bool.false_or] at hmj
              (repeat' with_reducible first | refine And.intro ?_ ?_ | intro _) <;> try first | with_reducible (first | assumption | omega | contradiction) | decide
              all_goals first
               | omega
               | (refine dA0 ⟨j + 1, by omega⟩ ?_ (by dsimp only; omega)
                  simp only [go_sem]; rw [hmj]
                  try first | rfl | (and_intros <;> first | trivial | rfl | omega)
                  done)
          · obtain rfl : j = F.length := by omega
            rw [List.take_length]
            cases hb : mvHas F m w with
            | true =>
              rw [hb] at hst; simp only [if_true] at hst
              (repeat' with_reducible first | refine And.intro ?_ ?_ | intro _) <;> try first | with_reducible (first | assumption | omega | contradiction) | decide
              all_goals first
               | omega
               | (refine dA0 ⟨k + 1, by omega⟩ ?_ (by dsimp only; omega)
                  simp only [go_sem]; rw [hst]
                  try first | rfl | (and_intros <;> first | trivial | rfl | omega)
                  done)
            | false =>
              rw [hb] at hst; simp only [Bool.false_eq_true, if_false] at hst
              (repeat' with_reducible first | refine And.intro ?_ ?_ | intro _) <;> try first | with_reducible (first | assumption | omega | contradiction) | decide
              all_goals first
               | omega
               | (refine dA0 ⟨k + 1, by omega⟩ ?_ (by dsimp only; omega)
                  simp only [go_sem]; rw [hst]
                  try first | rfl | (and_intros <;> first | trivial | rfl | omega)
                  done)
    · obtain rfl : k = n := by omega
      rw [Int.toNat_natCast]; exact ⟨rfl, rfl, rfl⟩)
end Go.Proofs.YtabadacjbkhmkaaGreatDoor

set_option maxRecDepth 100000
set_option maxHeartbeats 8000000
namespace Go.Proofs.YtabadacjbkhmkaaGreatDoor
open Go.Ev
attribute [local go_sem] List.set_cons_succ List.set_cons_zero List.getD_cons_succ List.getD_cons_zero List.set_nil
abbrev Bq := Src × Be × Pl
def blk1 (ns : List Nd) (q : Bq) : Bq :=
 (cmdS ns q.1 ns.length, if (stepB ns (cmdL ns q.1 ns.length) q.2.1).2 = 0 then ((stepB ns (cmdL ns q.1 ns.length) q.2.1).1, plantV ns q.2.2 (cmdL ns q.1 ns.length) []) else q.2)
def blkN (ns : List Nd) : Nat → Bq → Bq
 | 0, q => q
 | k + 1, q => blkN ns k (blk1 ns q)
def ent1 (i : Int) (q : Bq) : Bq := (q.1, if (enterV q.2.2 i).2 = 0 ∧ (ebB q.2.1 i).2 = 0 then ((ebB q.2.1 i).1, (enterV q.2.2 i).1) else q.2)
def rndK (q : Bq) : Nat := (0 + goMod q.1.raw (2 - 0 + 1)).toNat
def rnd (ns : List Nd) (i : Int) (q : Bq) : Bq := ent1 i (blkN ns (rndK q) (q.1.step, q.2))
def belR (ns : List Nd) : Nat → Int → Bq → Bq
 | 0, _, q => q
 | f + 1, i, q => if i ≤ 4 ∧ (i ≤ 2 ∨ q.1.2 < q.1.1.length) then belR ns f (i + 1) (rnd ns i q) else q
def belV (ns : List Nd) (s : Src) : Bq := belR ns 4 1 (s.step, newB ns (goMod s.raw 3), p0V ns)
structure BqOk (ns : List Nd) (K : Nat) (q : Bq) : Prop where
 sp : 0 ≤ q.1.2
 be : BeOk ns K q.2.1
 ft : FitP ns q.2.2
 bk : BinK K q.2.2
theorem BqOk.mono {ns : List Nd} {K J : Nat} {q : Bq} (h : BqOk ns K q) (hKJ : K ≤ J) : BqOk ns J q := ⟨h.sp, h.be.mono hKJ, h.ft, fun b hb => Nat.le_trans (h.bk b hb) hKJ⟩
theorem dC3 {ds : List Dv} {ns : List Nd} (hg : GoodL (ns, ds)) {K : Nat} {q : Bq} (h : BqOk ns K q) : BqOk ns (K + 24) (blk1 ns q) := by
 have hc := qC4 hg q.1; have hp := aA7 hg h.ft h.bk hc.poss; unfold blk1; by_cases e : (stepB ns (cmdL ns q.1 ns.length) q.2.1).2 = 0
 · rw [if_pos e]; exact ⟨gA7 h.sp _, qC7 hg hc h.be, hp.1, hp.2.1⟩
 · rw [if_neg e]; exact ⟨gA7 h.sp _, h.be.mono (by omega), h.ft, fun b hb => Nat.le_trans (h.bk b hb) (by omega)⟩
theorem tC1 {ds : List Dv} {ns : List Nd} (hg : GoodL (ns, ds)) {K : Nat} {q : Bq} (h : BqOk ns K q) (i : Int) : BqOk ns K (ent1 i q) := by
 unfold ent1; by_cases e : (enterV q.2.2 i).2 = 0 ∧ (ebB q.2.1 i).2 = 0
 · rw [if_pos e]; have hp := sB0 hg h.ft h.bk e.1; exact ⟨h.sp, nC8 hg h.be i, hp.1, hp.2⟩
 · rw [if_neg e]; exact h
theorem oC2 (q : Bq) : (rndK q : Int) = 0 + goMod q.1.raw (2 - 0 + 1) ∧ rndK q ≤ 2 := by
 have := pA0 q.1.raw (2 - 0 + 1) (by decide); unfold rndK; omega
theorem rC3 {ds : List Dv} {ns : List Nd} (hg : GoodL (ns, ds)) : ∀ (k : Nat) {K : Nat} {q : Bq}, BqOk ns K q → BqOk ns (K + 24 * k) (blkN ns k q)
 | 0, K, q, h => h
 | k + 1, K, q, h => by
   have := rC3 hg k (dC3 hg h); unfold blkN; rw [show K + 24 * (k + 1) = K + 24 + 24 * k by omega]; exact this
theorem nD2 {ds : List Dv} {ns : List Nd} (hg : GoodL (ns, ds)) {K : Nat} {q : Bq} (h : BqOk ns K q) (i : Int) : BqOk ns (K + 48) (rnd ns i q) := by
 have hk := (oC2 q).2; have h0 : BqOk ns K (q.1.step, q.2) := ⟨Src.step_pos' h.sp, h.be, h.ft, h.bk⟩; exact (tC1 hg (rC3 hg (rndK q) h0) i).mono (by omega)
theorem hC0 {ds : List Dv} {ns : List Nd} (hg : GoodL (ns, ds)) : ∀ (f : Nat) (i : Int) {K : Nat} {q : Bq}, BqOk ns K q → BqOk ns (K + 48 * f) (belR ns f i q)
 | 0, _, K, q, h => h
 | f + 1, i, K, q, h => by
   unfold belR; split
   · have := hC0 hg f (i + 1) (nD2 hg h i); rw [show K + 48 * (f + 1) = K + 48 + 48 * f by omega]; exact this
   · exact h.mono (by omega)
theorem aC4 {ds : List Dv} {ns : List Nd} (hg : GoodL (ns, ds)) {s : Src} (hs : 0 ≤ s.2) : BqOk ns 0 (s.step, newB ns (goMod s.raw 3), p0V ns) := by
 have := pA0 s.raw 3 (by decide); exact ⟨Src.step_pos' hs, vC1 hg (by omega) (by omega), (mC7 hg).1, (mC7 hg).2⟩
theorem sC8 {ds : List Dv} {ns : List Nd} (hg : GoodL (ns, ds)) {s : Src} (hs : 0 ≤ s.2) : BqOk ns 192 (belV ns s) := hC0 hg 4 1 (aC4 hg hs)
def con10 : Con := { ps := [.p 75 ySR, .d true yLY], rs := [.d true yBE, .d true yP2], pre := fun (x : Src × Ly × Unit) => 0 ≤ x.1.2 ∧ GoodL x.2.1, out := fun (x : Src × Ly × Unit) => ((belV x.2.1.1 x.1).2.1, (belV x.2.1.1 x.1).2.2, ()), nw := fun (x : Src × Ly × Unit) => ((belV x.2.1.1 x.1).1, x.2) }
theorem c10 : CtrOk Tryz.prog 10 con10.ctr :=
 aA0 eA0 (eC c16 has16 (eC c21 has21 (eC c22 has22 (eC c25 has25 (eC c29 has29 (eC c31 has31 (eC c34 has34 (eC c35 has35 (eC c36 has36 (eC c37 has37 eN)))))))))) rfl Tryz.func10 rfl con10 618970020795683110312738171 (by kernel_rfl) (by decide) (by decide) rfl (by decide) rfl (by
  rintro ⟨⟨(s : List Int), (a : Int)⟩, ⟨(ns : List Nd), (ds : List Dv)⟩, _⟩ hpre hwf X hT hG hk hK; obtain ⟨h1, hg⟩ : 0 ≤ a ∧ GoodL (ns, ds) := hpre; have hn24 : ns.length ≤ 24 := hg.n24; have b3 := pA0 (Src.raw (s, a)) 3 (by decide); have hq0 := aC4 hg (s := (s, a)) h1; have hfin : belV ns (s, a) = belR ns 4 1 (Src.step (s, a), newB ns (goMod (Src.raw (s, a)) 3), p0V ns) := rfl
  (simp -implicitDefEqProofs (maxSteps := 4000000) only [go_sem, bP, con10, con16, con21, con22, con25, con29, con31, con34, con35, con36, con37, hT, hG, hk, hK, Tryz.results10] at hwf ⊢); (try simp (disch := decide +kernel) only [drawn, true_and, and_true])
  clear hwf; refine ⟨h1, fun _ => ⟨⟨hg, by omega, by omega⟩, fun _ => ⟨hg, fun _ => ?_⟩⟩⟩; generalize hQ0 : (Src.step (s, a), newB ns (goMod (Src.raw (s, a)) 3), p0V ns) = Q0 at *; obtain ⟨F, hF⟩ : ∃ F, belV ns (s, a) = F := ⟨_, rfl⟩; refine cA0 ⟨{ q : Nat × Bq // 1 ≤ q.1 ∧ q.1 ≤ 5 ∧ belR ns (5 - q.1) q.1 q.2 = F ∧ BqOk ns (48 * (q.1 - 1)) q.2 }, 1000, fun q => [(0, .one (.loc 0 0)), (3, .one (.loc 64 0)), (4, .one (.loc 67 0)), (5, .one (.loc 68 0)), (6, .one (.loc 65 0)), (8, .one (.loc 66 0)), (10, .one (.int .i64 (q.1.1 : Int)))], fun q => [(0, .cells 75 [.sl yI q.1.2.1.1 false, .int .i64 q.1.2.1.2]), (64, .cells 30 [.sl yNO ns false, .sl yPL ds false]), (65, .cells 34 [.int .i64 q.1.2.2.1.1, .sl yHY q.1.2.2.1.2 false]), (66, .cells 37 [.sl (.sl yI) q.1.2.2.2.1 false, .sl (.sl yI) q.1.2.2.2.2 false]), (67, .cells 34 [.undef, .undef]), (68, .cells 37 [.undef, .undef])], fun q => 5 - q.1.1⟩ ⟨(1, Q0), Nat.le_refl _, (show 1 ≤ 5 by decide), hfin.symm.trans hF, hq0⟩ ?_ ?_
  · simp only [go_sem]; subst hQ0
    try first | rfl | (and_intros <;> first | trivial | rfl | omega)
  · rintro ⟨⟨i, ⟨⟨S1, S2⟩, ⟨u, l⟩, ⟨sl, bn⟩⟩⟩, (hi1 : 1 ≤ i), (hi2 : i ≤ 5), (hr : belR ns (5 - i) i ((S1, S2), (u, l), (sl, bn)) = F), (hok : BqOk ns (48 * (i - 1)) ((S1, S2), (u, l), (sl, bn)))⟩; have hs0 : 0 ≤ S2 := hok.sp; have hkn := oC2 ((S1, S2), (u, l), (sl, bn))
    (simp -implicitDefEqProofs (maxSteps := 4000000) only [go_sem, bP, con10, con16, con21, con22, con25, con29, con31, con34, con35, con36, con37, hT, hG, hk, hK, Tryz.results10]); (try simp (disch := decide +kernel) only [drawn, true_and, and_true])
    refine ⟨fun h => ⟨h, fun h2 => ⟨h, h2⟩⟩, fun hc => ?_, fun hc => ?_⟩
    · have hr2 : belR ns (5 - i) i ((S1, S2), (u, l), (sl, bn)) = belR ns (4 - i) ((i : Int) + 1) (rnd ns i ((S1, S2), (u, l), (sl, bn))) := by
       rw [show 5 - i = (4 - i) + 1 by omega, belR, if_pos hc]
      rw [hr] at hr2; have hB0 : BqOk ns (48 * (i - 1)) (Src.step (S1, S2), (u, l), (sl, bn)) := ⟨Src.step_pos' hs0, hok.be, hok.ft, hok.bk⟩; have hrn : rnd ns i ((S1, S2), (u, l), (sl, bn)) = ent1 i (blkN ns (rndK ((S1, S2), (u, l), (sl, bn))) (Src.step (S1, S2), (u, l), (sl, bn))) := rfl; rw [hrn] at hr2; obtain ⟨hk1, hk2⟩ := hkn; dsimp only at hk1; rw [← hk1]; generalize rndK ((S1, S2), (u, l), (sl, bn)) = m at *; generalize hQs : (Src.step (S1, S2), (u, l), (sl, bn)) = Qs at *; obtain ⟨B, hB⟩ : ∃ B, blkN ns m Qs = B := ⟨_, rfl⟩; rw [hB] at hr2; refine ⟨⟨hs0, by decide, by decide, by decide⟩, fun _ => ?_⟩; refine cA0 ⟨{ q : Nat × Bq // q.1 ≤ 2 ∧ blkN ns q.1 q.2 = B ∧ BqOk ns (48 * i - 24 * q.1) q.2 }, 2000, fun q => [(0, .one (.loc 0 0)), (3, .one (.loc 64 0)), (4, .one (.loc 67 0)), (5, .one (.loc 68 0)), (6, .one (.loc 65 0)), (8, .one (.loc 66 0)), (10, .one (.int .i64 (i : Int))), (11, .one (.int .i64 (q.1.1 : Int)))], fun q => [(0, .cells 75 [.sl yI q.1.2.1.1 false, .int .i64 q.1.2.1.2]), (64, .cells 30 [.sl yNO ns false, .sl yPL ds false]), (65, .cells 34 [.int .i64 q.1.2.2.1.1, .sl yHY q.1.2.2.1.2 false]), (66, .cells 37 [.sl (.sl yI) q.1.2.2.2.1 false, .sl (.sl yI) q.1.2.2.2.2 false]), (67, .cells 34 [.undef, .undef]), (68, .cells 37 [.undef, .undef])], fun q => q.1.1⟩ ⟨(m, Qs), hk2, hB, hB0.mono (by dsimp only; omega)⟩ ?_ ?_
      · simp only [go_sem]; subst hQs
        try first | rfl | (and_intros <;> first | trivial | rfl | omega)
      · rintro ⟨⟨k, ⟨⟨T1, T2⟩, ⟨v, j⟩, ⟨xl, yn⟩⟩⟩, (hk3 : k ≤ 2), (hb1 : blkN ns k ((T1, T2), (v, j), (xl, yn)) = B), (hok2 : BqOk ns (48 * i - 24 * k) ((T1, T2), (v, j), (xl, yn)))⟩; have ht0 : 0 ≤ T2 := hok2.sp; have hcm := qC4 hg (T1, T2); have hbe8 : BeOk ns 800000 (v, j) := hok2.be.mono (by omega); have hbe9 : BeOk ns 900000 (v, j) := hok2.be.mono (by omega); have hft : FitP ns (xl, yn) := hok2.ft; have hbk : BinK 900000 (xl, yn) := fun b hb => Nat.le_trans (hok2.bk b hb) (by omega); have hbb : BinB (xl, yn) := hbk.B (by decide); have hpo := hcm.poss
        (simp -implicitDefEqProofs (maxSteps := 4000000) only [go_sem, bP, con10, con16, con21, con22, con25, con29, con31, con34, con35, con36, con37, hT, hG, hk, hK, Tryz.results10]); (try simp (disch := decide +kernel) only [drawn, true_and, and_true])
        refine ⟨fun hgt => ?_, fun hle => ?_⟩
        · obtain ⟨k, rfl⟩ : ∃ q, k = q + 1 := ⟨k - 1, by omega⟩; have hb2 := hb1; rw [blkN] at hb2; have hokn : BqOk ns (48 * i - 24 * k) (blk1 ns ((T1, T2), (v, j), (xl, yn))) := (dC3 hg hok2).mono (by omega); have hbk1 : blk1 ns ((T1, T2), (v, j), (xl, yn)) = (cmdS ns (T1, T2) ns.length, if (stepB ns (cmdL ns (T1, T2) ns.length) (v, j)).2 = 0 then ((stepB ns (cmdL ns (T1, T2) ns.length) (v, j)).1, plantV ns (xl, yn) (cmdL ns (T1, T2) ns.length) []) else ((v, j), (xl, yn))) := rfl; have hfn : ∀ Q' : Bq, blk1 ns ((T1, T2), (v, j), (xl, yn)) = Q' → blkN ns k Q' = B ∧ BqOk ns (48 * i - 24 * k) Q' := fun Q' e => by rw [← e]; exact ⟨hb2, hokn⟩
          generalize cmdL ns (T1, T2) ns.length = c at *
          (repeat' with_reducible first | refine And.intro ?_ ?_ | intro _) <;> try first | with_reducible (first | assumption | omega | contradiction) | decide
          all_goals first
           | omega
           | exact hg
           | exact hcm
           | exact hpo
           | (rw [if_pos (by assumption)] at hbk1
              have hq := hfn _ hbk1; refine dA0 ⟨(k, _), by dsimp only; omega, hq.1, hq.2⟩ ?_ (by dsimp only; omega); simp only [go_sem]
              try first | rfl | (and_intros <;> first | trivial | rfl | omega)
              done)
           | (rw [if_neg (by assumption)] at hbk1
              have hq := hfn _ hbk1; refine dA0 ⟨(k, _), by dsimp only; omega, hq.1, hq.2⟩ ?_ (by dsimp only; omega); simp only [go_sem]
              try first | rfl | (and_intros <;> first | trivial | rfl | omega)
              done)
        · obtain rfl : k = 0 := by omega
          rw [blkN] at hb1; subst hb1; have hen : ent1 i ((T1, T2), (v, j), (xl, yn)) = ((T1, T2), if (enterV (xl, yn) i).2 = 0 ∧ (ebB (v, j) i).2 = 0 then ((ebB (v, j) i).1, (enterV (xl, yn) i).1) else ((v, j), (xl, yn))) := rfl; have hoke : BqOk ns (48 * (i + 1 - 1)) (ent1 i ((T1, T2), (v, j), (xl, yn))) := (tC1 hg hok2 i).mono (by omega); have hfn : ∀ Q' : Bq, ent1 i ((T1, T2), (v, j), (xl, yn)) = Q' → belR ns (5 - (i + 1)) ((i + 1 : Nat) : Int) Q' = F ∧ BqOk ns (48 * (i + 1 - 1)) Q' := fun Q' e => by
           rw [← e]; exact ⟨by rw [show 5 - (i + 1) = 4 - i by omega, show ((i + 1 : Nat) : Int) = (i : Int) + 1 by omega]; exact hr2.symm, hoke⟩
          (repeat' with_reducible first | refine And.intro ?_ ?_ | intro _) <;> try first | with_reducible (first | assumption | omega | contradiction) | decide
          all_goals first
           | omega
           | exact hg
           | (rw [if_pos (by assumption)] at hen
              have hq := hfn _ hen; refine dA0 ⟨(i + 1, _), by dsimp only; omega, by dsimp only; omega, hq.1, hq.2⟩ ?_ (by dsimp only; omega); simp only [go_sem]
              try rfl
              done)
           | (rw [if_neg (by omega)] at hen
              have hq := hfn _ hen; refine dA0 ⟨(i + 1, _), by dsimp only; omega, by dsimp only; omega, hq.1, hq.2⟩ ?_ (by dsimp only; omega); simp only [go_sem]
              try rfl
              done)
    · have hFe : F = ((S1, S2), (u, l), (sl, bn)) := by
       rw [← hr]
       match h : 5 - i with
       | 0 => rfl
       | f + 1 => rw [belR, if_neg (show ¬ ((i : Int) ≤ 4 ∧ ((i : Int) ≤ 2 ∨ S2 < S1.length)) by omega)]
      rw [hF, hFe]; exact ⟨rfl, rfl, rfl, rfl, rfl, rfl⟩)
end Go.Proofs.YtabadacjbkhmkaaGreatDoor

set_option maxRecDepth 100000
set_option maxHeartbeats 8000000
namespace Go.Proofs.YtabadacjbkhmkaaGreatDoor
open Go.Ev
theorem gB4 (s f : List Int) (o : Bool) : ∀ k, k ≤ s.length → (advI s f o k).2 = 0 ∨ (o = true ∧ (advI s f o k).2 = s.getD (s.length - 1) 0)
 | 0, _ => .inl rfl
 | k + 1, hk => by
   have ih := gB4 s f o k (by omega); unfold advI; split
   · exact ih
   · split
     · exact ih
     · split
       · rename_i h1 h2 h3; right; refine ⟨h3.1, ?_⟩; dsimp only; rw [show s.length - 1 = k by omega]
       · exact ih
theorem mB2 (ns : List Nd) (l : List Hy) (ts : List Int) (cl rs br : List Bool) {i : Nat} : ∀ n, i < n → (decL ns l ts cl rs br n).getD i 0 = cmdV ns l i ts cl rs br
 | 0, h => by omega
 | n + 1, h => by
   have hl := iA7 ns l ts cl rs br n; rw [decL]; by_cases e : i = n
   · subst e; rw [gdE, List.getElem?_append_right (by omega), hl, Nat.sub_self]; rfl
   · rw [gdE, List.getElem?_append_left (by omega), ← gdE]; exact mB2 ns l ts cl rs br n (by omega)
theorem vC8 (kd : Int) (cs : List Int) (w o : Int → Bool) : (exN kd = 2 → decC kd cs w o = 0 ∨ decC kd cs w o = 1) ∧ (¬ exN kd = 2 → decC kd cs w o = 0 ∨ (kd = 3 ∧ decC kd cs w o = -1)) := by
 unfold decC; refine ⟨fun h => ?_, fun h => ?_⟩
 · rw [if_pos h]; split
   · exact .inr rfl
   · exact .inl rfl
 · rw [if_neg h]; split
   · rename_i q; exact .inr ⟨q.1, rfl⟩
   · exact .inl rfl
theorem xD1 {ds : List Dv} {ns : List Nd} (hg : GoodL (ns, ds)) (l : List Hy) (ts : List Int) (cl rs br : List Bool) : CmdOk ns (decL ns l ts cl rs br ns.length) := by
 refine ⟨iA7 _ _ _ _ _ _ _, fun i hi => ?_⟩; rw [mB2 ns l ts cl rs br ns.length hi]; have hnd := hg.nd i hi; have hkd := hnd.kd; have hex := hnd.ex; have eii : (i : Int).toNat = i := Int.toNat_natCast i; dsimp only at hkd hex; unfold cmdV; rw [eii]; generalize ns.getD i nd0 = y at *; obtain ⟨h1, h2⟩ := vC8 y.2.1 (othF (atS l i l.length) 0) (fun b => wntV ns i b ts cl br) (isV rs); generalize decC y.2.1 (othF (atS l i l.length) 0) (fun b => wntV ns i b ts cl br) (isV rs) = v at *; obtain ⟨x1, x2, x3, x4, x5⟩ := y; dsimp only at *; unfold cmdOk; dsimp only; have hk : x2 = 1 ∨ x2 = 2 ∨ x2 = 3 ∨ x2 = 4 ∨ x2 = 5 ∨ x2 = 6 ∨ x2 = 7 ∨ x2 = 8 ∨ x2 = 9 := by omega
 rcases hk with rfl | rfl | rfl | rfl | rfl | rfl | rfl | rfl | rfl
 · rcases h2 (by decide) with rfl | ⟨q, _⟩
   · simp [strN, hex, exN]
   · omega
 · rcases h2 (by decide) with rfl | ⟨q, _⟩
   · simp [strN, hex, exN]
   · omega
 · rcases h2 (by decide) with rfl | ⟨_, rfl⟩
   · simp [strN, hex, exN]
   · simp [strN]
 · rcases h1 rfl with rfl | rfl <;> simp [strN, hex, exN]
 · rcases h1 rfl with rfl | rfl <;> simp [strN, hex, exN]
 · rcases h1 rfl with rfl | rfl <;> simp [strN, hex, exN]
 · rcases h2 (by decide) with rfl | ⟨q, _⟩
   · simp
   · omega
 · rcases h2 (by decide) with rfl | ⟨q, _⟩
   · simp [strN]
   · omega
 · rcases h2 (by decide) with rfl | ⟨q, _⟩
   · simp [strN]
   · omega
theorem bA7 {ns : List Nd} {fl : Fl} {L : Nat → Int} {s : St2} (h0 : s.2.2 = []) : ∀ n, ∀ v ∈ (stI ns fl L s n).2.2, ∃ k, k < n ∧ L k ≠ 0 ∧ v = (L k, (k : Int), toV ns fl k)
 | 0, v, hv => by rw [stI, h0] at hv; cases hv
 | n + 1, v, hv => by
   rw [stI] at hv; unfold st2 at hv; split at hv
   · obtain ⟨k, h1, h2⟩ := bA7 h0 n v hv; exact ⟨k, by omega, h2⟩
   · rename_i hL; dsimp only at hv; split at hv
     · rcases List.mem_append.1 hv with hv | hv
       · obtain ⟨k, h1, h2⟩ := bA7 h0 n v hv; exact ⟨k, by omega, h2⟩
       · rw [List.mem_singleton] at hv; exact ⟨n, by omega, hL, hv⟩
     · obtain ⟨k, h1, h2⟩ := bA7 h0 n v hv; exact ⟨k, by omega, h2⟩
theorem dD2 {l : List Hy} {h : Hy} (hh : h ∈ l) {n v : Int} (e : lastO h.2 n = some v) : v ∈ atS l n l.length := by
 have key : ∀ i, ∀ (hi : i ≤ l.length), ∀ j (hj : j < i), (l[j]'(by omega)) = h → v ∈ lstS l n i := by
  intro i
  induction i with
  | zero => intro _ j hj; omega
  | succ i ih =>
    intro hi j hj he; unfold lstS; by_cases q : j = i
    · subst q; have e1 : l.getD j hy0 = h := by rw [← he]; simp [show j < l.length by omega]
      rw [e1, e]; dsimp only; exact List.mem_append_right _ List.mem_cons_self
    · have hm := ih (by omega) j (by omega) he; split
      · exact hm
      · exact List.mem_append_left _ hm
 obtain ⟨j, hj, he⟩ := List.getElem_of_mem hh; exact ((eB2 l n l.length).2 v).2 (key l.length (Nat.le_refl _) j hj he)
theorem xD0 {ds : List Dv} {ns : List Nd} (hg : GoodL (ns, ds)) {l : List Hy} {h : Hy} (hh : h ∈ l) (hft : FitP ns h.2) {ts : List Int} {cl rs br : List Bool} {f : List Dv} (hpo : Poss ns (decL ns l ts cl rs br ns.length) f) :
 ∀ v ∈ (stepV ns h.2 (decL ns l ts cl rs br ns.length) f).2.2, (0 ≤ v.2.1 ∧ v.2.1 < ns.length) ∧ (0 ≤ v.2.2 ∧ v.2.2 < ns.length) ∧ ((ns.getD v.2.1.toNat nd0).2.1 = 6 → (ns.getD v.2.2.toNat nd0).2.2.2.1 = 1 → isV cl v.1 = true) ∧ ((ns.getD v.2.1.toNat nd0).2.1 = 3 → isV rs v.1 = true) := by
 intro v hv; obtain ⟨c, hc⟩ : ∃ c, decL ns l ts cl rs br ns.length = c := ⟨_, rfl⟩; have hget : ∀ k, k < ns.length → c.getD k 0 = cmdV ns l k ts cl rs br := fun k hk => by rw [← hc]; exact mB2 ns l ts cl rs br ns.length hk
 rw [hc] at hv hpo; unfold stepV stepF at hv; obtain ⟨k, hk, hL, rfl⟩ := bA7 rfl ns.length v hv; have ht := aC9 hg hpo (p := h.2) hk hL; have ekk : (k : Int).toNat = k := Int.toNat_natCast k; have hnd := hg.nd k hk; have hkd := hnd.kd; refine ⟨⟨by dsimp only; omega, by dsimp only; omega⟩, ht.2, ?_⟩; dsimp only; rw [ekk]; have key : strN (ns.getD k nd0).2.1 = true → ¬ (ns.getD k nd0).2.1 = 5 → lastO h.2 k = some (leftV ns h.2 c f (flowV ns h.2 c f) k) ∧ (flowV ns h.2 c f).1.getD k 0 = c.getD k 0 := fun hs h5 => by
  have h7 : ¬ (ns.getD k nd0).2.1 = 7 := fun e => by rw [e] at hs; cases hs
  have hlen := hft.ln k hk; have hl1 := hnd.ln hs; dsimp only at hl1; have hsl := hft.sl; have hlv : leftV ns h.2 c f (flowV ns h.2 c f) k = (h.2.1.getD k []).getD ((h.2.1.getD k []).length - 1) 0 := by
   have hL2 := hL; unfold leftV at hL2 ⊢; rw [if_pos hs] at hL2 ⊢
   rcases gB4 (h.2.1.getD k []) (atV ns f k) (decide (0 ≤ (flowV ns h.2 c f).1.getD k 0)) _ (Nat.le_refl _) with e | ⟨_, e⟩
   · exact absurd e hL2
   · exact e
  refine ⟨?_, ?_⟩
  · rw [hlv]; unfold lastO; rw [ekk, if_neg (by omega)]
  · rcases (qB1 ns h.2 c f).1 k hk with e | ⟨_, e | ⟨e, _⟩⟩
    · have := ht.1.1; omega
    · rw [e]; unfold wanV; rw [ekk, if_neg h7]
    · exact absurd e h5
 have hmem : strN (ns.getD k nd0).2.1 = true → ¬ (ns.getD k nd0).2.1 = 5 → leftV ns h.2 c f (flowV ns h.2 c f) k ∈ othF (atS l k l.length) 0 := fun hs h5 => by
  unfold othF; exact List.mem_filter.2 ⟨dD2 hh (key hs h5).1, by simpa using hL⟩
 refine ⟨fun h6 hz => ?_, fun h3 => ?_⟩
 · have hs : strN (ns.getD k nd0).2.1 = true := by rw [h6]; rfl
   have h5 : ¬ (ns.getD k nd0).2.1 = 5 := by omega
   have hcv := hget k hk; have hfl := (key hs h5).2; have hm := hmem hs h5; have hc1 : c.getD k 0 = 1 := by
    have h9 : 0 ≤ (flowV ns h.2 c f).1.getD k 0 := ht.1.1; have h10 : (flowV ns h.2 c f).1.getD k 0 < ((ns.getD k nd0).2.2.2.2).length := ht.1.2; have h11 : ((flowV ns h.2 c f).1.getD k 0).toNat < ((ns.getD k nd0).2.2.2.2).length := by omega
    have hzz := hnd.zz ((flowV ns h.2 c f).1.getD k 0).toNat (toV ns (flowV ns h.2 c f) k) (by
     unfold toV; exact getD_some h11)
    have hz0 := hnd.z0 (.inr (.inr h6)); dsimp only at hzz hz0; rw [hz, hz0] at hzz; have hz1 := hzz.2; split at hz1
    · rename_i q; omega
    · cases hz1
   rw [hcv] at hc1; unfold cmdV decC at hc1; rw [ekk, h6, if_pos (by rfl)] at hc1; split at hc1
   · rename_i q; have hw := List.any_eq_false.1 q.2 _ hm; have hw : wntV ns k (leftV ns h.2 c f (flowV ns h.2 c f) k) ts cl br = true := by simpa using hw
     rw [bC3, ekk, h6] at hw; split at hw
     · cases hw
     · rename_i q2
       cases hi : isV cl (leftV ns h.2 c f (flowV ns h.2 c f) k) with
       | true => rfl
       | false => exact absurd (.inl (.inl ⟨rfl, hi⟩)) q2
   · cases hc1
 · have hs : strN (ns.getD k nd0).2.1 = true := by rw [h3]; rfl
   have h5 : ¬ (ns.getD k nd0).2.1 = 5 := by omega
   have hcv := hget k hk; have hfl := (key hs h5).2; have hm := hmem hs h5; have hc0 : ¬ c.getD k 0 = -1 := by have := ht.1.1; omega
   rw [hcv] at hc0; unfold cmdV decC at hc0; rw [ekk, h3, if_neg (by decide)] at hc0
   cases hi : isV rs (leftV ns h.2 c f (flowV ns h.2 c f) k) with
   | true => rfl
   | false =>
     rw [if_pos ⟨rfl, List.any_eq_true.2 ⟨_, hm, by rw [hi]; rfl⟩⟩] at hc0; exact absurd rfl hc0
def Dg1 (s : ByteArray) : Prop := s.size = 1 ∧ 48 ≤ byteAt s 0 ∧ byteAt s 0 ≤ 57
def dgV (s : ByteArray) : Int := byteAt s 0 - 48
def con115 : Con := { ps := [.d false .str], rs := [.d false .bool], pre := fun (x : ByteArray × Unit) => Dg1 x.1, out := fun _ => (true, ()), nw := id }
theorem c115 : CtrOk Tryz.prog 115 con115.ctr :=
 aA0 eA0 eN rfl Tryz.func115 rfl con115 524429 (by kernel_rfl) (by decide) (by decide) rfl (by decide) rfl (by
  rintro ⟨s, _⟩ hpre hwf X hT hG hk hK; obtain ⟨h1, h2, h3⟩ : Dg1 s := hpre
  (simp -implicitDefEqProofs (maxSteps := 4000000) only [go_sem, bP, con115, hT, hG, hk, hK, Tryz.results115] at hwf ⊢)
  clear hwf; refine cA0 ⟨{ i : Nat // i ≤ 1 }, 1000, fun i => [(0, .one (.str s)), (3, .one (.int .i64 (i.1 : Int)))], fun _ => [], fun i => 1 - i.1⟩ ⟨0, Nat.zero_le _⟩ ?_ ?_
  · simp only [go_sem]; rfl
  · rintro ⟨i, (hi : i ≤ 1)⟩
    (simp -implicitDefEqProofs (maxSteps := 4000000) only [go_sem, bP, con115, hT, hG, hk, hK, Tryz.results115])
    refine fun _ hlt => ?_; obtain rfl : i = 0 := by omega
    have e0 : byteAt s ((0 : Nat) : Int) = byteAt s 0 := rfl; simp only [e0, h1]; generalize byteAt s 0 = c at *
    (repeat' with_reducible first | refine And.intro ?_ ?_ | intro _) <;> try first | with_reducible (first | assumption | omega | contradiction) | decide
    all_goals first
     | omega
     | (refine dA0 ⟨1, Nat.le_refl _⟩ ?_ (by dsimp only; omega)
        simp only [go_sem]
        try rfl
        done))
def con116 : Con := { ps := [.d false .str], rs := [.d false yI], pre := fun (x : ByteArray × Unit) => Dg1 x.1, out := fun (x : ByteArray × Unit) => (dgV x.1, ()), nw := id }
theorem c116 : CtrOk Tryz.prog 116 con116.ctr :=
 aA0 eA0 eN rfl Tryz.func116 rfl con116 285 (by kernel_rfl) (by decide) (by decide) rfl (by decide) rfl (by
  rintro ⟨s, _⟩ hpre hwf X hT hG hk hK; obtain ⟨h1, h2, h3⟩ : Dg1 s := hpre
  (simp -implicitDefEqProofs (maxSteps := 4000000) only [go_sem, bP, con116, hT, hG, hk, hK, Tryz.results116] at hwf ⊢)
  clear hwf; refine cA0 ⟨{ i : Nat // i ≤ 1 }, 1000, fun i => [(0, .one (.str s)), (3, .one (.int .i64 (if i.1 = 0 then 0 else dgV s))), (4, .one (.int .i64 (i.1 : Int)))], fun _ => [], fun i => 1 - i.1⟩ ⟨0, Nat.zero_le _⟩ ?_ ?_
  · simp only [go_sem]
    try simp only [if_true]
    rfl
  · rintro ⟨i, (hi : i ≤ 1)⟩; have hdv : dgV s = byteAt s 0 - 48 := rfl
    (simp -implicitDefEqProofs (maxSteps := 4000000) only [go_sem, bP, con116, hT, hG, hk, hK, Tryz.results116])
    refine fun _ => ⟨fun hlt => ?_, fun hge => ?_⟩
    · obtain rfl : i = 0 := by omega
      have e0 : byteAt s ((0 : Nat) : Int) = byteAt s 0 := rfl; simp only [e0, h1, if_true]; generalize byteAt s 0 = c at *
      (repeat' with_reducible first | refine And.intro ?_ ?_ | intro _) <;> try first | with_reducible (first | assumption | omega | contradiction) | decide
      all_goals first
       | omega
       | (refine dA0 ⟨1, Nat.le_refl _⟩ ?_ (by dsimp only; omega)
          simp only [go_sem]; simp only [hdv, Nat.one_ne_zero, if_false]
          try first | rfl | (and_intros <;> first | trivial | rfl | omega)
          done)
    · rw [if_neg (by omega)])
def con96 : Con := { ps := [.d false .str], rs := [.d false yI, .d false .bool], pre := fun (x : ByteArray × Unit) => Dg1 x.1, out := fun (x : ByteArray × Unit) => (dgV x.1, true, ()), nw := id }
theorem c96 : CtrOk Tryz.prog 96 con96.ctr :=
 aA0 eA0 (eC c115 has115 (eC c116 has116 eN)) rfl Tryz.func96 rfl con96 67108877 (by kernel_rfl) (by decide) (by decide) rfl (by decide) rfl (by
  rintro ⟨s, _⟩ hpre hwf X hT hG hk hK; have hd : Dg1 s := hpre; have h1 := hd.1
  (simp -implicitDefEqProofs (maxSteps := 4000000) only [go_sem, bP, con96, con115, con116, hT, hG, hk, hK, Tryz.results96] at hwf ⊢)
  clear hwf; simp only [h1]
  (repeat' with_reducible first | refine And.intro ?_ ?_ | intro _) <;> try first | with_reducible (first | assumption | omega | contradiction) | decide
  all_goals first
   | omega
   | exact hd)
def spS (s : ByteArray) (b : Int) : Nat → List ByteArray × ByteArray
 | 0 => ([], ByteArray.mk #[])
 | i + 1 => if byteAt s i = b then ((spS s b i).1 ++ [(spS s b i).2], ByteArray.mk #[]) else ((spS s b i).1, (spS s b i).2 ++ s.extract i (i + 1))
def spV (s : ByteArray) (b : Int) : List ByteArray := (spS s b s.size).1 ++ [(spS s b s.size).2]
theorem lC3 (s : ByteArray) (b : Int) : ∀ i, (spS s b i).1.length ≤ i ∧ (spS s b i).2.size ≤ i
 | 0 => ⟨Nat.le_refl _, Nat.le_refl _⟩
 | i + 1 => by
   have ih := lC3 s b i; unfold spS; split
   · refine ⟨by rw [List.length_append, List.length_singleton]; omega, Nat.zero_le _⟩
   · refine ⟨by dsimp only; omega, ?_⟩; dsimp only; rw [ByteArray.size_append, ByteArray.size_extract]; omega
def con57 : Con := { ps := [.d false .str, .d false (.int .u8)], rs := [.d false (.sl .str)], pre := fun (x : ByteArray × Int × Unit) => x.1.size ≤ 5000, out := fun (x : ByteArray × Int × Unit) => (spV x.1 x.2.1, ()), nw := id }
theorem c57 : CtrOk Tryz.prog 57 con57.ctr :=
 aA0 eA0 eN rfl Tryz.func57 rfl con57 264435 (by kernel_rfl) (by decide) (by decide) rfl (by decide) rfl (by
  rintro ⟨s, (b : Int), _⟩ hpre hwf X hT hG hk hK; have hl : s.size ≤ 5000 := hpre
  (simp -implicitDefEqProofs (maxSteps := 4000000) only [go_sem, bP, con57, hT, hG, hk, hK, Tryz.results57] at hwf ⊢)
  clear hwf; refine cA0 ⟨{ i : Nat // i ≤ s.size }, 1000, fun i => [(0, .one (.str s)), (1, .one (.int .u8 b)), (5, .one (.row 64)), (6, .one (.str (spS s b i.1).2)), (7, .one (.int .i64 (i.1 : Int)))], fun i => [(64, .row 9 .str (spS s b i.1).1)], fun i => s.size - i.1⟩ ⟨0, Nat.zero_le _⟩ ?_ ?_
  · simp only [go_sem]; simp only [spS]
    try first | rfl | (and_intros <;> first | trivial | rfl | omega)
  · rintro ⟨i, (hi : i ≤ s.size)⟩; obtain ⟨q1, q2⟩ := lC3 s b i; have hst : spS s b (i + 1) = if byteAt s i = b then ((spS s b i).1 ++ [(spS s b i).2], ByteArray.mk #[]) else ((spS s b i).1, (spS s b i).2 ++ s.extract i (i + 1)) := rfl
    (simp -implicitDefEqProofs (maxSteps := 4000000) only [go_sem, bP, con57, hT, hG, hk, hK, Tryz.results57])
    refine fun _ => ⟨fun hlt => ?_, fun hge => ?_⟩
    · have eii : (i : Int).toNat = i := Int.toNat_natCast i; have eii1 : ((i : Int) + 1).toNat = i + 1 := by omega
      have hsz : (s.extract i (i + 1)).size ≤ 1 := by rw [ByteArray.size_extract]; omega
      generalize spS s b i = T at *; simp only [eii, eii1]
      (repeat' with_reducible first | refine And.intro ?_ ?_ | intro _) <;> try first | with_reducible (first | assumption | omega | contradiction) | decide
      all_goals first
       | omega
       | (rw [if_pos (by assumption)] at hst
          refine dA0 ⟨i + 1, by omega⟩ ?_ (by dsimp only; omega); simp only [go_sem]; rw [hst]
          try first | rfl | (and_intros <;> first | trivial | rfl | omega)
          done)
       | (rw [if_neg (by assumption)] at hst
          refine dA0 ⟨i + 1, by omega⟩ ?_ (by dsimp only; omega); simp only [go_sem]; rw [hst]
          try first | rfl | (and_intros <;> first | trivial | rfl | omega)
          done)
    · have : i = s.size := by omega
      subst this
      (repeat' with_reducible first | refine And.intro ?_ ?_ | intro _) <;> try first | with_reducible (first | assumption | omega | contradiction) | decide
      all_goals first
       | omega
       | rfl)
end Go.Proofs.YtabadacjbkhmkaaGreatDoor
