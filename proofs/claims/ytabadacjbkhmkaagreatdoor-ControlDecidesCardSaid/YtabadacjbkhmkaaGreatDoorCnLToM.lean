/- Part. -/
import Derived.Test.YtabadacjbkhmkaaGreatDoorCnIToK
set_option linter.all false
set_option maxRecDepth 100000
set_option maxHeartbeats 8000000
namespace Go.Proofs.YtabadacjbkhmkaaGreatDoor
open Go.Ev
def goV (ns : List Nd) (p : Pl) (c : List Int) (f : List Dv) (n k : Nat) : Bool :=
 decide (k ≠ n) && (decide (lastV ns p c f k ≠ 0) && decide (((ns.getD k nd0).2.2.2.2).getD (wanV ns c k).toNat 0 = n))
abbrev Fl := List Int × List Int
def flR (go : Nat → Bool) (w : Nat → Int) (st : Bool) (n : Nat) : Nat → Nat → Fl → Fl
 | 0, _, s => s
 | d + 1, k, s => if go k = true then (if st = true then (s.1.set k (w k), s.2.set n k) else flR go w st n d (k + 1) (s.1.set k (w k), s.2)) else flR go w st n d (k + 1) s
def flS (ns : List Nd) (p : Pl) (c : List Int) (f : List Dv) (n : Nat) (lv : List Int) : List Int :=
 if ((((ns.getD n nd0).2.1 = 5 ∧ lastV ns p c f n ≠ 0) ∧ lv.getD n 0 = -1) ∧ (p.1.getD n []).getD 0 0 = 0) then lv.set n 0 else lv
def flB (ns : List Nd) (n : Nat) (lv : List Int) : Bool := decide ((ns.getD n nd0).2.1 = 5) && decide (lv.getD n 0 = 0)
def flN (ns : List Nd) (p : Pl) (c : List Int) (f : List Dv) (n : Nat) (s : Fl) : Fl :=
 if (entV ns p n && !flB ns n (flS ns p c f n s.1)) = true then flR (goV ns p c f n) (fun k => wanV ns c k) (strN (ns.getD n nd0).2.1) n ns.length 0 (flS ns p c f n s.1, s.2) else (flS ns p c f n s.1, s.2)
def flO (ns : List Nd) (p : Pl) (c : List Int) (f : List Dv) : Nat → Fl → Fl
 | 0, s => s
 | n + 1, s => flO ns p c f n (flN ns p c f n s)
def flowV (ns : List Nd) (p : Pl) (c : List Int) (f : List Dv) : Fl := flO ns p c f ns.length (List.replicate ns.length (-1), List.replicate ns.length (-1))
theorem oC5 (ns : List Nd) (p : Pl) {m k : Nat} (h : k < m) : (entL ns p m).getD k false = entV ns p k := by
 simp [entL, h]
theorem hC6 {X : Wk} (l : LSpec) (B : Code) (K : List Itm) {G : Prop} (main : (∀ x, evk X B (l.s x) (l.m x) l.fr (.lp l x :: K)) → G) (pf : ∀ x, evk X B (l.s x) (l.m x) l.fr (.lp l x :: K)) : G := main pf
theorem getD_set_ne {α : Type} {l : List α} {i j : Nat} {x d : α} (h : j ≠ i) : (l.set i x).getD j d = l.getD j d := by
 rw [gdE, gdE, List.getElem?_set_ne (fun e => h e.symm)]
theorem sC8 (ns : List Nd) (p : Pl) (c : List Int) (f : List Dv) (n : Nat) (lv : List Int) : (flS ns p c f n lv).length = lv.length := by
 unfold flS; split <;> simp
theorem kC8 {ds : List Dv} {ns : List Nd} (hg : GoodL (ns, ds)) {p : Pl} {c : List Int} {f : List Dv} (hp : Poss ns c f) {k : Nat} (hk : k < ns.length) (h : lastV ns p c f k ≠ 0) : 0 ≤ wanV ns c k ∧ wanV ns c k < ((ns.getD k nd0).2.2.2.2).length := by
 have hok := hp.ok k hk; have hex := (hg.nd k hk).ex; have ekk : (k : Int).toNat = k := Int.toNat_natCast k; dsimp only at hex; unfold wanV; unfold lastV at h; unfold cmdOk at hok; simp only [ekk] at h ⊢; by_cases h7 : (ns.getD k nd0).2.1 = 7
 · rw [if_pos h7]; rw [hex]; unfold exN; rw [if_neg (by omega), if_neg (by omega)]; omega
 · rw [if_neg h7] at h hok ⊢; by_cases hs : strN (ns.getD k nd0).2.1 = false
   · rw [if_pos (Or.inl hs)] at h; exact absurd rfl h
   · by_cases hc : c.getD k 0 = -1
     · rw [if_pos (Or.inr (Or.inl hc))] at h; exact absurd rfl h
     · rw [if_neg hs, if_neg hc, Bool.and_eq_true, decide_eq_true_eq, decide_eq_true_eq] at hok; exact hok
def con42 : Con := { ps := [.d true yLY, .d true yP2, .d false (.sl yI), .d false (.sl yPL)], rs := [.d true yFW, .d false yI], pre := fun (x : Ly × Pl × List Int × List Dv × Unit) => GoodL x.1 ∧ FitP x.1.1 x.2.1 ∧ Poss x.1.1 x.2.2.1 x.2.2.2.1, out := fun (x : Ly × Pl × List Int × List Dv × Unit) => (flowV x.1.1 x.2.1 x.2.2.1 x.2.2.2.1, 0, ()), nw := id }
theorem c42 : CtrOk Tryz.prog 42 con42.ctr :=
 aA0 eA0 (eC c23 has23 (eC c80 has80 (eC c53 has53 (eC c79 has79 (eC c81 has81 (eC c82 has82 eN)))))) rfl Tryz.func42 rfl con42 23395444178846728843330617295681383389980072083263 (by kernel_rfl) (by decide) (by decide) rfl (by decide) rfl (by
  rintro ⟨⟨(ns : List Nd), (ds : List Dv)⟩, ⟨(sl : List (List Int)), (bn : List (List Int))⟩, (c : List Int), (f : List Dv), _⟩ hpre hwf X hT hG hk hK; obtain ⟨hg, hp, hpo⟩ : GoodL (ns, ds) ∧ FitP ns (sl, bn) ∧ Poss ns c f := hpre
  (simp -implicitDefEqProofs (maxSteps := 4000000) only [go_sem, bP, con42, con23, con80, con53, con79, con81, con82, hT, hG, hk, hK, Tryz.results42] at hwf ⊢); (try simp (disch := decide +kernel) only [drawn, true_and, and_true])
  clear hwf; have hn24 : ns.length ≤ 24 := hg.n24; have hsl : sl.length = ns.length := hp.sl; refine ⟨⟨hg, hpo⟩, fun _ => ⟨fun h => h.elim, ?_⟩⟩; refine cA0 ⟨{ i : Nat // i ≤ ns.length }, 1000, fun i => [(2, .one (.sl yI c false)), (3, .one (.sl yPL f false)), (4, .one (.loc 64 0)), (5, .one (.loc 65 0)), (8, .one (.loc 66 0)), (11, .one (.loc 67 0)), (12, .one (.int .i64 i.1))], fun i => [(64, .cells 30 [.sl yNO ns false, .sl yPL ds false]), (65, .cells 37 [.sl (.sl yI) sl false, .sl (.sl yI) bn false]), (66, .cells 90 [.undef, .undef]), (67, .cells 90 [.row 68, .row 69]), (68, .row 3 yI (List.replicate i.1 (-1))), (69, .row 3 yI (List.replicate i.1 (-1)))], fun i => ns.length - i.1⟩ ⟨0, Nat.zero_le _⟩ ?_ ?_
  · simp only [go_sem]; simp only [List.replicate_zero]
    try first | rfl | (and_intros <;> first | trivial | rfl | omega)
  · rintro ⟨i, (hi : i ≤ ns.length)⟩
    (simp -implicitDefEqProofs (maxSteps := 4000000) only [go_sem, bP, con42, con23, con80, con53, con79, con81, con82, hT, hG, hk, hK, Tryz.results42]); (try simp (disch := decide +kernel) only [drawn, true_and, and_true])
    refine fun _ => ⟨fun hlt => ?_, fun hge => ?_⟩
    · have hi' : i < ns.length := by omega
      (repeat' with_reducible first | refine And.intro ?_ ?_ | intro _) <;> try first | with_reducible (first | assumption | omega | contradiction) | decide
      all_goals first
       | omega
       | (rw [List.length_replicate]; omega)
       | (refine dA0 ⟨i + 1, by omega⟩ ?_ (by dsimp only; omega)
          simp only [go_sem]; simp only [List.replicate_succ']
          try first | rfl | (and_intros <;> first | trivial | rfl | omega)
          done)
    · have : i = ns.length := by omega
      subst this; have hul := dA4 0 ns.length; refine ⟨⟨hg, hp⟩, fun _ => ⟨hg, fun _ _ => ⟨by omega, ?_⟩⟩⟩; refine cA0 ⟨{ q : Nat × Fl × List Bool // q.1 ≤ ns.length ∧ flO ns (sl, bn) c f q.1 q.2.1 = flowV ns (sl, bn) c f ∧ q.2.1.1.length = ns.length ∧ q.2.1.2.length = ns.length ∧ q.2.2.length = ns.length ∧ ∀ k, k < q.1 → q.2.2.getD k false = entV ns (sl, bn) k }, 2000, fun q => [(2, .one (.sl yI c false)), (3, .one (.sl yPL f false)), (4, .one (.loc 64 0)), (5, .one (.loc 65 0)), (8, .one (.loc 66 0)), (11, .one (.loc 67 0)), (13, .one (.row 70)), (14, .one (.sl yI (upL 0 ns.length) false)), (15, .one (.int .i64 ((q.1.1 : Int) - 1)))], fun q => [(64, .cells 30 [.sl yNO ns false, .sl yPL ds false]), (65, .cells 37 [.sl (.sl yI) sl false, .sl (.sl yI) bn false]), (66, .cells 90 [.undef, .undef]), (67, .cells 90 [.row 68, .row 69]), (68, .row 3 yI q.1.2.1.1), (69, .row 3 yI q.1.2.1.2), (70, .row 4 .bool q.1.2.2)], fun q => q.1.1⟩ ⟨(ns.length, (List.replicate ns.length (-1), List.replicate ns.length (-1)), entL ns (sl, bn) ns.length), Nat.le_refl _, rfl, by simp, by simp, xB7 _ _ _, fun k hk => oC5 _ _ hk⟩ ?_ ?_
      · simp only [go_sem]; simp only [hul]
        try first | rfl | (and_intros <;> first | trivial | rfl | omega)
      · rintro ⟨⟨i, ⟨(lv : List Int), (en : List Int)⟩, (O : List Bool)⟩, (hi : i ≤ ns.length), (hF : flO ns (sl, bn) c f i (lv, en) = flowV ns (sl, bn) c f), (hlv : lv.length = ns.length), (hen : en.length = ns.length), (hO : O.length = ns.length), (hOe : ∀ k, k < i → O.getD k false = entV ns (sl, bn) k)⟩
        (simp -implicitDefEqProofs (maxSteps := 4000000) only [go_sem, bP, con42, con23, con80, con53, con79, con81, con82, hT, hG, hk, hK, Tryz.results42]); (try simp (disch := decide +kernel) only [drawn, true_and, and_true])
        refine ⟨fun hge => ?_, fun hlt => ?_⟩
        · obtain ⟨n, rfl⟩ : ∃ n, i = n + 1 := ⟨i - 1, by omega⟩; have ej : ((n + 1 : Nat) : Int) - 1 = n := by omega
          have hn : n < ns.length := by omega
          have eo : ∀ z, (upL 0 ns.length).getD ((n : Int)).toNat z = n := fun z => by simp [upL, hn]
          have ekn : (n : Int).toNat = n := Int.toNat_natCast n; have ekn2 : ∀ z, (upL 0 ns.length).getD n z = n := fun z => by simp [upL, hn]
          have hnd := hg.nd n hn; have hln := hp.ln n hn; have hl1 : strN (ns.getD n nd0).2.1 = true → 1 ≤ (ns.getD n nd0).2.2.1 ∧ (ns.getD n nd0).2.2.1 ≤ 8 := hnd.ln; dsimp only at hln; obtain ⟨y, ey⟩ : ∃ y, ns.getD n nd0 = y := ⟨_, rfl⟩; have ek : ∀ z, ns.getD n z = y := fun z => by rw [← ey]; simp [hn]
          rw [ey] at hln hl1; have h5 : y.2.1 = 5 → 1 ≤ y.2.2.1 := fun h => (hl1 (by rw [h]; rfl)).1; simp only [ej, ekn, ekn2, ek, hul]; exact hC6 (X := X) ⟨{ q : Nat × Fl × List Bool // q.1 ≤ ns.length ∧ q.2.1.1.length = ns.length ∧ q.2.1.2.length = ns.length ∧ q.2.2.length = ns.length ∧ (∀ k, k < n → q.2.2.getD k false = entV ns (sl, bn) k) ∧ (q.2.2.getD n false = true → flO ns (sl, bn) c f n (flR (goV ns (sl, bn) c f n) (fun k => wanV ns c k) (strN y.2.1) n (ns.length - q.1) q.1 q.2.1) = flowV ns (sl, bn) c f) ∧ (q.2.2.getD n false = false → flO ns (sl, bn) c f n q.2.1 = flowV ns (sl, bn) c f) }, 5000, fun q => [(2, .one (.sl yI c false)), (3, .one (.sl yPL f false)), (4, .one (.loc 64 0)), (5, .one (.loc 65 0)), (8, .one (.loc 66 0)), (11, .one (.loc 67 0)), (13, .one (.row 70)), (14, .one (.sl yI (upL 0 ns.length) false)), (15, .one (.int .i64 n)), (16, .one (.int .i64 n)), (17, .one (.loc 71 0)), (18, .one (.int .i64 q.1.1))], fun q => [(64, .cells 30 [.sl yNO ns false, .sl yPL ds false]), (65, .cells 37 [.sl (.sl yI) sl false, .sl (.sl yI) bn false]), (66, .cells 90 [.undef, .undef]), (67, .cells 90 [.row 68, .row 69]), (68, .row 3 yI q.1.2.1.1), (69, .row 3 yI q.1.2.1.2), (70, .row 4 .bool q.1.2.2), (71, .cells 56 [.str y.1, .int .i64 y.2.1, .int .i64 y.2.2.1, .int .i64 y.2.2.2.1, .sl yI y.2.2.2.2 false])], fun q => ns.length - q.1.1⟩ _ _ (fun H => by
           (repeat' with_reducible first | refine And.intro ?_ ?_ | intro _) <;> try first | with_reducible (first | assumption | omega | contradiction) | decide
           all_goals first
            | omega
            | exact hg
            | exact hp
            | exact hpo.len
            | exact hpo.fl
            | (rw [List.length_set]; omega)
            | (have h := h5 (by assumption : (y.2.1 = 5 ∧ ¬lastV ns (sl, bn) c f n = 0) ∧ lv.getD n 0 = -1).1.1; omega)
            | skip
           all_goals first
            | (have hs1 : flS ns (sl, bn) c f n lv = lv.set n 0 := by
                unfold flS; rw [ey]; exact if_pos (by assumption)
               have hB : flB ns n (lv.set n 0) = true := by
                unfold flB; rw [ey, Bool.and_eq_true, decide_eq_true_eq, decide_eq_true_eq]; assumption
               have hbb : (O.set n false).getD n false = (entV ns (sl, bn) n && !flB ns n (lv.set n 0)) := by
                rw [hB]
                first
                 | (rw [hOe n (by omega)]; simp; done)
                 | (simp [hn, hO]; done)
               have hOl : ((O.set n false)).length = ns.length := by first | exact hO | (rw [List.length_set]; exact hO)
               have hOk : ∀ k, k < n → ((O.set n false)).getD k false = entV ns (sl, bn) k := fun k hk => by
                first
                 | exact hOe k (by omega)
                 | (rw [getD_set_ne (by omega)]; exact hOe k (by omega))
               have hll : (lv.set n 0).length = ns.length := by first | exact hlv | (rw [List.length_set]; exact hlv)
               have hF0 : (((O.set n false)).getD n false = true → flO ns (sl, bn) c f n (flR (goV ns (sl, bn) c f n) (fun k => wanV ns c k) (strN y.2.1) n ns.length 0 (lv.set n 0, en)) = flowV ns (sl, bn) c f) ∧ (((O.set n false)).getD n false = false → flO ns (sl, bn) c f n (lv.set n 0, en) = flowV ns (sl, bn) c f) := by
                rw [flO, flN, hs1, ← hbb, ey] at hF; exact ⟨fun e => by rw [if_pos e] at hF; exact hF, fun e => by rw [e, if_neg (by decide)] at hF; exact hF⟩
               refine cA0 ⟨{ q : Nat × Fl × List Bool // q.1 ≤ ns.length ∧ q.2.1.1.length = ns.length ∧ q.2.1.2.length = ns.length ∧ q.2.2.length = ns.length ∧ (∀ k, k < n → q.2.2.getD k false = entV ns (sl, bn) k) ∧ (q.2.2.getD n false = true → flO ns (sl, bn) c f n (flR (goV ns (sl, bn) c f n) (fun k => wanV ns c k) (strN y.2.1) n (ns.length - q.1) q.1 q.2.1) = flowV ns (sl, bn) c f) ∧ (q.2.2.getD n false = false → flO ns (sl, bn) c f n q.2.1 = flowV ns (sl, bn) c f) }, 5000, fun q => [(2, .one (.sl yI c false)), (3, .one (.sl yPL f false)), (4, .one (.loc 64 0)), (5, .one (.loc 65 0)), (8, .one (.loc 66 0)), (11, .one (.loc 67 0)), (13, .one (.row 70)), (14, .one (.sl yI (upL 0 ns.length) false)), (15, .one (.int .i64 n)), (16, .one (.int .i64 n)), (17, .one (.loc 71 0)), (18, .one (.int .i64 q.1.1))], fun q => [(64, .cells 30 [.sl yNO ns false, .sl yPL ds false]), (65, .cells 37 [.sl (.sl yI) sl false, .sl (.sl yI) bn false]), (66, .cells 90 [.undef, .undef]), (67, .cells 90 [.row 68, .row 69]), (68, .row 3 yI q.1.2.1.1), (69, .row 3 yI q.1.2.1.2), (70, .row 4 .bool q.1.2.2), (71, .cells 56 [.str y.1, .int .i64 y.2.1, .int .i64 y.2.2.1, .int .i64 y.2.2.2.1, .sl yI y.2.2.2.2 false])], fun q => ns.length - q.1.1⟩ ⟨(0, (lv.set n 0, en), (O.set n false)), Nat.zero_le _, hll, hen, hOl, hOk, hF0.1, hF0.2⟩ ?_ H; simp only [go_sem]
               try rfl
               done)
            | (have hs1 : flS ns (sl, bn) c f n lv = lv.set n 0 := by
                unfold flS; rw [ey]; exact if_pos (by assumption)
               have hB : flB ns n (lv.set n 0) = false := by
                unfold flB; rw [ey, Bool.and_eq_false_iff, decide_eq_false_iff_not, decide_eq_false_iff_not]; assumption
               have hbb : (O).getD n false = (entV ns (sl, bn) n && !flB ns n (lv.set n 0)) := by
                rw [hB]
                first
                 | (rw [hOe n (by omega)]; simp; done)
                 | (simp [hn, hO]; done)
               have hOl : ((O)).length = ns.length := by first | exact hO | (rw [List.length_set]; exact hO)
               have hOk : ∀ k, k < n → ((O)).getD k false = entV ns (sl, bn) k := fun k hk => by
                first
                 | exact hOe k (by omega)
                 | (rw [getD_set_ne (by omega)]; exact hOe k (by omega))
               have hll : (lv.set n 0).length = ns.length := by first | exact hlv | (rw [List.length_set]; exact hlv)
               have hF0 : (((O)).getD n false = true → flO ns (sl, bn) c f n (flR (goV ns (sl, bn) c f n) (fun k => wanV ns c k) (strN y.2.1) n ns.length 0 (lv.set n 0, en)) = flowV ns (sl, bn) c f) ∧ (((O)).getD n false = false → flO ns (sl, bn) c f n (lv.set n 0, en) = flowV ns (sl, bn) c f) := by
                rw [flO, flN, hs1, ← hbb, ey] at hF; exact ⟨fun e => by rw [if_pos e] at hF; exact hF, fun e => by rw [e, if_neg (by decide)] at hF; exact hF⟩
               refine cA0 ⟨{ q : Nat × Fl × List Bool // q.1 ≤ ns.length ∧ q.2.1.1.length = ns.length ∧ q.2.1.2.length = ns.length ∧ q.2.2.length = ns.length ∧ (∀ k, k < n → q.2.2.getD k false = entV ns (sl, bn) k) ∧ (q.2.2.getD n false = true → flO ns (sl, bn) c f n (flR (goV ns (sl, bn) c f n) (fun k => wanV ns c k) (strN y.2.1) n (ns.length - q.1) q.1 q.2.1) = flowV ns (sl, bn) c f) ∧ (q.2.2.getD n false = false → flO ns (sl, bn) c f n q.2.1 = flowV ns (sl, bn) c f) }, 5000, fun q => [(2, .one (.sl yI c false)), (3, .one (.sl yPL f false)), (4, .one (.loc 64 0)), (5, .one (.loc 65 0)), (8, .one (.loc 66 0)), (11, .one (.loc 67 0)), (13, .one (.row 70)), (14, .one (.sl yI (upL 0 ns.length) false)), (15, .one (.int .i64 n)), (16, .one (.int .i64 n)), (17, .one (.loc 71 0)), (18, .one (.int .i64 q.1.1))], fun q => [(64, .cells 30 [.sl yNO ns false, .sl yPL ds false]), (65, .cells 37 [.sl (.sl yI) sl false, .sl (.sl yI) bn false]), (66, .cells 90 [.undef, .undef]), (67, .cells 90 [.row 68, .row 69]), (68, .row 3 yI q.1.2.1.1), (69, .row 3 yI q.1.2.1.2), (70, .row 4 .bool q.1.2.2), (71, .cells 56 [.str y.1, .int .i64 y.2.1, .int .i64 y.2.2.1, .int .i64 y.2.2.2.1, .sl yI y.2.2.2.2 false])], fun q => ns.length - q.1.1⟩ ⟨(0, (lv.set n 0, en), (O)), Nat.zero_le _, hll, hen, hOl, hOk, hF0.1, hF0.2⟩ ?_ H; simp only [go_sem]
               try rfl
               done)
            | (have hs1 : flS ns (sl, bn) c f n lv = lv := by
                unfold flS; rw [ey]; refine if_neg ?_; rintro ⟨⟨⟨h1, h2⟩, h3⟩, h4⟩
                rcases (by assumption : ((¬y.2.1 = 5 ∨ lastV ns (sl, bn) c f n = 0) ∨ ¬lv.getD n 0 = -1) ∨ ¬List.getD (sl.getD n []) 0 0 = 0) with ((q | q) | q) | q
                · exact q h1
                · exact h2 q
                · exact q h3
                · exact q h4
               have hB : flB ns n (lv) = true := by
                unfold flB; rw [ey, Bool.and_eq_true, decide_eq_true_eq, decide_eq_true_eq]; assumption
               have hbb : (O.set n false).getD n false = (entV ns (sl, bn) n && !flB ns n (lv)) := by
                rw [hB]
                first
                 | (rw [hOe n (by omega)]; simp; done)
                 | (simp [hn, hO]; done)
               have hOl : ((O.set n false)).length = ns.length := by first | exact hO | (rw [List.length_set]; exact hO)
               have hOk : ∀ k, k < n → ((O.set n false)).getD k false = entV ns (sl, bn) k := fun k hk => by
                first
                 | exact hOe k (by omega)
                 | (rw [getD_set_ne (by omega)]; exact hOe k (by omega))
               have hll : (lv).length = ns.length := by first | exact hlv | (rw [List.length_set]; exact hlv)
               have hF0 : (((O.set n false)).getD n false = true → flO ns (sl, bn) c f n (flR (goV ns (sl, bn) c f n) (fun k => wanV ns c k) (strN y.2.1) n ns.length 0 (lv, en)) = flowV ns (sl, bn) c f) ∧ (((O.set n false)).getD n false = false → flO ns (sl, bn) c f n (lv, en) = flowV ns (sl, bn) c f) := by
                rw [flO, flN, hs1, ← hbb, ey] at hF; exact ⟨fun e => by rw [if_pos e] at hF; exact hF, fun e => by rw [e, if_neg (by decide)] at hF; exact hF⟩
               refine cA0 ⟨{ q : Nat × Fl × List Bool // q.1 ≤ ns.length ∧ q.2.1.1.length = ns.length ∧ q.2.1.2.length = ns.length ∧ q.2.2.length = ns.length ∧ (∀ k, k < n → q.2.2.getD k false = entV ns (sl, bn) k) ∧ (q.2.2.getD n false = true → flO ns (sl, bn) c f n (flR (goV ns (sl, bn) c f n) (fun k => wanV ns c k) (strN y.2.1) n (ns.length - q.1) q.1 q.2.1) = flowV ns (sl, bn) c f) ∧ (q.2.2.getD n false = false → flO ns (sl, bn) c f n q.2.1 = flowV ns (sl, bn) c f) }, 5000, fun q => [(2, .one (.sl yI c false)), (3, .one (.sl yPL f false)), (4, .one (.loc 64 0)), (5, .one (.loc 65 0)), (8, .one (.loc 66 0)), (11, .one (.loc 67 0)), (13, .one (.row 70)), (14, .one (.sl yI (upL 0 ns.length) false)), (15, .one (.int .i64 n)), (16, .one (.int .i64 n)), (17, .one (.loc 71 0)), (18, .one (.int .i64 q.1.1))], fun q => [(64, .cells 30 [.sl yNO ns false, .sl yPL ds false]), (65, .cells 37 [.sl (.sl yI) sl false, .sl (.sl yI) bn false]), (66, .cells 90 [.undef, .undef]), (67, .cells 90 [.row 68, .row 69]), (68, .row 3 yI q.1.2.1.1), (69, .row 3 yI q.1.2.1.2), (70, .row 4 .bool q.1.2.2), (71, .cells 56 [.str y.1, .int .i64 y.2.1, .int .i64 y.2.2.1, .int .i64 y.2.2.2.1, .sl yI y.2.2.2.2 false])], fun q => ns.length - q.1.1⟩ ⟨(0, (lv, en), (O.set n false)), Nat.zero_le _, hll, hen, hOl, hOk, hF0.1, hF0.2⟩ ?_ H; simp only [go_sem]
               try rfl
               done)
            | (have hs1 : flS ns (sl, bn) c f n lv = lv := by
                unfold flS; rw [ey]; refine if_neg ?_; rintro ⟨⟨⟨h1, h2⟩, h3⟩, h4⟩
                rcases (by assumption : ((¬y.2.1 = 5 ∨ lastV ns (sl, bn) c f n = 0) ∨ ¬lv.getD n 0 = -1) ∨ ¬List.getD (sl.getD n []) 0 0 = 0) with ((q | q) | q) | q
                · exact q h1
                · exact h2 q
                · exact q h3
                · exact q h4
               have hB : flB ns n (lv) = false := by
                unfold flB; rw [ey, Bool.and_eq_false_iff, decide_eq_false_iff_not, decide_eq_false_iff_not]; assumption
               have hbb : (O).getD n false = (entV ns (sl, bn) n && !flB ns n (lv)) := by
                rw [hB]
                first
                 | (rw [hOe n (by omega)]; simp; done)
                 | (simp [hn, hO]; done)
               have hOl : ((O)).length = ns.length := by first | exact hO | (rw [List.length_set]; exact hO)
               have hOk : ∀ k, k < n → ((O)).getD k false = entV ns (sl, bn) k := fun k hk => by
                first
                 | exact hOe k (by omega)
                 | (rw [getD_set_ne (by omega)]; exact hOe k (by omega))
               have hll : (lv).length = ns.length := by first | exact hlv | (rw [List.length_set]; exact hlv)
               have hF0 : (((O)).getD n false = true → flO ns (sl, bn) c f n (flR (goV ns (sl, bn) c f n) (fun k => wanV ns c k) (strN y.2.1) n ns.length 0 (lv, en)) = flowV ns (sl, bn) c f) ∧ (((O)).getD n false = false → flO ns (sl, bn) c f n (lv, en) = flowV ns (sl, bn) c f) := by
                rw [flO, flN, hs1, ← hbb, ey] at hF; exact ⟨fun e => by rw [if_pos e] at hF; exact hF, fun e => by rw [e, if_neg (by decide)] at hF; exact hF⟩
               refine cA0 ⟨{ q : Nat × Fl × List Bool // q.1 ≤ ns.length ∧ q.2.1.1.length = ns.length ∧ q.2.1.2.length = ns.length ∧ q.2.2.length = ns.length ∧ (∀ k, k < n → q.2.2.getD k false = entV ns (sl, bn) k) ∧ (q.2.2.getD n false = true → flO ns (sl, bn) c f n (flR (goV ns (sl, bn) c f n) (fun k => wanV ns c k) (strN y.2.1) n (ns.length - q.1) q.1 q.2.1) = flowV ns (sl, bn) c f) ∧ (q.2.2.getD n false = false → flO ns (sl, bn) c f n q.2.1 = flowV ns (sl, bn) c f) }, 5000, fun q => [(2, .one (.sl yI c false)), (3, .one (.sl yPL f false)), (4, .one (.loc 64 0)), (5, .one (.loc 65 0)), (8, .one (.loc 66 0)), (11, .one (.loc 67 0)), (13, .one (.row 70)), (14, .one (.sl yI (upL 0 ns.length) false)), (15, .one (.int .i64 n)), (16, .one (.int .i64 n)), (17, .one (.loc 71 0)), (18, .one (.int .i64 q.1.1))], fun q => [(64, .cells 30 [.sl yNO ns false, .sl yPL ds false]), (65, .cells 37 [.sl (.sl yI) sl false, .sl (.sl yI) bn false]), (66, .cells 90 [.undef, .undef]), (67, .cells 90 [.row 68, .row 69]), (68, .row 3 yI q.1.2.1.1), (69, .row 3 yI q.1.2.1.2), (70, .row 4 .bool q.1.2.2), (71, .cells 56 [.str y.1, .int .i64 y.2.1, .int .i64 y.2.2.1, .int .i64 y.2.2.2.1, .sl yI y.2.2.2.2 false])], fun q => ns.length - q.1.1⟩ ⟨(0, (lv, en), (O)), Nat.zero_le _, hll, hen, hOl, hOk, hF0.1, hF0.2⟩ ?_ H; simp only [go_sem]
               try rfl
               done)
            | fail) (by
           rintro ⟨⟨k, ⟨(lw : List Int), (ew : List Int)⟩, (O1 : List Bool)⟩, (hk0 : k ≤ ns.length), (hlw : lw.length = ns.length), (hew : ew.length = ns.length), (hOl : O1.length = ns.length), (hOk : ∀ k, k < n → O1.getD k false = entV ns (sl, bn) k), hFt, (hFf : O1.getD n false = false → flO ns (sl, bn) c f n (lw, ew) = flowV ns (sl, bn) c f)⟩; have hFt : O1.getD n false = true → flO ns (sl, bn) c f n (flR (goV ns (sl, bn) c f n) (fun k => wanV ns c k) (strN y.2.1) n (ns.length - k) k (lw, ew)) = flowV ns (sl, bn) c f := hFt; have hh0 : 0 ≤ (n : Int) ∧ (n : Int) < O1.length := by omega
           (simp -implicitDefEqProofs (maxSteps := 4000000) only [go_sem, bP, con42, con23, con80, con53, con79, con81, con82, hT, hG, hk, hK, Tryz.results42]); (try simp (disch := decide +kernel) only [drawn, true_and, and_true])
           have ekk : (k : Int).toNat = k := Int.toNat_natCast k
           try simp only [ekn, ekk]
           obtain ⟨b, hbb⟩ : ∃ b, O1.getD n false = b := ⟨_, rfl⟩
           try simp only [hbb]
           by_cases hkN : k < ns.length
           · obtain ⟨x, ex⟩ : ∃ x, ns.getD k nd0 = x := ⟨_, rfl⟩; have exk : ∀ z, ns.getD k z = x := fun z => by rw [← ex]; simp [hkN]
             have hwk := fun h => kC8 hg hpo (p := (sl, bn)) hkN h; rw [ex] at hwk; obtain ⟨d, hd⟩ : ∃ d, ns.length - k = d + 1 := ⟨ns.length - k - 1, by omega⟩; have hd2 : ns.length - (k + 1) = d := by omega
             have hgt : ((¬(k : Int) = n ∧ ¬lastV ns (sl, bn) c f k = 0) ∧ x.2.2.2.2.getD (wanV ns c k).toNat 0 = n) → goV ns (sl, bn) c f n k = true := fun h => by
              unfold goV; rw [ex, Bool.and_eq_true, Bool.and_eq_true, decide_eq_true_eq, decide_eq_true_eq, decide_eq_true_eq]; exact ⟨fun e => h.1.1 (by omega), h.1.2, h.2⟩
             have hgf : (((k : Int) = n ∨ lastV ns (sl, bn) c f k = 0) ∨ ¬x.2.2.2.2.getD (wanV ns c k).toNat 0 = n) → goV ns (sl, bn) c f n k = false := fun h => by
              unfold goV; rw [ex, Bool.and_eq_false_iff, Bool.and_eq_false_iff, decide_eq_false_iff_not, decide_eq_false_iff_not, decide_eq_false_iff_not]
              rcases h with (h | h) | h
              · exact Or.inl (fun e => e (by omega))
              · exact Or.inr (Or.inl (fun e => e h))
              · exact Or.inr (Or.inr h)
             simp only [exk]
             (repeat' with_reducible first | refine And.intro ?_ ?_ | intro _) <;> try first | with_reducible (first | assumption | omega | contradiction) | decide
             all_goals first
              | omega
              | exact hg
              | exact hp
              | exact hpo.len
              | exact hpo.fl
              | exact (hwk (by assumption : ¬(k : Int) = n ∧ ¬lastV ns (sl, bn) c f k = 0).2).1
              | exact (hwk (by assumption : ¬(k : Int) = n ∧ ¬lastV ns (sl, bn) c f k = 0).2).2
              | (have hgo := hgf (by assumption)
                 refine dA0 ⟨(k + 1, (lw, ew), O1), by dsimp only; omega, hlw, hew, hOl, hOk, fun hb => ?_, hFf⟩ ?_ (by dsimp only; omega)
                 · have h := hFt (by rw [hbb] at *; first | exact hb | assumption); rw [hd, flR, if_neg (by rw [hgo]; decide)] at h; dsimp only; rw [hd2]; exact h
                 · simp only [go_sem]
                   try rfl
                 done)
              | (have hgo := hgt (by assumption)
                 have hst : strN y.2.1 = true := by assumption
                 have h := hFt (hbb.trans (by assumption : (k : Int) < ns.length ∧ b = true).2); rw [hd, flR, if_pos hgo, if_pos hst] at h; refine dA0 ⟨(n, (lw.set k (wanV ns c k), ew.set n k), O1), by dsimp only; omega, h, by dsimp only; rw [List.length_set]; exact hlw, by dsimp only; rw [List.length_set]; exact hew, hOl, hOk⟩ ?_ (by dsimp only; omega); simp only [go_sem]
                 try first | rfl | (and_intros <;> first | trivial | rfl | omega)
                 done)
              | (have hgo := hgt (by assumption)
                 have hst : strN y.2.1 = false := by assumption
                 have hb1 := (by assumption : (k : Int) < ns.length ∧ b = true).2; refine dA0 ⟨(k + 1, (lw.set k (wanV ns c k), ew), O1), by dsimp only; omega, by dsimp only; rw [List.length_set]; exact hlw, hew, hOl, hOk, fun hb => ?_, fun hb => by have hb : O1.getD n false = false := hb; rw [hbb, hb1] at hb; cases hb⟩ ?_ (by dsimp only; omega)
                 · have h := hFt (by rw [hbb] at *; first | exact hb | assumption); rw [hd, flR, if_pos hgo, if_neg (by rw [hst]; decide)] at h; dsimp only; rw [hd2]; exact h
                 · simp only [go_sem]
                   try rfl
                 done)
              | (have hb1 : b = false := (by assumption : ¬(k : Int) < ns.length ∨ b = false).elim (fun h => absurd (by omega) h) id
                 have h := hFf (hbb.trans hb1); refine dA0 ⟨(n, (lw, ew), O1), by dsimp only; omega, h, hlw, hew, hOl, hOk⟩ ?_ (by dsimp only; omega); simp only [go_sem]
                 try first | rfl | (and_intros <;> first | trivial | rfl | omega)
                 done)
           · have hkk : k = ns.length := by omega
             have hF1 : flO ns (sl, bn) c f n (lw, ew) = flowV ns (sl, bn) c f := by
              cases hb1 : b with
              | true => have h := hFt (hbb.trans hb1); rw [hkk, Nat.sub_self, flR] at h; exact h
              | false => exact hFf (hbb.trans hb1)
             (repeat' with_reducible first | refine And.intro ?_ ?_ | intro _) <;> try first | with_reducible (first | assumption | omega | contradiction) | decide
             all_goals first
              | omega
              | (refine dA0 ⟨(n, (lw, ew), O1), by dsimp only; omega, hF1, hlw, hew, hOl, hOk⟩ ?_ (by dsimp only; omega)
                 simp only [go_sem]
                 try first | rfl | (and_intros <;> first | trivial | rfl | omega)
                 done))
        · have : i = 0 := by omega
          subst this; rw [flO] at hF
          (repeat' with_reducible first | refine And.intro ?_ ?_ | intro _) <;> try first | with_reducible (first | assumption | omega | contradiction) | decide
          all_goals first
           | (rw [← hF]))
attribute [local go_sem] List.set_cons_succ List.set_cons_zero List.getD_cons_succ List.getD_cons_zero List.set_nil
def befN (l : List Int) (n : Int) : Nat := (l.takeWhile (fun y => decide (y < n))).length
theorem zB5 : ∀ {l : List Int} {n : Int} {k : Nat} (h : k ≤ l.length), (∀ j (hj : j < l.length), j < k → l[j] < n) → (∀ hk : k < l.length, ¬ l[k] < n) → befN l n = k
 | [], n, k, h, _, _ => by simp only [List.length_nil] at h; unfold befN; simp; omega
 | x :: l, n, 0, _, _, h => by
   have h0 := h (by simp); unfold befN
   rw [List.takeWhile_cons_of_neg (by simpa using h0)]; rfl
 | x :: l, n, k + 1, h, h1, h2 => by
   have hx : x < n := h1 0 (by simp) (by omega); have ih := zB5 (l := l) (n := n) (k := k) (by simpa using h) (fun j hj hk => h1 (j + 1) (by simp; omega) (by omega)) (fun hk => h2 (by simp; omega)); unfold befN at ih ⊢; rw [List.takeWhile_cons_of_pos (by simpa using hx), List.length_cons, ih]
theorem bC9 (l : List Int) (n : Int) : befN l n ≤ l.length := by
 unfold befN; exact (List.takeWhile_sublist _).length_le
def putV (l : List Int) (n : Int) : List Int := l.take (befN l n) ++ [n] ++ l.drop (befN l n)
theorem xB6 (l : List Int) (n : Int) : (putV l n).length = l.length + 1 := by
 have := bC9 l n; unfold putV; rw [List.length_append, List.length_append, List.length_take, List.length_drop, List.length_singleton]; omega
def con47 : Con := { ps := [.d false (.sl yI), .d false yI], rs := [.o 3 yI], pre := fun (x : List Int × Int × Unit) => x.1.length ≤ 1000000, out := fun (x : List Int × Int × Unit) => (putV x.1 x.2.1, ()), nw := id }
theorem c47 : CtrOk Tryz.prog 47 con47.ctr :=
 aA0 eA0 eN rfl Tryz.func47 rfl con47 262259 (by kernel_rfl) (by decide) (by decide) rfl (by decide) rfl (by
  rintro ⟨(l : List Int), (n : Int), _⟩ hpre hwf X hT hG hk hK; have hl : l.length ≤ 1000000 := hpre
  (simp -implicitDefEqProofs (maxSteps := 4000000) only [go_sem, bP, con47, hT, hG, hk, hK, Tryz.results47] at hwf ⊢)
  clear hwf; refine cA0 ⟨{ k : Nat // k ≤ l.length ∧ ∀ j (hj : j < l.length), j < k → l[j] < n }, 1000, fun k => [(0, .one (.sl yI l false)), (1, .one (.int .i64 n)), (5, .one (.int .i64 k.1))], fun k => [], fun k => l.length - k.1⟩ ⟨0, Nat.zero_le _, fun j hj h => by omega⟩ ?_ ?_
  · simp only [go_sem]; rfl
  · rintro ⟨k, (hkl : k ≤ l.length), (hz : ∀ j (hj : j < l.length), j < k → l[j] < n)⟩
    (simp -implicitDefEqProofs (maxSteps := 4000000) only [go_sem, bP, con47, hT, hG, hk, hK, Tryz.results47])
    have ekk : (k : Int).toNat = k := Int.toNat_natCast k; by_cases hk' : k < l.length
    · have ek : ∀ z, l.getD k z = l[k] := fun z => by simp [hk']
      have ell : (l.length : Int).toNat = l.length := Int.toNat_natCast _; simp only [ekk, ek, ell, List.take_length]
      (repeat' with_reducible first | refine And.intro ?_ ?_ | intro _) <;> try first | with_reducible (first | assumption | omega | contradiction) | decide
      all_goals first
       | omega
       | (rw [List.length_take]; omega)
       | (rw [List.length_append, List.length_take, List.length_drop, List.length_singleton]; omega)
       | (rw [List.length_append, List.length_take, List.length_singleton]; omega)
       | (have h : (k : Int) < l.length ∧ l[k] < n := by assumption
          refine dA0 ⟨k + 1, by omega, fun j hj hjk => ?_⟩ ?_ (by dsimp only; omega)
          · by_cases e : j = k
            · subst e; exact h.2
            · exact hz j hj (by omega)
          · simp only [go_sem]
            try rfl
          done)
       | (have hb : befN l n = k := zB5 hkl hz (fun _ => by omega)
          unfold putV; rw [hb]
          done)
    · have hb : befN l n = k := zB5 hkl hz (fun h => absurd h hk'); have ell : (l.length : Int).toNat = l.length := Int.toNat_natCast _; simp only [ekk, ell, List.take_length]
      (repeat' with_reducible first | refine And.intro ?_ ?_ | intro _) <;> try first | with_reducible (first | assumption | omega | contradiction) | decide
      all_goals first
       | omega
       | (rw [List.length_take]; omega)
       | (rw [List.length_append, List.length_take, List.length_drop, List.length_singleton]; omega)
       | (rw [List.length_append, List.length_take, List.length_singleton]; omega)
       | (unfold putV
          rw [hb]
          done))
def con46 : Con := { ps := [.d false (.sl yI), .d false yI], rs := [.o 3 yI], pre := fun (x : List Int × Int × Unit) => x.1.length ≤ 1000000, out := fun (x : List Int × Int × Unit) => (othF x.1 x.2.1, ()), nw := id }
theorem c46 : CtrOk Tryz.prog 46 con46.ctr :=
 aA0 eA0 eN rfl Tryz.func46 rfl con46 263283 (by kernel_rfl) (by decide) (by decide) rfl (by decide) rfl (by
  rintro ⟨(l : List Int), (n : Int), _⟩ hpre hwf X hT hG hk hK; have hl : l.length ≤ 1000000 := hpre
  (simp -implicitDefEqProofs (maxSteps := 4000000) only [go_sem, bP, con46, hT, hG, hk, hK, Tryz.results46] at hwf ⊢)
  clear hwf; refine cA0 ⟨{ k : Nat // k ≤ l.length }, 1000, fun k => [(0, .one (.sl yI l false)), (1, .one (.int .i64 n)), (5, .one (.row 64)), (6, .one (.int .i64 k.1))], fun k => [(64, .row 3 yI (othF (l.take k.1) n))], fun k => l.length - k.1⟩ ⟨0, Nat.zero_le _⟩ ?_ ?_
  · simp only [go_sem]; simp only [othF, List.take_zero, List.filter_nil]
    try first | rfl | (and_intros <;> first | trivial | rfl | omega)
  · rintro ⟨k, (hkl : k ≤ l.length)⟩; have hfl : (othF (l.take k) n).length ≤ k := by
     have := List.length_filter_le (fun y : Int => decide (y ≠ n)) (l.take k); rw [List.length_take] at this; unfold othF; omega
    (simp -implicitDefEqProofs (maxSteps := 4000000) only [go_sem, bP, con46, hT, hG, hk, hK, Tryz.results46])
    refine fun _ => ⟨fun hlt => ?_, fun hge => ?_⟩
    · have hk' : k < l.length := by omega
      have ek : ∀ z, l.getD (k : Int).toNat z = l[k] := fun z => by simp [hk']
      have hst := pA3 (nt := n) hk'; simp only [ek]
      (repeat' with_reducible first | refine And.intro ?_ ?_ | intro _) <;> try first | with_reducible (first | assumption | omega | contradiction) | decide
      all_goals first
       | omega
       | (rw [if_pos (by assumption)] at hst
          refine dA0 ⟨k + 1, by omega⟩ ?_ (by dsimp only; omega); simp only [go_sem]; rw [hst]
          try first | rfl | (and_intros <;> first | trivial | rfl | omega)
          done)
       | (rw [if_neg (fun q => q (by assumption))] at hst
          refine dA0 ⟨k + 1, by omega⟩ ?_ (by dsimp only; omega); simp only [go_sem]; rw [hst]
          try first | rfl | (and_intros <;> first | trivial | rfl | omega)
          done)
    · rw [show k = l.length by omega, List.take_length])
theorem hA6 : ∀ (yss : List (List Int)), putSls yI (.sl yI) (List.replicate yss.length []) yss = yss
 | [] => rfl
 | y :: yss => by
   have ih := hA6 yss; unfold putSls at ih ⊢; rw [List.length_cons, List.replicate_succ, List.zip_cons_cons, List.map_cons, ih]; rfl
theorem bA3 {n : Nat} {yss : List (List Int)} (h : yss.length = n) : putSls yI (.sl yI) (List.replicate n []) yss = yss := by
 subst h; exact hA6 yss
def con34 : Con := { ps := [.d true yLY], rs := [.d true yP2, .d false yI], pre := fun (x : Ly × Unit) => GoodL x.1, out := fun (x : Ly × Unit) => ((x.1.1.map (fun y => List.replicate y.2.2.1.toNat 0), x.1.1.map (fun _ => [])), 0, ()), nw := id }
theorem c34 : CtrOk Tryz.prog 34 con34.ctr :=
 aA0 (G := ⟨[(51, con51.ctr)], [], [(5, 11), (29, 11), (33, 11), (37, 11)], [], []⟩) eA0 (EnvOk.cons c51 has51 EnvOk.nil) rfl Tryz.func34 rfl con34 132223 (by kernel_rfl) (by decide) (by decide) rfl (by decide) rfl (by
  rintro ⟨⟨(ns : List Nd), (ds : List Dv)⟩, _⟩ hpre hwf X hT hG hk hK; have hg : GoodL (ns, ds) := hpre
  (simp -implicitDefEqProofs (maxSteps := 4000000) only [go_sem, bP, con34, con51, hT, hG, hk, hK, Tryz.results34] at hwf ⊢); (try simp (disch := decide +kernel) only [drawn, true_and, and_true])
  clear hwf; have hn24 : ns.length ≤ 24 := hg.n24; have h8 := hg.le8
  (repeat' with_reducible first | refine And.intro ?_ ?_ | intro _) <;> try first | with_reducible (first | assumption | omega | contradiction) | decide
  all_goals first
   | exact hg
   | omega
   | skip
  refine cA0 ⟨{ i : Nat // i ≤ ns.length }, 1000, fun i => [(1, .one (.loc 64 0)), (2, .one (.loc 65 0)), (5, .one (.loc 66 0)), (6, .one (.int .i64 i.1))], fun i => [(64, .cells 30 [.sl yNO ns false, .sl yPL ds false]), (65, .cells 37 [.undef, .undef]), (66, .cells 37 [.row 67, .row 69]), (67, .rowg 22 (.sl yI) 0 68 (List.replicate i.1 []) none), (68, .fam 3 yI ((ns.take i.1).map (fun y => List.replicate y.2.2.1.toNat 0))), (69, .rowg 22 (.sl yI) 0 70 (List.replicate i.1 []) none), (70, .fam 3 yI ((ns.take i.1).map (fun _ => [])))], fun i => ns.length - i.1⟩ ⟨0, Nat.zero_le _⟩ ?_ ?_
  · simp only [go_sem]; simp only [List.replicate_zero, List.take_zero, List.map_nil]
    try first | rfl | (and_intros <;> first | trivial | rfl | omega)
  · rintro ⟨i, (hi : i ≤ ns.length)⟩; have hm1 : ((ns.take i).map (fun y : Nd => List.replicate y.2.2.1.toNat (0 : Int))).length = i := by rw [List.length_map, List.length_take]; omega
    have hm2 : ((ns.take i).map (fun _ : Nd => ([] : List Int))).length = i := by rw [List.length_map, List.length_take]; omega
    (simp -implicitDefEqProofs (maxSteps := 4000000) only [go_sem, bP, con34, con51, hT, hG, hk, hK, Tryz.results34]); (try simp (disch := decide +kernel) only [drawn, true_and, and_true])
    refine fun _ => ⟨fun hlt => ?_, fun hge => ?_⟩
    · have hi' : i < ns.length := by omega
      have ek : ∀ z, ns.getD (i : Int).toNat z = ns[i] := fun z => by simp [hi']
      have hk8 := h8 ns[i] (List.getElem_mem hi'); simp only [ek]
      (repeat' with_reducible first | refine And.intro ?_ ?_ | intro _) <;> try first | with_reducible (first | assumption | omega | contradiction) | decide
      all_goals first
       | omega
       | (rw [List.length_replicate]; omega)
       | (refine dA0 ⟨i + 1, by omega⟩ ?_ (by dsimp only; omega)
          simp only [go_sem]; simp only [tsE hi', List.map_append, List.map_cons, List.map_nil, List.replicate_succ']
          try first | rfl | (and_intros <;> first | trivial | rfl | omega)
          done)
    · have : i = ns.length := by omega
      subst this; rw [List.take_length] at *; exact ⟨bA3 hm2, bA3 hm1⟩)
def hasB (b : Int) (s : List Int) : Bool := s.any (fun y => decide (b = y))
def whereV (p : Pl) (b : Int) : (Int × Int) × Bool :=
 if b ≠ 0 ∧ idxV (hasB b) p.1 ≠ -1 then ((idxV (hasB b) p.1, idxV (fun y => decide (b = y)) (p.1.getD (idxV (hasB b) p.1).toNat [])), true)
 else if idxV (hasB b) p.2 ≠ -1 then ((idxV (hasB b) p.2, -1), true)
 else ((0, 0), false)
def con55 : Con := { ps := [.d true yP2, .d false yI], rs := [.d true yP1, .d false .bool], pre := fun _ => True, out := fun (x : Pl × Int × Unit) => ((whereV x.1 x.2.1).1, (whereV x.1 x.2.1).2, ()), nw := id }
theorem c55 : CtrOk Tryz.prog 55 con55.ctr :=
 aA0 eA0 (eC c32 has32 eN) rfl Tryz.func55 rfl con55 72198881416446455 (by kernel_rfl) (by decide) (by decide) rfl (by decide) rfl (by
  rintro ⟨⟨(sl : List (List Int)), (bn : List (List Int))⟩, (b : Int), _⟩ hpre hwf X hT hG hk hK
  (simp -implicitDefEqProofs (maxSteps := 4000000) only [go_sem, bP, con55, con32, hT, hG, hk, hK, Tryz.results55] at hwf ⊢)
  clear hwf; have key : ∀ (hnone : b ≠ 0 → idxV (hasB b) sl = -1), (idxV (hasB b) bn ≠ -1 → whereV (sl, bn) b = ((idxV (hasB b) bn, -1), true)) ∧ (idxV (hasB b) bn = -1 → whereV (sl, bn) b = ((0, 0), false)) := fun hnone => by
   unfold whereV; rw [if_neg (fun h => h.2 (hnone h.1))]; exact ⟨fun h => if_pos h, fun h => if_neg (fun q => q h)⟩
  refine cA0 ⟨{ n : Nat // n ≤ sl.length ∧ (b ≠ 0 → ∀ k (h : k < sl.length), k < n → hasB b sl[k] = false) }, 1000, fun n => [(1, .one (.int .i64 b)), (2, .one (.loc 64 0)), (4, .one (.loc 65 0)), (6, .one (.int .i64 n.1))], fun n => [(64, .cells 37 [.sl (.sl yI) sl false, .sl (.sl yI) bn false]), (65, .cells 68 [.undef, .undef])], fun n => sl.length - n.1⟩ ⟨0, Nat.zero_le _, fun _ k h hk => by omega⟩ ?_ ?_
  · simp only [go_sem]; rfl
  · rintro ⟨n, (hn : n ≤ sl.length), (hz : b ≠ 0 → ∀ k (h : k < sl.length), k < n → hasB b sl[k] = false)⟩
    (simp -implicitDefEqProofs (maxSteps := 4000000) only [go_sem, bP, con55, con32, hT, hG, hk, hK, Tryz.results55])
    refine fun _ => ⟨fun hA => ?_, fun hB => ?_⟩
    · obtain ⟨hlt, hb0⟩ := hA; have hn' : n < sl.length := by omega
      refine cA0 ⟨{ k : Nat // k ≤ (sl[n]).length ∧ ∀ j (h : j < (sl[n]).length), j < k → decide (b = (sl[n])[j]) = false }, 2000, fun k => [(1, .one (.int .i64 b)), (2, .one (.loc 64 0)), (4, .one (.loc 65 0)), (6, .one (.int .i64 n)), (7, .one (.int .i64 k.1))], fun k => [(64, .cells 37 [.sl (.sl yI) sl false, .sl (.sl yI) bn false]), (65, .cells 68 [.undef, .undef])], fun k => (sl[n]).length - k.1⟩ ⟨0, Nat.zero_le _, fun j h hj => by omega⟩ ?_ ?_
      · simp only [go_sem]; rfl
      · rintro ⟨k, (hk0 : k ≤ (sl[n]).length), (hy : ∀ j (h : j < (sl[n]).length), j < k → decide (b = (sl[n])[j]) = false)⟩
        (simp -implicitDefEqProofs (maxSteps := 4000000) only [go_sem, bP, con55, con32, hT, hG, hk, hK, Tryz.results55])
        have ek : ∀ z, sl.getD (n : Int).toNat z = sl[n] := fun z => by simp [hn']
        simp only [ek]; have hsn : ∀ w, w = sl[n] → hasB b w = hasB b sl[n] := fun w h => by rw [h]
        by_cases hk' : k < (sl[n]).length
        · have ek2 : ∀ z, (sl[n]).getD (k : Int).toNat z = (sl[n])[k] := fun z => by simp [hk']
          simp only [ek2]
          (repeat' with_reducible first | refine And.intro ?_ ?_ | intro _) <;> try first | with_reducible (first | assumption | omega | contradiction) | decide
          all_goals first
           | omega
           | (have h : (sl[n])[k] = b := by assumption
              have h1 : hasB b sl[n] = true := by
               unfold hasB; exact List.any_eq_true.2 ⟨b, by rw [← h]; exact List.getElem_mem hk', by simp⟩
              have h2 : idxV (hasB b) sl = n := vA1 hn' h1 (fun j hj => hz hb0 j (by omega) hj); have h3 : idxV (fun y => decide (b = y)) sl[n] = k := vA1 (p := fun y => decide (b = y)) hk' (by rw [h]; simp) (fun j hj => hy j (by omega) hj); have hw : whereV (sl, bn) b = (((n : Int), (k : Int)), true) := by
               unfold whereV; rw [h2, if_pos ⟨hb0, by omega⟩]; dsimp only; rw [ek, h3]
              rw [hw]
              done)
           | (have h : ¬ (sl[n])[k] = b := by assumption
              refine dA0 ⟨k + 1, by omega, fun j hj hjk => ?_⟩ ?_ (by dsimp only; omega)
              · by_cases e : j = k
                · subst e; exact decide_eq_false fun q => h q.symm
                · exact hy j hj (by omega)
              · simp only [go_sem]
                try rfl
              done)
        · have hnh : hasB b sl[n] = false := by
           unfold hasB; rw [List.any_eq_false]; intro y hym; obtain ⟨j, hj, rfl⟩ := List.getElem_of_mem hym; rw [hy j hj (by omega)]; simp
          (repeat' with_reducible first | refine And.intro ?_ ?_ | intro _) <;> try first | with_reducible (first | assumption | omega | contradiction) | decide
          all_goals first
           | omega
           | (refine dA0 ⟨n + 1, by omega, fun _ j hj hjn => ?_⟩ ?_ (by dsimp only; omega)
              · by_cases e : j = n
                · subst e; exact hnh
                · exact hz hb0 j hj (by omega)
              · simp only [go_sem]
                try rfl
              done)
    · have hnone : b ≠ 0 → idxV (hasB b) sl = -1 := fun h => mA1 fun k hk => hz h k hk (by omega); obtain ⟨k1, k2⟩ := key hnone; refine cA0 ⟨{ n : Nat // n ≤ bn.length ∧ ∀ k (h : k < bn.length), k < n → hasB b bn[k] = false }, 3000, fun n => [(1, .one (.int .i64 b)), (2, .one (.loc 64 0)), (4, .one (.loc 65 0)), (8, .one (.int .i64 n.1))], fun n => [(64, .cells 37 [.sl (.sl yI) sl false, .sl (.sl yI) bn false]), (65, .cells 68 [.undef, .undef])], fun n => bn.length - n.1⟩ ⟨0, Nat.zero_le _, fun k h hk => by omega⟩ ?_ ?_
      · simp only [go_sem]; rfl
      · rintro ⟨n, (hn : n ≤ bn.length), (hz2 : ∀ k (h : k < bn.length), k < n → hasB b bn[k] = false)⟩
        (simp -implicitDefEqProofs (maxSteps := 4000000) only [go_sem, bP, con55, con32, hT, hG, hk, hK, Tryz.results55])
        refine fun _ => ⟨fun hlt => ?_, fun hge => ?_⟩
        · have hn' : n < bn.length := by omega
          have ek : ∀ z, bn.getD (n : Int).toNat z = bn[n] := fun z => by simp [hn']
          simp only [ek]; have ehb : (bn[n]).any (fun y : Int => decide (b = y)) = hasB b bn[n] := rfl; simp only [ehb]
          (repeat' with_reducible first | refine And.intro ?_ ?_ | intro _) <;> try first | with_reducible (first | assumption | omega | contradiction) | decide
          all_goals first
           | omega
           | (have h : hasB b bn[n] = true := by assumption
              have h2 : idxV (hasB b) bn = n := vA1 hn' h (fun j hj => hz2 j (by omega) hj); rw [k1 (by omega), h2]
              done)
           | (have h : hasB b bn[n] = true := by assumption
              have h2 : idxV (hasB b) bn = n := vA1 hn' h (fun j hj => hz2 j (by omega) hj); rw [k1 (by omega), h2]
              exact ⟨rfl, rfl⟩)
           | (have h : hasB b bn[n] = false := by assumption
              refine dA0 ⟨n + 1, by omega, fun j hj hjk => ?_⟩ ?_ (by dsimp only; omega)
              · by_cases e : j = n
                · subst e; exact h
                · exact hz2 j hj (by omega)
              · simp only [go_sem]
                try rfl
              done)
        · have h2 : idxV (hasB b) bn = -1 := mA1 fun k hk => hz2 k hk (by omega); rw [k2 h2]
          (repeat' with_reducible first | refine And.intro ?_ ?_ | intro _) <;> try first | with_reducible (first | assumption | omega | contradiction) | decide
          all_goals first
           | rfl)
end Go.Proofs.YtabadacjbkhmkaaGreatDoor
