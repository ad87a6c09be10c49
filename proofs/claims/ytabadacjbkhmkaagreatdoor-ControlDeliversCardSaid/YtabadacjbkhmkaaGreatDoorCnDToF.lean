/- Part. -/
import Derived.Test.YtabadacjbkhmkaaGreatDoorEvNstToC
set_option linter.all false
set_option maxRecDepth 100000
set_option maxHeartbeats 8000000
namespace Go.Proofs.YtabadacjbkhmkaaGreatDoor
open Go.Ev
def upL (lo : Int) (m : Nat) : List Int := (List.range m).map (fun k : Nat => lo + (k : Int))
theorem fA7 (lo : Int) (m : Nat) : upL lo (m + 1) = upL lo m ++ [lo + m] := by simp [upL, List.range_succ]
theorem qA4 (lo : Int) (m : Nat) : (upL lo m).length = m := by simp [upL]
theorem upL_mem {lo : Int} {m : Nat} {e : Int} : e ∈ upL lo m ↔ lo ≤ e ∧ e < lo + m := by
 simp only [upL, List.mem_map, List.mem_range]; constructor
 · rintro ⟨k, hk, rfl⟩; omega
 · rintro ⟨h1, h2⟩; exact ⟨(e - lo).toNat, by omega, by omega⟩
theorem aD3 {a b n k : Nat} {x : Nd} (h : LocOk a b n k x) : x.2.2.2.2.length ≤ 2 := by
 have key : ∀ T, LnE T k x → x.2.2.2.2.length ≤ 2 := by
  rintro T (⟨_, _, _, _, _, h⟩ | ⟨_, _, _, _, _, _, _, _, h⟩ | ⟨_, _, _, _, _, h⟩ | ⟨_, _, _, _, h⟩) <;> rw [h] <;> simp
 obtain ⟨_, h⟩ := h
 rcases h with ⟨_, _, _, h⟩ | ⟨_, _, _, _, h⟩ | ⟨_, _, _, _, _, _, _, h⟩ | ⟨_, _, _, _, h⟩ | ⟨_, _, _, _, _, h⟩ | ⟨_, _, _, _, h⟩ | ⟨_, _, _, _, h⟩
 · exact key _ h
 · exact key _ h
 · rw [h]; simp
 · exact key _ h
 · rw [h]; simp
 · rw [h]; simp
 · rw [h]; simp
theorem pD2 {a b n k : Nat} {x : Nd} (hn : a + 2 < n) (h : LocOk a b n k x) (hk : k < a) (h5 : x.2.1 ≠ 5) (hi : ¬ ((k : Int) + 1) ∈ x.2.2.2.2) : 1 ≤ x.2.2.2.2.length ∧ LocOk a b n k (x.1, x.2.1, x.2.2.1, x.2.2.2.1, [(k : Int) + 1] ++ x.2.2.2.2.drop 1) := by
 have hz : ZT a n k ((k : Int) + 1) := by unfold ZT; omega
 have key : LnE (ZT a n k) k x → x.2.1 ≠ 7 → 1 ≤ x.2.2.2.2.length ∧ LnE (ZT a n k) k (x.1, x.2.1, x.2.2.1, x.2.2.2.1, [(k : Int) + 1] ++ x.2.2.2.2.drop 1) := by
  intro hl h7
  rcases hl with ⟨h1, _⟩ | ⟨h1, h2, h3, e, he, e', he', hne, hex⟩ | ⟨h1, h2, h3, e, he, hex⟩ | ⟨h1, _⟩
  · exact absurd h1 h5
  · rw [hex] at hi ⊢; refine ⟨by simp, .inr (.inl ⟨h1, h2, h3, _, hz, e', he', fun q => hi (by rw [q]; simp), rfl⟩)⟩
  · rw [hex]; exact ⟨by simp, .inr (.inr (.inl ⟨h1, h2, h3, _, hz, rfl⟩))⟩
  · exact absurd h1 h7
 obtain ⟨h0, h⟩ := h
 rcases h with ⟨g0, g1, g2, hl⟩ | ⟨g0, g0', g1, g2, hl⟩ | ⟨g0, _⟩ | ⟨g0, _⟩ | ⟨g0, _⟩ | ⟨g0, g1, _⟩ | ⟨g0, g1, _⟩
 · obtain ⟨k1, k2⟩ := key hl (by omega); exact ⟨k1, h0, .inl ⟨g0, g1, g2, k2⟩⟩
 · obtain ⟨k1, k2⟩ := key hl (by omega); exact ⟨k1, h0, .inr (.inl ⟨g0, g0', g1, g2, k2⟩)⟩
 · omega
 · omega
 · omega
 · omega
 · omega
def con9 : RCon := { ps := [.p 75 ySR], rs := [.d true yLY], pre := fun (x : Src × Unit) => 0 ≤ x.1.2, rel := fun (x : Src × Unit) (y : Ly × Unit) (z : Src × Unit) => 0 ≤ z.1.2 ∧ GoodL y.1 }
theorem c9 : RCtrOk Tryz.prog 9 con9.rctr :=
 fA6 eA0 (eC c31 has31 (eC c29 has29 (eC c32 has32 (EnvOk.rcons c30 has30 (EnvOk.rcons c33 has33 eN))))) rfl Tryz.func9 rfl con9 187072309931735551802315008943644463124222635540477 (by kernel_rfl) (by decide) (by decide) rfl (by decide) rfl (by
  rintro ⟨⟨(s : List Int), (a0 : Int)⟩, _⟩ hpre hwf X hT hG hk hK; have h0 : 0 ≤ a0 := hpre
  (simp -implicitDefEqProofs (maxSteps := 4000000) only [go_sem, bP, con9, con31, con29, con32, con30, con33, hT, hG, hk, hK, Tryz.results9] at hwf ⊢); (try simp (disch := decide +kernel) only [drawn, true_and, and_true])
  clear hwf; have p1 : 0 ≤ (Src.step (s, a0)).2 := Src.step_pos' h0; have p2 := Src.step_pos' p1; have p3 := Src.step_pos' p2; have b1 := uA1 (Src.raw (s, a0)) (3 - 1 + 1) (by omega); have b2 := uA1 (Src.step (s, a0)).raw (3 - 0 + 1) (by omega); have b3 := uA1 (Src.step (s, a0)).step.raw (2 - 1 + 1) (by omega); obtain ⟨a, ea⟩ : ∃ a : Nat, 1 + goMod (Src.raw (s, a0)) (3 - 1 + 1) = a := ⟨(1 + goMod (Src.raw (s, a0)) (3 - 1 + 1)).toNat, by omega⟩; obtain ⟨b, eb⟩ : ∃ b : Nat, 0 + goMod (Src.step (s, a0)).raw (3 - 0 + 1) = b := ⟨(goMod (Src.step (s, a0)).raw (3 - 0 + 1)).toNat, by omega⟩; obtain ⟨c, ec⟩ : ∃ c : Nat, 1 + goMod (Src.step (s, a0)).step.raw (2 - 1 + 1) = c := ⟨(1 + goMod (Src.step (s, a0)).step.raw (2 - 1 + 1)).toNat, by omega⟩; simp only [ea, eb, ec]; have ha : 1 ≤ a ∧ a ≤ 3 := by omega
  have hb : b ≤ 3 := by omega
  have hc : 1 ≤ c ∧ c ≤ 2 := by omega
  obtain ⟨n, hn⟩ : ∃ n : Nat, (a : Int) + 1 + b + c + 2 = n := ⟨a + 1 + b + c + 2, by omega⟩; simp only [hn]; refine ⟨⟨h0, by decide, by decide, by decide⟩, fun _ => ⟨⟨p1, by decide, by decide, by decide⟩, fun _ => ⟨⟨p2, by decide, by decide, by decide⟩, fun _ => ⟨by omega, by omega, by omega, by omega, by omega, ?_⟩⟩⟩⟩; generalize (Src.step (s, a0)).step.step = s3 at *; refine cA0 ⟨{ q : Nat × Src × List Nd // q.1 ≤ n ∧ 0 ≤ q.2.1.2 ∧ q.2.2.length = q.1 ∧ ∀ j, j < q.1 → LocOk a b n j (q.2.2.getD j nd0) }, 1000, fun q => [(0, .one (.loc 0 0)), (2, .one (.loc 70 0)), (4, .one (.int .i64 b)), (6, .one (.int .i64 n)), (7, .one (.int .i64 a)), (8, .one (.int .i64 ((n : Int) - 2))), (9, .one (.loc 66 0)), (10, .one (.int .i64 q.1.1))], fun q => [(0, .cells 75 [.sl yI q.1.2.1.1 false, .int .i64 q.1.2.1.2]), (70, .cells 30 [.undef, .undef]), (66, .cells 30 [.row 64, .row 65]), (64, .row 56 yNO q.1.2.2), (65, .row 111 yPL [])], fun q => n - q.1.1⟩ ⟨(0, s3, []), Nat.zero_le _, p3, rfl, fun j hj => by dsimp only at hj; omega⟩ ?_ ?_
  · simp only [go_sem]; rfl
  · rintro ⟨⟨i, ⟨(s1 : List Int), (a1 : Int)⟩, (ns : List Nd)⟩, (hi : i ≤ n), (ha1 : 0 ≤ a1), (hl : ns.length = i), (hL : ∀ j, j < i → LocOk a b n j (ns.getD j nd0))⟩
    (simp -implicitDefEqProofs (maxSteps := 4000000) only [go_sem, bP, con9, con31, con29, con32, con30, con33, hT, hG, hk, hK, Tryz.results9]); (try simp (disch := decide +kernel) only [drawn, true_and, and_true])
    refine ⟨fun hlt => ⟨by omega, ?_⟩, fun hge => ?_⟩
    · refine cA0 ⟨{ m : Nat // m ≤ a - i }, 2000, fun m => [(0, .one (.loc 0 0)), (2, .one (.loc 70 0)), (4, .one (.int .i64 b)), (6, .one (.int .i64 n)), (7, .one (.int .i64 a)), (8, .one (.int .i64 ((n : Int) - 2))), (9, .one (.loc 66 0)), (10, .one (.int .i64 i)), (11, .one (.row 71)), (12, .one (.row 72)), (13, .one (.int .i64 ((i : Int) + 1 + m.1)))], fun m => [(0, .cells 75 [.sl yI s1 false, .int .i64 a1]), (70, .cells 30 [.undef, .undef]), (66, .cells 30 [.row 64, .row 65]), (64, .row 56 yNO ns), (65, .row 111 yPL []), (71, .row 3 yI (upL ((i : Int) + 1) m.1)), (72, .row 3 yI [])], fun m => a - i - m.1⟩ ⟨0, Nat.zero_le _⟩ ?_ ?_
      · simp only [go_sem]; simp only [upL, List.range_zero, List.map_nil]
        try first | rfl | (and_intros <;> first | trivial | rfl | omega)
      · rintro ⟨m, (hm : m ≤ a - i)⟩
        (simp -implicitDefEqProofs (maxSteps := 4000000) only [go_sem, bP, con9, con31, con29, con32, con30, con33, hT, hG, hk, hK, Tryz.results9]); (try simp (disch := decide +kernel) only [drawn, true_and, and_true])
        have hul := qA4 ((i : Int) + 1) m; refine ⟨fun hle => ⟨by omega, by omega, ?_⟩, fun hgt => ⟨by omega, by omega, ?_⟩⟩
        · refine dA0 ⟨m + 1, by omega⟩ ?_ (by dsimp only; omega); simp only [go_sem]; rw [fA7]
          try first | rfl | (and_intros <;> first | trivial | rfl | omega)
        · obtain ⟨Z, eZ⟩ : ∃ Z, upL ((i : Int) + 1) m ++ [(n : Int) - 2] = Z := ⟨_, rfl⟩; simp only [eZ]; have hZ : ∀ e ∈ Z, ZT a n i e := fun e he => by
           rw [← eZ, List.mem_append, upL_mem, List.mem_singleton] at he; unfold ZT; omega
          have hZl : 0 < Z.length ∧ Z.length ≤ 1000 := by rw [← eZ, List.length_append, hul]; simp only [List.length_cons, List.length_nil]; omega
          have hZ0 : ∀ e ∈ Z, 0 ≤ e := fun e he => by have := hZ e he; unfold ZT at this; omega
          clear eZ; obtain ⟨M, hM⟩ : ∃ M : Nat, (if (a : Int) > (i : Int) then (a : Int) else (i : Int)) = M := ⟨max a i, by split <;> omega⟩; have hM' : a ≤ M ∧ i ≤ M ∧ (M = a ∨ M = i) := by split at hM <;> omega
          simp only [hM]; clear hM; refine cA0 ⟨{ k : Nat // k ≤ n - 2 - (M + 1) }, 3000, fun k => [(0, .one (.loc 0 0)), (2, .one (.loc 70 0)), (4, .one (.int .i64 b)), (6, .one (.int .i64 n)), (7, .one (.int .i64 a)), (8, .one (.int .i64 ((n : Int) - 2))), (9, .one (.loc 66 0)), (10, .one (.int .i64 i)), (11, .one (.row 71)), (12, .one (.row 72)), (14, .one (.int .i64 ((M : Int) + 1 + k.1)))], fun k => [(0, .cells 75 [.sl yI s1 false, .int .i64 a1]), (70, .cells 30 [.undef, .undef]), (66, .cells 30 [.row 64, .row 65]), (64, .row 56 yNO ns), (65, .row 111 yPL []), (71, .row 3 yI Z), (72, .row 3 yI (upL ((M : Int) + 1) k.1))], fun k => n - 2 - (M + 1) - k.1⟩ ⟨0, Nat.zero_le _⟩ ?_ ?_
          · simp only [go_sem]; simp only [upL, List.range_zero, List.map_nil]
            try first | rfl | (and_intros <;> first | trivial | rfl | omega)
          · rintro ⟨k, (hkk : k ≤ n - 2 - (M + 1))⟩
            (simp -implicitDefEqProofs (maxSteps := 4000000) only [go_sem, bP, con9, con31, con29, con32, con30, con33, hT, hG, hk, hK, Tryz.results9]); (try simp (disch := decide +kernel) only [drawn, true_and, and_true])
            have huk := qA4 ((M : Int) + 1) k; refine ⟨fun hle => ⟨by omega, by omega, ?_⟩, fun hgt => ⟨by omega, by omega, ?_⟩⟩
            · refine dA0 ⟨k + 1, by omega⟩ ?_ (by dsimp only; omega); simp only [go_sem]; rw [fA7]
              try first | rfl | (and_intros <;> first | trivial | rfl | omega)
            · obtain ⟨O, eO⟩ : ∃ O, upL ((M : Int) + 1) k ++ [(n : Int) - 1] = O := ⟨_, rfl⟩; simp only [eO]; have hO : ∀ e ∈ O, OT a n i e := fun e he => by
               rw [← eO, List.mem_append, upL_mem, List.mem_singleton] at he; unfold OT; omega
              have hOl : 0 < O.length ∧ O.length ≤ 1000 := by rw [← eO, List.length_append, huk]; simp only [List.length_cons, List.length_nil]; omega
              have hO0 : ∀ e ∈ O, 0 ≤ e := fun e he => by have := hO e he; unfold OT at this; omega
              clear eO; have step : ∀ x, LocOk a b n i x → ∀ j, j < i + 1 → LocOk a b n j ((ns ++ [x]).getD j nd0) := fun x hx j hj => by
               by_cases h : j < i
               · have := hL j h
                 rwa [gdE, List.getElem?_append_left (by omega), ← gdE]
               · obtain rfl : j = i := by omega
                 rw [gdE, List.getElem?_append_right (by omega), show j - ns.length = 0 by omega]; exact hx
              have hlen : ∀ x : Nd, (ns ++ [x]).length = i + 1 := fun x => by rw [List.length_append, hl]; rfl
              have q1 : 0 ≤ (Src.step (s1, a1)).2 := Src.step_pos' ha1; have q2 := Src.step_pos' q1; have bO := uA1 (Src.step (s1, a1)).raw O.length (by omega); have bL := uA1 (Src.raw (s1, a1)) (3 - 1 + 1) (by omega); have mO : O.getD (goMod (Src.step (s1, a1)).raw O.length).toNat 0 ∈ O := by
               rw [gdE, List.getElem?_eq_getElem (by omega)]; exact List.getElem_mem _
              generalize O.getD (goMod (Src.step (s1, a1)).raw O.length).toNat 0 = eo at *; generalize goMod (Src.step (s1, a1)).raw O.length = go at *; generalize goMod (Src.raw (s1, a1)) (3 - 1 + 1) = gl at *; have strZ : ∀ (K : List Int) (y : Nd), StripR K i 0 Z y → LnE (ZT a n i) i (strOf [65 + (i : Int)], y.2) ∨ ¬ (∀ k ∈ K, k = 1 ∨ k = 2 ∨ k = 3 ∨ k = 4 ∨ k = 5) := fun K y hy => by
               by_cases hK : ∀ k ∈ K, k = 1 ∨ k = 2 ∨ k = 3 ∨ k = 4 ∨ k = 5
               · left; obtain ⟨_, _, hy⟩ := hy
                 rcases hy with ⟨h1, _, h2, h3, e, he, hex⟩ | ⟨h1, _, h2, h3, e, he, e', he', hne, hex⟩ | ⟨h1, h2, h3, e, he, hex⟩
                 · exact .inl ⟨h1, h2, h3, e, hZ e he, hex⟩
                 · exact .inr (.inl ⟨h1, h2, h3, e, hZ e he, e', hZ e' he', hne, hex⟩)
                 · refine .inr (.inr (.inl ⟨?_, h2, h3, e, hZ e he, hex⟩))
                   rcases h1 with ⟨h1, h4, h5⟩ | ⟨_, h1⟩
                   · have := hK _ h1; dsimp only; omega
                   · exact .inr (.inl h1)
               · exact .inr hK
              refine ⟨fun e0 => ⟨⟨ha1, hZl.1, hZl.2, hZ0⟩, fun w hw => ⟨by omega, by omega, by omega, by omega, ?_⟩⟩, fun ne0 => ⟨fun lta => ⟨⟨ha1, hZl.1, hZl.2, hZ0⟩, fun w hw => ⟨by omega, by omega, by omega, by omega, ?_⟩⟩, fun nlta => ⟨fun eqa => ⟨⟨ha1, by decide, by decide, by decide⟩, fun _ _ => ⟨q1, fun _ => ⟨bO, fun _ => ⟨bO, fun _ => ⟨by omega, by omega, by omega, by omega, ?_⟩⟩⟩⟩⟩, ?_⟩⟩⟩
              · obtain ⟨⟨w1, w2⟩, _⟩ := hw; refine dA0 ⟨(i + 1, w.2.1, ns ++ [(strOf [65 + (i : Int)], w.1.1.2)]), by dsimp only; omega, w1, hlen _, step _ ⟨rfl, .inl ⟨by omega, ?_, w2.2.1, (strZ _ _ w2).resolve_right (by simp)⟩⟩⟩ ?_ (by dsimp only; omega)
                · have := w2.2.2; simp only [List.mem_singleton] at this; dsimp only; omega
                · simp only [go_sem]; rfl
              · obtain ⟨⟨w1, w2⟩, _⟩ := hw; refine dA0 ⟨(i + 1, w.2.1, ns ++ [(strOf [65 + (i : Int)], w.1.1.2)]), by dsimp only; omega, w1, hlen _, step _ ⟨rfl, .inr (.inl ⟨by omega, by omega, ?_, w2.2.1, (strZ _ _ w2).resolve_right (by simp)⟩)⟩⟩ ?_ (by dsimp only; omega)
                · have := w2.2.2; simp only [List.mem_cons, List.not_mem_nil, or_false] at this; dsimp only; omega
                · simp only [go_sem]; rfl
              · refine dA0 ⟨(i + 1, (Src.step (s1, a1)).step, ns ++ [(strOf [65 + (i : Int)], 6, 1 + gl, 0, [(n : Int) - 2, eo])]), by dsimp only; omega, q2, hlen _, step _ ⟨rfl, .inr (.inr (.inl ⟨by omega, rfl, rfl, by dsimp only; omega, by dsimp only; omega, eo, hO _ mO, rfl⟩))⟩⟩ ?_ (by dsimp only; omega); simp only [go_sem]; rfl
              · have strO : ∀ (y : Nd), StripR [2, 4, 5, 7] i 1 O y → (y.2.1 = 7 → LnE (OT a n i) i (strOf [65 + (i : Int)], y.2.1, 0, y.2.2.2)) ∧ (¬ y.2.1 = 7 → LnE (OT a n i) i (strOf [65 + (i : Int)], y.2)) ∧ (y.2.1 = 2 ∨ y.2.1 = 4 ∨ y.2.1 = 5 ∨ y.2.1 = 7) := fun y hy => by
                 obtain ⟨_, _, hy⟩ := hy; simp only [List.mem_cons, List.not_mem_nil, or_false] at hy
                 rcases hy with ⟨h1, _, h2, h3, e, he, hex⟩ | ⟨h1, _, h2, h3, e, he, e', he', hne, hex⟩ | ⟨h1, h2, h3, e, he, hex⟩
                 · exact ⟨fun k => by omega, fun _ => .inl ⟨h1, h2, h3, e, hO e he, hex⟩, by omega⟩
                 · exact ⟨fun k => by omega, fun _ => .inr (.inl ⟨h1, h2, h3, e, hO e he, e', hO e' he', hne, hex⟩), by omega⟩
                 · exact ⟨fun k => .inr (.inr (.inr ⟨k, rfl, e, hO e he, hex⟩)), fun k => .inr (.inr (.inl ⟨by dsimp only; omega, h2, h3, e, hO e he, hex⟩)), by omega⟩
                refine fun _ => ⟨by omega, by omega, fun ltb => ⟨⟨ha1, hOl.1, hOl.2, hO0⟩, fun w hw => ⟨fun k7 => ⟨by omega, by omega, by omega, by omega, ?_⟩, fun k7 => ⟨by omega, by omega, by omega, by omega, ?_⟩⟩⟩, fun nltb => ⟨fun ltm => ⟨by omega, by omega, by omega, by omega, ?_⟩, fun nltm => ⟨by omega, by omega, by omega, by omega, by omega, ?_⟩⟩⟩
                · obtain ⟨⟨w1, w2⟩, _⟩ := hw; obtain ⟨g1, g2, g3⟩ := strO _ w2; refine dA0 ⟨(i + 1, w.2.1, ns ++ [(strOf [65 + (i : Int)], w.1.1.2.1, 0, w.1.1.2.2.2)]), by dsimp only; omega, w1, hlen _, step _ ⟨rfl, .inr (.inr (.inr (.inl ⟨by omega, by omega, g3, w2.2.1, g1 k7⟩)))⟩⟩ ?_ (by dsimp only; omega); simp only [go_sem]; rfl
                · obtain ⟨⟨w1, w2⟩, _⟩ := hw; obtain ⟨g1, g2, g3⟩ := strO _ w2; refine dA0 ⟨(i + 1, w.2.1, ns ++ [(strOf [65 + (i : Int)], w.1.1.2)]), by dsimp only; omega, w1, hlen _, step _ ⟨rfl, .inr (.inr (.inr (.inl ⟨by omega, by omega, g3, w2.2.1, g2 k7⟩)))⟩⟩ ?_ (by dsimp only; omega); simp only [go_sem]; rfl
                · refine dA0 ⟨(i + 1, (s1, a1), ns ++ [(strOf [65 + (i : Int)], 8, 0, 1, [])]), by dsimp only; omega, ha1, hlen _, step _ ⟨rfl, .inr (.inr (.inr (.inr (.inl ⟨by omega, by omega, rfl, rfl, rfl, rfl⟩))))⟩⟩ ?_ (by dsimp only; omega); simp only [go_sem]; rfl
                · refine dA0 ⟨(i + 1, (s1, a1), ns ++ [(strOf [65 + (i : Int)], 9, 0, (i : Int) - ((n : Int) - 2), [])]), by dsimp only; omega, ha1, hlen _, step _ ⟨rfl, ?_⟩⟩ ?_ (by dsimp only; omega)
                  · by_cases h : i + 2 = n
                    · exact .inr (.inr (.inr (.inr (.inr (.inl ⟨h, rfl, rfl, by dsimp only; omega, rfl⟩)))))
                    · exact .inr (.inr (.inr (.inr (.inr (.inr ⟨by omega, rfl, rfl, by dsimp only; omega, rfl⟩)))))
                  · simp only [go_sem]; rfl
    · have hin : i = n := by omega
      subst hin; have p4 : 0 ≤ (Src.step (s1, a1)).2 := Src.step_pos' ha1; have bG := uA1 (Src.raw (s1, a1)) 4 (by omega); have good : ∀ ns' : List Nd, ns'.length = i → (∀ j, j < i → LocOk a b i j (ns'.getD j nd0)) → (ns'.length ≤ 1000 ∧ ∀ y ∈ ns', y.2.2.1 ≤ 1000) ∧ ∀ ds, DevR ns' ds → GoodL (ns', ds) := fun ns' h1 h2 => by
       refine ⟨⟨by omega, fun y hy => ?_⟩, fun ds hd => iC8 (a := a) (b := b) (n := i) (by omega) (by omega) ha.1 h1 h2 hd⟩; obtain ⟨k, hkl, rfl⟩ := List.getElem_of_mem hy; have := (h2 k (by omega)).le; rw [show ns'.getD k nd0 = ns'[k] by simp [hkl]] at this; omega
      refine ⟨ha1, fun _ => ⟨fun hg => ?_, fun hg => ?_⟩⟩
      · generalize Src.step (s1, a1) = s4 at *; refine cA0 ⟨{ q : Nat × List Nd // q.1 ≤ a ∧ q.2.length = i ∧ ∀ j, j < i → LocOk a b i j (q.2.getD j nd0) }, 2000, fun q => [(0, .one (.loc 0 0)), (2, .one (.loc 70 0)), (7, .one (.int .i64 a)), (9, .one (.loc 66 0)), (16, .one (.int .i64 q.1.1))], fun q => [(0, .cells 75 [.sl yI s4.1 false, .int .i64 s4.2]), (70, .cells 30 [.undef, .undef]), (66, .cells 30 [.row 64, .row 65]), (64, .row 56 yNO q.1.2), (65, .row 111 yPL [])], fun q => a - q.1.1⟩ ⟨(0, ns), Nat.zero_le _, hl, hL⟩ ?_ ?_
        · simp only [go_sem]; rfl
        · rintro ⟨⟨k, (ns : List Nd)⟩, (hka : k ≤ a), (hl : ns.length = i), (hL : ∀ j, j < i → LocOk a b i j (ns.getD j nd0))⟩
          (simp -implicitDefEqProofs (maxSteps := 4000000) only [go_sem, bP, con9, con31, con29, con32, con30, con33, hT, hG, hk, hK, Tryz.results9]); (try simp (disch := decide +kernel) only [drawn, true_and, and_true])
          obtain ⟨g1, g2⟩ := good ns hl hL; refine ⟨fun hlt => ?_, fun hge => ?_⟩
          · have hk' : k < ns.length := by omega
            have ek : ∀ z, ns.getD (k : Int).toNat z = ns[k] := fun z => by simp [hk']
            have hLk := hL k (by omega); rw [show ns.getD k nd0 = ns[k] by simp [hk']] at hLk; have e1 : ∀ l : List Int, List.drop (Int.toNat 1) (List.take (↑l.length : Int).toNat l) = l.drop 1 := fun l => by rw [Int.toNat_natCast, List.take_length]; rfl
            have e2 : (k : Int).toNat = k := Int.toNat_natCast k; simp only [ek, e1]; simp only [e2]; have hx : ∀ x, LocOk a b i k x → ∀ j, j < i → LocOk a b i j ((ns.set k x).getD j nd0) := fun x hx j hj => by
             rw [gdE, List.getElem?_set]; by_cases h : k = j
             · subst h; rw [if_pos rfl, if_pos hk']; exact hx
             · rw [if_neg h, ← gdE]; exact hL j hj
            have hset : ns[k].2.1 ≠ 5 → (ns[k].2.2.2.2.any fun y => decide ((k : Int) + 1 = y)) = false → 1 ≤ ns[k].2.2.2.2.length ∧ LocOk a b i k (ns[k].1, ns[k].2.1, ns[k].2.2.1, ns[k].2.2.2.1, ((k : Int) + 1) :: ns[k].2.2.2.2.drop 1) := fun h1 h2 => pD2 (by omega) hLk (by omega) h1 (fun h => by
             have : (ns[k].2.2.2.2.any fun y => decide ((k : Int) + 1 = y)) = true := List.any_eq_true.2 ⟨_, h, by simp⟩; rw [h2] at this; cases this)
            refine ⟨by omega, fun _ => ⟨by omega, fun hw5 => ⟨fun _ => by omega, fun _ => ⟨fun _ => by omega, fun _ => ⟨fun _ => by omega, fun hA => ?_, fun hB => ⟨by omega, ?_⟩⟩⟩⟩⟩⟩
            · obtain ⟨s1', s2'⟩ := hset hA.1 hA.2; have hdl : (ns[k].2.2.2.2.drop 1).length ≤ ns[k].2.2.2.2.length := by rw [List.length_drop]; omega
              refine ⟨by omega, by omega, fun _ => ⟨by omega, fun _ => ⟨⟨by omega, by omega, by omega⟩, ?_, by omega, fun _ => ⟨by omega, by omega, ?_⟩⟩⟩⟩
              · have := aD3 hLk; omega
              · refine dA0 ⟨(k + 1, ns.set k _), by dsimp only; omega, by rw [List.length_set]; exact hl, hx _ s2'⟩ ?_ (by dsimp only; omega); simp only [go_sem]; rfl
            · refine dA0 ⟨(k + 1, ns), by dsimp only; omega, hl, hL⟩ ?_ (by dsimp only; omega); simp only [go_sem]; rfl
          · refine ⟨⟨p4, g1⟩, fun w hw => ⟨((ns, w.1.1), ()), (w.2.1, ()), ⟨hw.1.1, g2 _ hw.1.2⟩, rfl, rfl, rfl, rfl⟩⟩
      · obtain ⟨g1, g2⟩ := good ns hl hL; refine ⟨⟨p4, g1⟩, fun w hw => ⟨((ns, w.1.1), ()), (w.2.1, ()), ⟨hw.1.1, g2 _ hw.1.2⟩, rfl, rfl, rfl, rfl⟩⟩)
def con117 : Con := { ps := [.d false (.int .u8)], rs := [.d false .bool], pre := fun _ => True, out := fun (x : Int × Unit) => (decide (65 ≤ x.1) && decide (x.1 ≤ 90), ()), nw := id }
theorem c117 : CtrOk Tryz.prog 117 con117.ctr :=
 aA0 eA0 eN rfl Tryz.func117 rfl con117 5 (by kernel_rfl) (by decide) (by decide) rfl (by decide) rfl (by
  rintro ⟨(c : Int), _⟩ hpre hwf X hT hG hk hK
  (simp -implicitDefEqProofs (maxSteps := 4000000) only [go_sem, con117, hT, hG, hk, hK, Tryz.results117] at hwf ⊢))
def con118 : Con := { ps := [.d false (.int .u8)], rs := [.d false .bool], pre := fun _ => True, out := fun (x : Int × Unit) => (decide (48 ≤ x.1) && decide (x.1 ≤ 57), ()), nw := id }
theorem c118 : CtrOk Tryz.prog 118 con118.ctr :=
 aA0 eA0 eN rfl Tryz.func118 rfl con118 5 (by kernel_rfl) (by decide) (by decide) rfl (by decide) rfl (by
  rintro ⟨(c : Int), _⟩ hpre hwf X hT hG hk hK
  (simp -implicitDefEqProofs (maxSteps := 4000000) only [go_sem, con118, hT, hG, hk, hK, Tryz.results118] at hwf ⊢))
theorem dA3 (c : Int) : (strOf [c]).size = 1 := rfl
theorem hA9 {c : Int} (h : 65 ≤ c ∧ c ≤ 90) : byteAt (strOf [c]) 0 = c := by
 have e : byteAt (strOf [c]) 0 = ((UInt8.ofNat c.toNat).toNat : Int) := rfl; rw [e, UInt8.toNat_ofNat']; omega
def Nm1 (s : ByteArray) : Prop := ∃ c : Int, 65 ≤ c ∧ c ≤ 90 ∧ s = strOf [c]
def con97 : Con := { ps := [.d false .str], rs := [.d false .bool], pre := fun (x : ByteArray × Unit) => Nm1 x.1, out := fun _ => (true, ()), nw := id }
theorem c97 : CtrOk Tryz.prog 97 con97.ctr :=
 aA0 eA0 (eC c117 has117 (eC c118 has118 eN)) rfl Tryz.func97 rfl con97 34361966605 (by kernel_rfl) (by decide) (by decide) rfl (by decide) rfl (by
  rintro ⟨(s : ByteArray), _⟩ hpre hwf X hT hG hk hK; obtain ⟨c, h1, h2, rfl⟩ : Nm1 s := hpre
  (simp -implicitDefEqProofs (maxSteps := 4000000) only [go_sem, bP, con97, con117, con118, hT, hG, hk, hK, Tryz.results97] at hwf ⊢)
  clear hwf; have e0 := hA9 (c := c) ⟨h1, h2⟩; simp only [dA3]; simp only [e0]
  (repeat' with_reducible first | refine And.intro ?_ ?_ | intro _) <;> try first | with_reducible (first | assumption | omega | contradiction) | decide
  · refine cA0 ⟨{ i : Nat // i ≤ 1 }, 1000, fun i => [(0, .one (.str (strOf [c]))), (3, .one (.int .i64 i.1))], fun i => [], fun i => 1 - i.1⟩ ⟨0, Nat.zero_le _⟩ ?_ ?_
    · simp only [go_sem]; rfl
    · rintro ⟨i, (hi : i ≤ 1)⟩
      (simp -implicitDefEqProofs (maxSteps := 4000000) only [go_sem, bP, con97, con117, con118, hT, hG, hk, hK, Tryz.results97])
      simp only [dA3]
      · intro _ hlt; have : i = 0 := by omega
        subst this; have e1 : byteAt (strOf [c]) ((0 : Nat) : Int) = c := e0; simp only [e1]
        (repeat' with_reducible first | refine And.intro ?_ ?_ | intro _) <;> try first | with_reducible (first | assumption | omega | contradiction) | decide
        refine dA0 ⟨1, by omega⟩ ?_ (by dsimp only; omega); simp only [go_sem]; rfl)
def con23 : Con := { ps := [.d false yI], rs := [.d false .bool], pre := fun _ => True, out := fun (x : Int × Unit) => (strN x.1, ()), nw := id }
theorem c23 : CtrOk Tryz.prog 23 con23.ctr :=
 aA0 eA0 eN rfl Tryz.func23 rfl con23 5 (by kernel_rfl) (by decide) (by decide) rfl (by decide) rfl (by
  rintro ⟨(c : Int), _⟩ hpre hwf X hT hG hk hK
  (simp -implicitDefEqProofs (maxSteps := 4000000) only [go_sem, con23, hT, hG, hk, hK, Tryz.results23] at hwf ⊢)
  simp [strN])
def con41 : Con := { ps := [.d false yI], rs := [.d false yI], pre := fun _ => True, out := fun (x : Int × Unit) => ((exN x.1 : Int), ()), nw := id }
theorem c41 : CtrOk Tryz.prog 41 con41.ctr :=
 aA0 eA0 eN rfl Tryz.func41 rfl con41 285 (by kernel_rfl) (by decide) (by decide) rfl (by decide) rfl (by
  rintro ⟨(c : Int), _⟩ hpre hwf X hT hG hk hK
  (simp -implicitDefEqProofs (maxSteps := 4000000) only [go_sem, bP, con41, hT, hG, hk, hK, Tryz.results41] at hwf ⊢)
  unfold exN
  (repeat' with_reducible first | refine And.intro ?_ ?_ | intro _) <;> try first | with_reducible (first | assumption | omega | contradiction) | decide
  all_goals first
   | (rw [if_pos (by omega)]; rfl)
   | (rw [if_neg (by omega), if_pos (by omega)]; rfl)
   | (rw [if_neg (by omega), if_neg (by omega)]; rfl)
   | (exfalso; omega))
def con92 : Con := { ps := [.d false yI, .d false yI, .d false yI], rs := [.d false .bool], pre := fun _ => True, out := fun (x : Int × Int × Int × Unit) => (decide (x.2.1 ≤ x.1) && decide (x.1 ≤ x.2.2.1), ()), nw := id }
theorem c92 : CtrOk Tryz.prog 92 con92.ctr :=
 aA0 eA0 eN rfl Tryz.func92 rfl con92 71 (by kernel_rfl) (by decide) (by decide) rfl (by decide) rfl (by
  rintro ⟨(a : Int), (b : Int), (c : Int), _⟩ hpre hwf X hT hG hk hK
  (simp -implicitDefEqProofs (maxSteps := 4000000) only [go_sem, con92, hT, hG, hk, hK, Tryz.results92] at hwf ⊢))
def totV (ns : List Nd) : Int := (ns.map (fun x => x.2.2.1)).sum
theorem gB4 {ns : List Nd} {i : Nat} (h : i < ns.length) : totV (ns.take (i + 1)) = totV (ns.take i) + ns[i].2.2.1 := by
 unfold totV; rw [tsE h, List.map_append, List.sum_append]; simp
theorem zB5 {ns : List Nd} (h : ∀ y ∈ ns, 0 ≤ y.2.2.1 ∧ y.2.2.1 ≤ 8) : 0 ≤ totV ns ∧ totV ns ≤ 8 * ns.length := by
 unfold totV
 induction ns with
 | nil => simp
 | cons y ns ih =>
   have h1 := h y List.mem_cons_self; have h2 := ih fun z hz => h z (List.mem_cons_of_mem _ hz); simp only [List.map_cons, List.sum_cons, List.length_cons]; omega
theorem GoodL.le8 {l : Ly} (h : GoodL l) : ∀ y ∈ l.1, 0 ≤ y.2.2.1 ∧ y.2.2.1 ≤ 8 := by
 intro y hy; obtain ⟨i, hi, rfl⟩ := List.getElem_of_mem hy; have g := h.nd i hi; have e : l.1.getD i nd0 = l.1[i] := by simp [hi]
 cases hs : strN (l.1[i]).2.1 with
 | true => have := g.ln (by rw [e]; exact hs); rw [e] at this; omega
 | false => have := g.l0 (by rw [e]; exact hs); rw [e] at this; omega
def con52 : Con := { ps := [.d true yLY], rs := [.d false yI], pre := fun (x : Ly × Unit) => GoodL x.1, out := fun (x : Ly × Unit) => (totV x.1.1, ()), nw := id }
theorem c52 : CtrOk Tryz.prog 52 con52.ctr :=
 aA0 eA0 eN rfl Tryz.func52 rfl con52 543 (by kernel_rfl) (by decide) (by decide) rfl (by decide) rfl (by
  rintro ⟨⟨(ns : List Nd), (ds : List Dv)⟩, _⟩ hpre hwf X hT hG hk hK; have hg : GoodL (ns, ds) := hpre
  (simp -implicitDefEqProofs (maxSteps := 4000000) only [go_sem, bP, con52, hT, hG, hk, hK, Tryz.results52] at hwf ⊢)
  clear hwf; have h8 := hg.le8; refine cA0 ⟨{ i : Nat // i ≤ ns.length }, 1000, fun i => [(1, .one (.loc 64 0)), (3, .one (.int .i64 (totV (ns.take i.1)))), (4, .one (.int .i64 i.1))], fun i => [(64, .cells 30 [.sl yNO ns false, .sl yPL ds false])], fun i => ns.length - i.1⟩ ⟨0, Nat.zero_le _⟩ ?_ ?_
  · simp only [go_sem]
    try first | rfl | (and_intros <;> first | trivial | rfl | omega)
  · rintro ⟨i, (hi : i ≤ ns.length)⟩
    (simp -implicitDefEqProofs (maxSteps := 4000000) only [go_sem, bP, con52, hT, hG, hk, hK, Tryz.results52])
    have hb := zB5 (ns := ns.take i) (fun y hy => h8 y (List.mem_of_mem_take hy)); rw [List.length_take] at hb; have hn24 := hg.n24; dsimp only at hn24; refine fun _ => ⟨fun hlt => ?_, fun hge => ?_⟩
    · have hi' : i < ns.length := by omega
      have ek : ∀ z, ns.getD (i : Int).toNat z = ns[i] := fun z => by simp [hi']
      simp only [ek]; have h8i := h8 _ (List.getElem_mem hi'); have hst := gB4 hi'
      (repeat' with_reducible first | refine And.intro ?_ ?_ | intro _) <;> try first | with_reducible (first | assumption | omega | contradiction) | decide
      refine dA0 ⟨i + 1, by omega⟩ ?_ (by dsimp only; omega); simp only [go_sem]; rw [hst]
      try first | rfl | (and_intros <;> first | trivial | rfl | omega)
    · rw [List.take_of_length_le (by omega)]
      try first | rfl | (and_intros <;> first | trivial | rfl | omega))
def idxV {α : Type} (p : α → Bool) (l : List α) : Int := if l.findIdx p < l.length then (l.findIdx p : Int) else -1
theorem pA1 {α : Type} {p : α → Bool} {l : List α} {i : Nat} (h : i < l.length) (h1 : p l[i] = true) (h2 : ∀ k (hk : k < i), p (l[k]'(by omega)) = false) : idxV p l = i := by
 have : l.findIdx p = i := by rw [List.findIdx_eq h]; exact ⟨h1, h2⟩
 unfold idxV; rw [this, if_pos h]
theorem hA1 {α : Type} {p : α → Bool} {l : List α} (h : ∀ k (hk : k < l.length), p l[k] = false) : idxV p l = -1 := by
 unfold idxV; rw [if_neg]; rw [Nat.not_lt]; refine Nat.le_of_eq (Eq.symm (List.findIdx_eq_length.2 fun x hx => ?_)); obtain ⟨k, hk, rfl⟩ := List.getElem_of_mem hx; exact h k hk
def con59 : Con := { ps := [.d true yLY, .d false .str], rs := [.d false yI], pre := fun _ => True, out := fun (x : Ly × ByteArray × Unit) => (idxV (fun y : Nd => decide (y.1 = x.2.1)) x.1.1, ()), nw := id }
theorem c59 : CtrOk Tryz.prog 59 con59.ctr :=
 aA0 eA0 eN rfl Tryz.func59 rfl con59 1049655 (by kernel_rfl) (by decide) (by decide) rfl (by decide) rfl (by
  rintro ⟨⟨(ns : List Nd), (ds : List Dv)⟩, (s : ByteArray), _⟩ hpre hwf X hT hG hk hK
  (simp -implicitDefEqProofs (maxSteps := 4000000) only [go_sem, bP, con59, hT, hG, hk, hK, Tryz.results59] at hwf ⊢)
  clear hwf; refine cA0 ⟨{ i : Nat // i ≤ ns.length ∧ ∀ k (hk : k < i) (hk' : k < ns.length), ns[k].1 ≠ s }, 1000, fun i => [(1, .one (.str s)), (2, .one (.loc 64 0)), (5, .one (.int .i64 i.1))], fun i => [(64, .cells 30 [.sl yNO ns false, .sl yPL ds false])], fun i => ns.length - i.1⟩ ⟨0, Nat.zero_le _, fun k hk => by omega⟩ ?_ ?_
  · simp only [go_sem]; rfl
  · rintro ⟨i, (hi : i ≤ ns.length), hz⟩
    (simp -implicitDefEqProofs (maxSteps := 4000000) only [go_sem, bP, con59, hT, hG, hk, hK, Tryz.results59])
    refine fun _ => ⟨fun hlt => ?_, fun hge => ?_⟩
    · have hi' : i < ns.length := by omega
      have ek : ∀ z, ns.getD (i : Int).toNat z = ns[i] := fun z => by simp [hi']
      simp only [ek]
      (repeat' with_reducible first | refine And.intro ?_ ?_ | intro _) <;> try first | with_reducible (first | assumption | omega | contradiction) | decide
      · rw [pA1 hi' (by simpa) (fun k hk => by simpa using hz k hk (by omega))]
      · refine dA0 ⟨i + 1, by omega, fun k hk hk' => ?_⟩ ?_ (by dsimp only; omega)
        · by_cases e : k = i
          · subst e; assumption
          · exact hz k (by omega) hk'
        · simp only [go_sem]; rfl
    · rw [hA1 fun k hk => by simpa using hz k (by omega) hk])
theorem GoodL.find {l : Ly} (h : GoodL l) {i : Nat} (hi : i < l.1.length) : idxV (fun y : Nd => decide (y.1 = (l.1[i]).1)) l.1 = i := by
 refine pA1 hi (by simp) fun k hk => ?_; rw [decide_eq_false_iff_not]; intro e; have := h.nmd k i (by omega) hi (by rw [show l.1.getD k nd0 = l.1[k] by simp [show k < l.1.length by omega], show l.1.getD i nd0 = l.1[i] by simp [hi]]; exact e); omega
def con113 : Con := { ps := [.d true yLY, .d false yI, .d false yI], rs := [.d false .bool], pre := fun (x : Ly × Int × Int × Unit) => 0 ≤ x.2.1 ∧ x.2.1 < x.1.1.length, out := fun (x : Ly × Int × Int × Unit) => (decide (x.2.1 ≠ x.2.2.1) && (x.1.1.getD x.2.1.toNat nd0).2.2.2.2.any (fun y => decide (x.2.2.1 = y)), ()), nw := id }
theorem c113 : CtrOk Tryz.prog 113 con113.ctr :=
 aA0 eA0 (eC c32 has32 eN) rfl Tryz.func113 rfl con113 79 (by kernel_rfl) (by decide) (by decide) rfl (by decide) rfl (by
  rintro ⟨⟨(ns : List Nd), (ds : List Dv)⟩, (a : Int), (b : Int), _⟩ hpre hwf X hT hG hk hK; obtain ⟨h1, h2⟩ : 0 ≤ a ∧ a < ns.length := hpre
  (simp -implicitDefEqProofs (maxSteps := 4000000) only [go_sem, bP, con113, con32, hT, hG, hk, hK, Tryz.results113] at hwf ⊢)
  clear hwf; refine ⟨fun _ => ⟨h1, h2⟩, fun _ _ => rfl⟩)
theorem hA6 {ns : List Nd} {i : Nat} (h : i < ns.length) : ns.getD i nd0 = ns[i] := by simp [h]
structure NdAt (ns : List Nd) (i : Nat) (x : Nd) : Prop where
 kd : 1 ≤ x.2.1 ∧ x.2.1 ≤ 9
 ln : strN x.2.1 = true → 1 ≤ x.2.2.1 ∧ x.2.2.1 ≤ 8
 lo : x.2.1 = 5 → 2 ≤ x.2.2.1
 l0 : strN x.2.1 = false → x.2.2.1 = 0
 zn : x.2.2.2.1 = 0 ∨ x.2.2.2.1 = 1
 ex : x.2.2.2.2.length = exN x.2.1
 fw : ∀ (k : Nat) (h : k < x.2.2.2.2.length), ((x.2.1 = 5 ∧ k = 0) ∧ x.2.2.2.2[k] = i) ∨ (¬ (x.2.1 = 5 ∧ k = 0) ∧ (i : Int) < x.2.2.2.2[k] ∧ x.2.2.2.2[k] < ns.length)
 ne : x.2.2.2.2.length = 2 → x.2.2.2.2.getD 0 0 ≠ x.2.2.2.2.getD 1 0
 z0 : x.2.1 = 1 ∨ x.2.1 = 3 ∨ x.2.1 = 6 → x.2.2.2.1 = 0
 z1 : x.2.1 = 7 ∨ x.2.1 = 8 → x.2.2.2.1 = 1
 zz : ∀ (k : Nat) (h : k < x.2.2.2.2.length), (ns.getD (x.2.2.2.2[k]).toNat nd0).2.1 ≠ 1 ∧ (ns.getD (x.2.2.2.2[k]).toNat nd0).2.2.2.1 = if x.2.1 = 6 ∧ k = 1 then 1 else x.2.2.2.1
 nm : Nm1 x.1
theorem GoodL.at {l : Ly} (h : GoodL l) {i : Nat} (hi : i < l.1.length) : NdAt l.1 i l.1[i] := by
 have g := h.nd i hi; have e : l.1.getD i nd0 = l.1[i] := hA6 hi; obtain ⟨g1, g2, g3, g4, g5, g6, g7, g8, g9, g10, g11⟩ := g; simp only [e] at *; refine ⟨g1, g2, g3, g4, g5, g6, fun k hk => g7 k _ (List.getElem?_eq_getElem hk), fun h2 => ?_, g9, g10, fun k hk => g11 k _ (List.getElem?_eq_getElem hk), ?_⟩
 · intro he; rw [gdE, gdE, List.getElem?_eq_getElem (by omega), List.getElem?_eq_getElem (by omega)] at he; exact g8 (l.1[i].2.2.2.2[0]) (l.1[i].2.2.2.2[1]) (by
    apply List.ext_getElem
    · exact h2
    · intro k h1 h3
      match k, h3 with
      | 0, _ => rfl
      | 1, _ => rfl) he
 · obtain ⟨c, h1, h2, h3⟩ := h.nm i hi; rw [hA6 hi] at h3; exact ⟨c, h1, h2, h3⟩
theorem nC9 {k : Int} : (strN k = true) = (1 ≤ k ∧ k ≤ 6) := by simp [strN]
theorem dD6 {k : Int} : (strN k = false) = ¬ (1 ≤ k ∧ k ≤ 6) := by rw [← nC9]; simp
theorem vD1 {k : Int} {n : Nat} (h : n = exN k) : (n = 2 ∧ (k = 4 ∨ k = 5 ∨ k = 6)) ∨ (n = 0 ∧ (k = 8 ∨ k = 9)) ∨ (n = 1 ∧ k ≠ 4 ∧ k ≠ 5 ∧ k ≠ 6 ∧ k ≠ 8 ∧ k ≠ 9) := by
 unfold exN at h; split at h
 · exact .inl ⟨h, by assumption⟩
 · split at h
   · exact .inr (.inl ⟨h, by assumption⟩)
   · exact .inr (.inr ⟨h, by omega⟩)
def con89 : Con := { ps := [.d true yLY, .d false yI], rs := [.d false yI], pre := fun (x : Ly × Int × Unit) => GoodL x.1 ∧ 0 ≤ x.2.1 ∧ x.2.1 < x.1.1.length, out := fun _ => (0, ()), nw := id }
theorem c89 : CtrOk Tryz.prog 89 con89.ctr :=
 aA0 eA0 (eC c97 has97 (eC c23 has23 (eC c41 has41 (eC c92 has92 eN)))) rfl Tryz.func89 rfl con89 1267689285854475646979063153655 (by kernel_rfl) (by decide) (by decide) rfl (by decide) rfl (by
  rintro ⟨⟨(ns : List Nd), (ds : List Dv)⟩, (i0 : Int), _⟩ hpre hwf X hT hG hk hK; obtain ⟨hg, h1, h2⟩ : GoodL (ns, ds) ∧ 0 ≤ i0 ∧ i0 < ns.length := hpre; obtain ⟨i, rfl⟩ : ∃ i : Nat, i0 = i := ⟨i0.toNat, by omega⟩; have hi : i < ns.length := by omega
  (simp -implicitDefEqProofs (maxSteps := 4000000) only [go_sem, bP, con89, con97, con23, con41, con92, hT, hG, hk, hK, Tryz.results89] at hwf ⊢); (try simp (disch := decide +kernel) only [drawn, true_and, and_true])
  clear hwf; have ek : ∀ z, ns.getD (i : Int).toNat z = ns[i] := fun z => by simp [hi]
  have ha : NdAt ns i ns[i] := hg.at hi; have hn24 := hg.n24; simp only [ek]; generalize ns[i] = x at *; obtain ⟨x1, (x2 : Int), (x3 : Int), (x4 : Int), (x5 : List Int)⟩ := x; obtain ⟨g1, g2, g3, g4, g5, g6, g7, g8, g9, g10, g11, g12⟩ := ha; dsimp only at g1 g2 g3 g4 g5 g6 g7 g8 g9 g10 g12; simp only [nC9, dD6] at *; have hex : (x5.length = 2 ∧ (x2 = 4 ∨ x2 = 5 ∨ x2 = 6)) ∨ (x5.length = 0 ∧ (x2 = 8 ∨ x2 = 9)) ∨ (x5.length = 1 ∧ x2 ≠ 4 ∧ x2 ≠ 5 ∧ x2 ≠ 6 ∧ x2 ≠ 8 ∧ x2 ≠ 9) := vD1 g6; have hexn : x5.length = exN x2 := g6; clear g6
  (repeat' with_reducible first | refine And.intro ?_ ?_ | intro _) <;> try first | with_reducible (first | assumption | omega | contradiction) | decide
  all_goals first
   | (exfalso; omega)
   | skip
  all_goals refine cA0 ⟨{ k : Nat // k ≤ x5.length }, 1000, fun k => [(1, .one (.int .i64 i)), (2, .one (.loc 64 0)), (5, .one (.loc 65 0)), (8, .one (.int .i64 k.1))], fun k => [(64, .cells 30 [.sl yNO ns false, .sl yPL ds false]), (65, .cells 56 [.str x1, .int .i64 x2, .int .i64 x3, .int .i64 x4, .sl yI x5 false])], fun k => x5.length - k.1⟩ ⟨0, Nat.zero_le _⟩ ?_ ?_
  all_goals first
   | (simp only [go_sem]
      try first | rfl | (and_intros <;> first | trivial | rfl | omega)
      done)
   | skip
  all_goals
   rintro ⟨k, (hkl : k ≤ x5.length)⟩
   (simp -implicitDefEqProofs (maxSteps := 4000000) only [go_sem, bP, con89, con97, con23, con41, con92, hT, hG, hk, hK, Tryz.results89]); (try simp (disch := decide +kernel) only [drawn, true_and, and_true])
   refine fun _ => ⟨fun hlt => ?_, fun hge => ?_⟩
   · have hk' : k < x5.length := by omega
     have e5 : ∀ z, x5.getD (k : Int).toNat z = x5[k] := fun z => by simp [hk']
     simp only [e5]; have h7 := g7 k hk'; generalize x5[k] = e at *; have hq : decide (e = (i : Int)) = (decide (x2 = 5) && decide ((k : Int) = 0)) := by
      rw [Bool.eq_iff_iff, Bool.and_eq_true, decide_eq_true_eq, decide_eq_true_eq, decide_eq_true_eq]; omega
     (repeat' with_reducible first | refine And.intro ?_ ?_ | intro _) <;> try first | with_reducible (first | assumption | omega | contradiction) | decide
     all_goals first
      | omega
      | (have h : (¬0 ≤ e ∨ ¬e ≤ (ns.length : Int) - 1) ∨ ¬decide (e = (i : Int)) = (decide (x2 = 5) && decide ((k : Int) = 0)) := by assumption
         rcases h with h | h
         · omega
         · exact absurd hq h)
      | (refine dA0 ⟨k + 1, by omega⟩ ?_ (by dsimp only; omega)
         simp only [go_sem]
         try rfl
         done)
   · refine fun _ => ⟨fun _ => by omega, fun _ _ => ⟨fun _ => by omega, fun _ _ h => absurd h.2 (g8 (by omega))⟩⟩)
def con90 : Con := { ps := [.d true yLY], rs := [.d false .bool], pre := fun (x : Ly × Unit) => GoodL x.1, out := fun _ => (true, ()), nw := id }
theorem c90 : CtrOk Tryz.prog 90 con90.ctr :=
 aA0 eA0 eN rfl Tryz.func90 rfl con90 1240357893302510136500175871 (by kernel_rfl) (by decide) (by decide) rfl (by decide) rfl (by
  rintro ⟨⟨(ns : List Nd), (ds : List Dv)⟩, _⟩ hpre hwf X hT hG hk hK; have hg : GoodL (ns, ds) := hpre
  (simp -implicitDefEqProofs (maxSteps := 4000000) only [go_sem, bP, con90, hT, hG, hk, hK, Tryz.results90] at hwf ⊢); (try simp (disch := decide +kernel) only [drawn, true_and, and_true])
  clear hwf; refine cA0 ⟨{ i : Nat // i ≤ ns.length }, 1000, fun i => [(1, .one (.loc 64 0)), (3, .one (.int .i64 i.1))], fun i => [(64, .cells 30 [.sl yNO ns false, .sl yPL ds false])], fun i => ns.length - i.1⟩ ⟨0, Nat.zero_le _⟩ ?_ ?_
  · simp only [go_sem]; rfl
  · rintro ⟨i, (hi : i ≤ ns.length)⟩
    (simp -implicitDefEqProofs (maxSteps := 4000000) only [go_sem, bP, con90, hT, hG, hk, hK, Tryz.results90]); (try simp (disch := decide +kernel) only [drawn, true_and, and_true])
    · intro _ hlt; have hi' : i < ns.length := by omega
      have ek : ∀ z, ns.getD (i : Int).toNat z = ns[i] := fun z => by simp [hi']
      have ha : NdAt ns i ns[i] := hg.at hi'; simp only [ek]; generalize ns[i] = x at *; obtain ⟨x1, (x2 : Int), (x3 : Int), (x4 : Int), (x5 : List Int)⟩ := x; obtain ⟨g1, g2, g3, g4, g5, g6, g7, g8, g9, g10, g11, g12⟩ := ha; dsimp only at g1 g2 g3 g4 g5 g6 g7 g8 g9 g10 g11 g12; dsimp only; have gx : ∀ (k : Nat) (h : k < x5.length), 0 ≤ x5[k] ∧ x5[k] < ns.length := fun k h => by have := g7 k h; omega
      (repeat' with_reducible first | refine And.intro ?_ ?_ | intro _) <;> try first | with_reducible (first | assumption | omega | contradiction) | decide
      all_goals first
       | (exfalso; omega)
       | skip
      all_goals refine cA0 ⟨{ k : Nat // k ≤ x5.length }, 2000, fun k => [(1, .one (.loc 64 0)), (3, .one (.int .i64 i)), (4, .one (.loc 65 0)), (7, .one (.int .i64 k.1))], fun k => [(64, .cells 30 [.sl yNO ns false, .sl yPL ds false]), (65, .cells 56 [.str x1, .int .i64 x2, .int .i64 x3, .int .i64 x4, .sl yI x5 false])], fun k => x5.length - k.1⟩ ⟨0, Nat.zero_le _⟩ ?_ ?_
      all_goals first
       | (simp only [go_sem]
          try first | rfl | (and_intros <;> first | trivial | rfl | omega)
          done)
       | skip
      all_goals
       rintro ⟨k, (hkl : k ≤ x5.length)⟩
       (simp -implicitDefEqProofs (maxSteps := 4000000) only [go_sem, bP, con90, hT, hG, hk, hK, Tryz.results90]); (try simp (disch := decide +kernel) only [drawn, true_and, and_true])
       refine fun _ => ⟨fun hlt => ?_, fun hge => ?_⟩
       · have hk' : k < x5.length := by omega
         have e5 : ∀ z, x5.getD (k : Int).toNat z = x5[k] := fun z => by simp [hk']
         simp only [e5]; have h7 := gx k hk'; have h11 := g11 k hk'; obtain ⟨y, ey⟩ : ∃ y, ns.getD (x5[k]).toNat nd0 = y := ⟨_, rfl⟩; have ey' : ns.getD (x5[k]).toNat (ByteArray.empty, 0, 0, 0, []) = y := ey; rw [ey] at h11; simp only [ey']; generalize x5[k] = e at *; have h11a : ¬ y.2.1 = 1 := h11.1; have h11b : (x2 = 6 ∧ k = 1 ∧ y.2.2.2.1 = 1) ∨ (¬ (x2 = 6 ∧ k = 1) ∧ y.2.2.2.1 = x4) := by
          have := h11.2; split at this
          · exact .inl ⟨by omega, by omega, this⟩
          · exact .inr ⟨by assumption, this⟩
         clear g7 gx g11 h11
         (repeat' with_reducible first | refine And.intro ?_ ?_ | intro _) <;> try first | with_reducible (first | assumption | omega | contradiction) | decide
         all_goals first
          | (exfalso; omega)
          | (refine dA0 ⟨k + 1, by omega⟩ ?_ (by dsimp only; omega)
             simp only [go_sem]
             try rfl
             done)
       · refine ⟨by omega, ?_⟩; refine dA0 ⟨i + 1, by omega⟩ ?_ (by dsimp only; omega); simp only [go_sem]; rfl)
theorem oC9 (m : Nat) (x : Int) : (upL 0 m).any (fun y => decide (x = y)) = decide (0 ≤ x ∧ x < m) := by
 rw [Bool.eq_iff_iff, List.any_eq_true, decide_eq_true_eq]; constructor
 · rintro ⟨y, hy, h⟩; rw [upL_mem] at hy; have : x = y := by simpa using h
   omega
 · rintro ⟨h1, h2⟩; exact ⟨x, upL_mem.2 ⟨h1, by omega⟩, by simp⟩
theorem GoodL.leads {l : Ly} (h : GoodL l) {k : Nat} (hk : k < l.1.length) {m : Int} (hm : (decide ((k : Int) ≠ m) && (l.1.getD k nd0).2.2.2.2.any (fun y => decide (m = y))) = true) : (k : Int) < m := by
 rw [Bool.and_eq_true, decide_eq_true_eq, List.any_eq_true] at hm; obtain ⟨h1, y, hy, h2⟩ := hm; have h2 : m = y := by simpa using h2
 subst h2; rw [hA6 hk] at hy; obtain ⟨q, hq, e⟩ := List.getElem_of_mem hy; have := (h.at hk).fw q hq; omega
def con91 : Con := { ps := [.d true yLY], rs := [.o 3 yI], pre := fun (x : Ly × Unit) => GoodL x.1, out := fun (x : Ly × Unit) => (upL 0 x.1.1.length, ()), nw := id }
theorem c91 : CtrOk Tryz.prog 91 con91.ctr :=
 aA0 eA0 (eC c32 has32 (eC c113 has113 eN)) rfl Tryz.func91 rfl con91 83563957985535 (by kernel_rfl) (by decide) (by decide) rfl (by decide) rfl (by
  rintro ⟨⟨(ns : List Nd), (ds : List Dv)⟩, _⟩ hpre hwf X hT hG hk hK; have hg : GoodL (ns, ds) := hpre
  (simp -implicitDefEqProofs (maxSteps := 4000000) only [go_sem, bP, con91, con32, con113, hT, hG, hk, hK, Tryz.results91] at hwf ⊢)
  clear hwf; have hn24 : ns.length ≤ 24 := hg.n24; refine cA0 ⟨{ m : Nat // m ≤ ns.length }, 1000, fun m => [(1, .one (.loc 64 0)), (3, .one (.row 65))], fun m => [(64, .cells 30 [.sl yNO ns false, .sl yPL ds false]), (65, .row 3 yI (upL 0 m.1))], fun m => ns.length - m.1⟩ ⟨0, Nat.zero_le _⟩ ?_ ?_
  · simp only [go_sem]; simp only [upL, List.range_zero, List.map_nil]
    try first | rfl | (and_intros <;> first | trivial | rfl | omega)
  · rintro ⟨m, (hm : m ≤ ns.length)⟩
    (simp -implicitDefEqProofs (maxSteps := 4000000) only [go_sem, bP, con91, con32, con113, hT, hG, hk, hK, Tryz.results91])
    have hul := qA4 0 m; refine fun _ _ => ⟨fun hlt _ => ⟨by omega, ?_⟩, fun hge => ?_⟩
    · refine cA0 ⟨{ q : Nat × Int // q.1 ≤ ns.length ∧ (q.1 ≤ m → q.2 = m) ∧ -1 ≤ q.2 ∧ q.2 < ns.length }, 2000, fun q => [(1, .one (.loc 64 0)), (3, .one (.row 65)), (4, .one (.int .i64 q.1.2)), (5, .one (.int .i64 ((q.1.1 : Int) - 1)))], fun q => [(64, .cells 30 [.sl yNO ns false, .sl yPL ds false]), (65, .row 3 yI (upL 0 m))], fun q => q.1.1⟩ ⟨(ns.length, -1), Nat.le_refl _, fun h => by dsimp only at h; omega, by dsimp only; omega, by dsimp only; omega⟩ ?_ ?_
      · simp only [go_sem]
        try first | rfl | (and_intros <;> first | trivial | rfl | omega)
      · rintro ⟨⟨i, (v : Int)⟩, (hi : i ≤ ns.length), (hv : i ≤ m → v = m), (hv1 : -1 ≤ v), (hv2 : v < ns.length)⟩
        (simp -implicitDefEqProofs (maxSteps := 4000000) only [go_sem, bP, con91, con32, con113, hT, hG, hk, hK, Tryz.results91])
        simp only [oC9]; refine ⟨fun hge => ?_, fun hlt0 => ⟨fun hv0 => by exfalso; have := hv (by omega); omega, fun _ => ⟨by omega, ?_⟩⟩⟩
        · obtain ⟨j, rfl⟩ : ∃ j, i = j + 1 := ⟨i - 1, by omega⟩; have ej : ((j + 1 : Nat) : Int) - 1 = j := by omega
          simp only [ej]; refine cA0 ⟨{ p : Nat × Bool // p.1 ≤ ns.length ∧ (j < m → p.2 = false) ∧ (j = m → p.2 = true) }, 3000, fun p => [(1, .one (.loc 64 0)), (3, .one (.row 65)), (4, .one (.int .i64 v)), (5, .one (.int .i64 j)), (6, .one (.bool p.1.2)), (7, .one (.int .i64 p.1.1))], fun p => [(64, .cells 30 [.sl yNO ns false, .sl yPL ds false]), (65, .row 3 yI (upL 0 m))], fun p => ns.length - p.1.1⟩ ⟨(0, !decide (0 ≤ (j : Int) ∧ (j : Int) < m)), Nat.zero_le _, fun h => by simp; omega, fun h => by simp; omega⟩ ?_ ?_
          · simp only [go_sem]; rfl
          · rintro ⟨⟨k, r⟩, (hkl : k ≤ ns.length), (hr1 : j < m → r = false), (hr2 : j = m → r = true)⟩
            (simp -implicitDefEqProofs (maxSteps := 4000000) only [go_sem, bP, con91, con32, con113, hT, hG, hk, hK, Tryz.results91])
            simp only [oC9]; refine fun _ => ⟨fun hlt => ?_, fun hge => ⟨fun hr => ⟨by omega, ?_⟩, fun hr => ⟨by omega, ?_⟩⟩⟩
            · have hl := fun h => hg.leads (k := k) (m := (j : Int)) (by dsimp only; omega) h; have ekk : (k : Int).toNat = k := Int.toNat_natCast k; simp only [ekk]; refine ⟨by omega, fun hA => ⟨by omega, ?_⟩, fun hB => ⟨by omega, ?_⟩⟩
              · have hkj := hl (by rw [Bool.and_eq_true, decide_eq_true_eq]; exact hA.1); have hkm := hA.2; rw [decide_eq_false_iff_not] at hkm; refine dA0 ⟨(k + 1, false), by dsimp only; omega, fun _ => rfl, fun h => by omega⟩ ?_ (by dsimp only; omega); simp only [go_sem]; rfl
              · refine dA0 ⟨(k + 1, r), by dsimp only; omega, hr1, hr2⟩ ?_ (by dsimp only; omega); simp only [go_sem]; rfl
            · refine dA0 ⟨(j, (j : Int)), by dsimp only; omega, fun h => ?_, by dsimp only; omega, by dsimp only; omega⟩ ?_ (by dsimp only; omega)
              · have := hr1; rw [hr] at this; have h' : ¬ j < m := fun q => by have := this q; cases this
                dsimp only at h ⊢; omega
              · simp only [go_sem]
                try first | rfl | (and_intros <;> first | trivial | rfl | omega)
            · refine dA0 ⟨(j, v), by dsimp only; omega, fun h => ?_, hv1, hv2⟩ ?_ (by dsimp only; omega)
              · by_cases e : j = m
                · have := hr2 e; rw [hr] at this; cases this
                · exact hv (by dsimp only at h; omega)
              · simp only [go_sem]
                try first | rfl | (and_intros <;> first | trivial | rfl | omega)
        · have hv' := hv (by omega); refine dA0 ⟨m + 1, by omega⟩ ?_ (by dsimp only; omega); simp only [go_sem]; rw [fA7, hv', Int.zero_add]
          try first | rfl | (and_intros <;> first | trivial | rfl | omega)
    · have : m = ns.length := by omega
      subst this; rfl)
def con51 : Con := { ps := [.d true yLY], rs := [.d false yI], pre := fun (x : Ly × Unit) => GoodL x.1, out := fun _ => (0, ()), nw := id }
theorem c51 : CtrOk Tryz.prog 51 con51.ctr :=
 aA0 eA0 (eC c52 has52 (eC c59 has59 (eC c89 has89 (eC c90 has90 (eC c91 has91 (eC c92 has92 eN)))))) rfl Tryz.func51 rfl con51 871144812348725303633489163755958419064831 (by kernel_rfl) (by decide) (by decide) rfl (by decide) rfl (by
  rintro ⟨⟨(ns : List Nd), (ds : List Dv)⟩, _⟩ hpre hwf X hT hG hk hK; have hg : GoodL (ns, ds) := hpre
  (simp -implicitDefEqProofs (maxSteps := 4000000) only [go_sem, bP, con51, con52, con59, con89, con90, con91, con92, hT, hG, hk, hK, Tryz.results51] at hwf ⊢); (try simp (disch := decide +kernel) only [drawn, true_and, and_true])
  clear hwf; have hn1 : 1 ≤ ns.length := hg.n1; have hn24 : ns.length ≤ 24 := hg.n24; have hd := hg.dv; have hd24 : ds.length ≤ 24 := hd.len; refine fun _ _ => ⟨fun h => by omega, fun _ => ?_⟩; refine cA0 ⟨{ q : Nat × Int // q.1 ≤ ns.length ∧ 0 ≤ q.2 ∧ q.2 ≤ q.1 ∧ (0 < q.1 → 1 ≤ q.2) }, 1000, fun q => [(1, .one (.loc 64 0)), (3, .one (.int .i64 q.1.2)), (4, .one (.int .i64 q.1.1))], fun q => [(64, .cells 30 [.sl yNO ns false, .sl yPL ds false])], fun q => ns.length - q.1.1⟩ ⟨(0, 0), Nat.zero_le _, by decide, by decide, fun h => by cases h⟩ ?_ ?_
  · simp only [go_sem]; rfl
  · rintro ⟨⟨i, (c : Int)⟩, (hi : i ≤ ns.length), (hc0 : 0 ≤ c), (hc1 : c ≤ i), (hc2 : 0 < i → 1 ≤ c)⟩
    (simp -implicitDefEqProofs (maxSteps := 4000000) only [go_sem, bP, con51, con52, con59, con89, con90, con91, con92, hT, hG, hk, hK, Tryz.results51]); (try simp (disch := decide +kernel) only [drawn, true_and, and_true])
    refine fun _ => ⟨fun hlt => ?_, fun hge => ?_⟩
    · have hi' : i < ns.length := by omega
      have ek : ∀ z, ns.getD (i : Int).toNat z = ns[i] := fun z => by simp [hi']
      simp only [ek]; have hen : i = 0 → (ns[i]).2.1 = 1 := fun h => by
       subst h; have := hg.en; dsimp only at this
       rwa [hA6 hi'] at this
      (repeat' with_reducible first | refine And.intro ?_ ?_ | intro _) <;> try first | with_reducible (first | assumption | omega | contradiction) | decide
      all_goals first
       | exact hg
       | omega
       | (refine dA0 ⟨(i + 1, c + 1), by dsimp only; omega, by dsimp only; omega, by dsimp only; omega, fun _ => by dsimp only; omega⟩ ?_ (by dsimp only; omega)
          simp only [go_sem]
          try first | rfl | (and_intros <;> first | trivial | rfl | omega)
          done)
       | (refine dA0 ⟨(i + 1, c), by dsimp only; omega, by dsimp only; omega, by dsimp only; omega, fun _ => by dsimp only; by_cases h : i = 0 <;> omega⟩ ?_ (by dsimp only; omega)
          simp only [go_sem]
          try rfl
          done)
    · have hc : 1 ≤ c := hc2 (by omega); have htot : totV ns ≤ 80 := hg.tot; refine ⟨hg, fun _ => ⟨fun h => by omega, fun _ => ?_⟩⟩; refine cA0 ⟨{ i : Nat // i ≤ ns.length }, 2000, fun q => [(1, .one (.loc 64 0)), (3, .one (.int .i64 c)), (6, .one (.int .i64 q.1))], fun q => [(64, .cells 30 [.sl yNO ns false, .sl yPL ds false])], fun q => ns.length - q.1⟩ ⟨0, Nat.zero_le _⟩ ?_ ?_
      · simp only [go_sem]; rfl
      · rintro ⟨i, (hi : i ≤ ns.length)⟩
        (simp -implicitDefEqProofs (maxSteps := 4000000) only [go_sem, bP, con51, con52, con59, con89, con90, con91, con92, hT, hG, hk, hK, Tryz.results51]); (try simp (disch := decide +kernel) only [drawn, true_and, and_true])
        refine fun _ => ⟨fun hlt => ?_, fun hge => ?_⟩
        · have hi' : i < ns.length := by omega
          have ek : ∀ z, ns.getD (i : Int).toNat z = ns[i] := fun z => by simp [hi']
          have hfd : idxV (fun y : Nd => decide (y.1 = (ns[i]).1)) ns = i := hg.find hi'; simp only [ek, hfd]
          (repeat' with_reducible first | refine And.intro ?_ ?_ | intro _) <;> try first | with_reducible (first | assumption | omega | contradiction) | decide
          all_goals first
           | omega
           | (refine dA0 ⟨i + 1, by omega⟩ ?_ (by dsimp only; omega)
              simp only [go_sem]
              try rfl
              done)
        · have hul := qA4 0 ns.length; refine ⟨hg, fun h => h.elim, hg, fun _ _ _ => ⟨fun h => by omega, fun _ => ?_⟩⟩; refine cA0 ⟨{ i : Nat // i ≤ ds.length }, 3000, fun q => [(1, .one (.loc 64 0)), (3, .one (.int .i64 c)), (7, .one (.int .i64 q.1))], fun q => [(64, .cells 30 [.sl yNO ns false, .sl yPL ds false])], fun q => ds.length - q.1⟩ ⟨0, Nat.zero_le _⟩ ?_ ?_
          · simp only [go_sem]; rfl
          · rintro ⟨i, (hi : i ≤ ds.length)⟩
            (simp -implicitDefEqProofs (maxSteps := 4000000) only [go_sem, bP, con51, con52, con59, con89, con90, con91, con92, hT, hG, hk, hK, Tryz.results51]); (try simp (disch := decide +kernel) only [drawn, true_and, and_true])
            refine fun _ => ⟨fun hlt => ?_, fun hge => ?_⟩
            · have hi' : i < ds.length := by omega
              have ek : ∀ z, ds.getD (i : Int).toNat z = ds[i] := fun z => by simp [hi']
              have hdi := hd.ok ds[i] (List.getElem_mem hi'); simp only [ek]; obtain ⟨y, ey⟩ : ∃ y, ns.getD (ds[i].2.1).toNat nd0 = y := ⟨_, rfl⟩; have ey' : ns.getD (ds[i].2.1).toNat (ByteArray.empty, 0, 0, 0, []) = y := ey; dsimp only at hdi; rw [ey] at hdi; simp only [ey']
              (repeat' with_reducible first | refine And.intro ?_ ?_ | intro _) <;> try first | with_reducible (first | assumption | omega | contradiction) | decide
              all_goals first
               | omega
               | (refine dA0 ⟨i + 1, by omega⟩ ?_ (by dsimp only; omega)
                  simp only [go_sem]
                  try rfl
                  done)
            · refine cA0 ⟨{ i : Nat // i ≤ ds.length }, 4000, fun q => [(1, .one (.loc 64 0)), (3, .one (.int .i64 c)), (9, .one (.int .i64 q.1))], fun q => [(64, .cells 30 [.sl yNO ns false, .sl yPL ds false])], fun q => ds.length - q.1⟩ ⟨0, Nat.zero_le _⟩ ?_ ?_
              · simp only [go_sem]; rfl
              · rintro ⟨i, (hi : i ≤ ds.length)⟩
                (simp -implicitDefEqProofs (maxSteps := 4000000) only [go_sem, bP, con51, con52, con59, con89, con90, con91, con92, hT, hG, hk, hK, Tryz.results51]); (try simp (disch := decide +kernel) only [drawn, true_and, and_true])
                refine fun _ => ⟨fun hlt => ?_, fun hge => ?_⟩
                · refine cA0 ⟨{ k : Nat // k ≤ i }, 5000, fun q => [(1, .one (.loc 64 0)), (3, .one (.int .i64 c)), (9, .one (.int .i64 i)), (10, .one (.int .i64 q.1))], fun q => [(64, .cells 30 [.sl yNO ns false, .sl yPL ds false])], fun q => i - q.1⟩ ⟨0, Nat.zero_le _⟩ ?_ ?_
                  · simp only [go_sem]; rfl
                  · rintro ⟨k, (hki : k ≤ i)⟩
                    (simp -implicitDefEqProofs (maxSteps := 4000000) only [go_sem, bP, con51, con52, con59, con89, con90, con91, con92, hT, hG, hk, hK, Tryz.results51]); (try simp (disch := decide +kernel) only [drawn, true_and, and_true])
                    have hi' : i < ds.length := by omega
                    have ek : ∀ z, ds.getD (i : Int).toNat z = ds[i] := fun z => by simp [hi']
                    simp only [ek]; refine ⟨fun hlt => ?_, fun hge => ?_⟩
                    · have hk' : k < ds.length := by omega
                      have ek2 : ∀ z, ds.getD (k : Int).toNat z = ds[k] := fun z => by simp [hk']
                      simp only [ek2]; have hne : ¬ (ds[i].1 = ds[k].1 ∧ ds[i].2.1 = ds[k].2.1 ∧ ds[i].2.2 = ds[k].2.2) := fun h => by
                       have e : ds[i] = ds[k] := by
                        obtain ⟨h1, h2, h3⟩ := h; exact Prod.ext h1 (Prod.ext h2 h3)
                       have := (List.getElem_inj hd.nd).1 e; omega
                      (repeat' with_reducible first | refine And.intro ?_ ?_ | intro _) <;> try first | with_reducible (first | assumption | omega | contradiction) | decide
                      all_goals first
                       | omega
                       | (refine dA0 ⟨k + 1, by omega⟩ ?_ (by dsimp only; omega)
                          simp only [go_sem]
                          try rfl
                          done)
                    · refine ⟨by omega, ?_⟩; refine dA0 ⟨i + 1, by omega⟩ ?_ (by dsimp only; omega); simp only [go_sem]; rfl
                · intro h; omega)
def con80 : Con := { ps := [.d true yLY], rs := [.d false (.sl yI)], pre := fun (x : Ly × Unit) => GoodL x.1, out := fun (x : Ly × Unit) => (upL 0 x.1.1.length, ()), nw := id }
theorem c80 : CtrOk Tryz.prog 80 con80.ctr :=
 aA0 eA0 (eC c51 has51 (eC c91 has91 eN)) rfl Tryz.func80 rfl con80 39 (by kernel_rfl) (by decide) (by decide) rfl (by decide) rfl (by
  rintro ⟨⟨(ns : List Nd), (ds : List Dv)⟩, _⟩ hpre hwf X hT hG hk hK; have hg : GoodL (ns, ds) := hpre
  (simp -implicitDefEqProofs (maxSteps := 4000000) only [go_sem, bP, con80, con51, con91, hT, hG, hk, hK, Tryz.results80] at hwf ⊢)
  exact ⟨hg, fun _ => ⟨fun h => h.elim, hg⟩⟩)
def con24 : Con := { ps := [.d true yLY], rs := [.d false yI], pre := fun (x : Ly × Unit) => GoodL x.1, out := fun (x : Ly × Unit) => (totV x.1.1, ()), nw := id }
theorem c24 : CtrOk Tryz.prog 24 con24.ctr :=
 aA0 eA0 (eC c51 has51 (eC c52 has52 eN)) rfl Tryz.func24 rfl con24 39 (by kernel_rfl) (by decide) (by decide) rfl (by decide) rfl (by
  rintro ⟨⟨(ns : List Nd), (ds : List Dv)⟩, _⟩ hpre hwf X hT hG hk hK; have hg : GoodL (ns, ds) := hpre
  (simp -implicitDefEqProofs (maxSteps := 4000000) only [go_sem, bP, con24, con51, con52, hT, hG, hk, hK, Tryz.results24] at hwf ⊢)
  exact ⟨hg, fun _ => ⟨fun h => h.elim, hg⟩⟩)
end Go.Proofs.YtabadacjbkhmkaaGreatDoor
