/- Part. -/
import Derived.Test.YtabadacjbkhmkaaGreatDoorCnFToH
set_option linter.all false
set_option maxRecDepth 100000
set_option maxHeartbeats 8000000
namespace Go.Proofs.YtabadacjbkhmkaaGreatDoor
open Go.Ev
def fwE (i : Int) (es : List Int) : List Int := es.filter (fun x => decide (x ≠ i))
def edg : Nat → List Nd → List Int
 | _, [] => []
 | i, x :: xs => fwE i x.2.2.2.2 ++ edg (i + 1) xs
theorem uC3 : ∀ (a b : List Nd) (i : Nat), edg i (a ++ b) = edg i a ++ edg (i + a.length) b
 | [], b, i => by simp [edg]
 | x :: a, b, i => by
   simp only [List.cons_append, edg, uC3 a b (i + 1), List.append_assoc, List.length_cons]; rw [show i + 1 + a.length = i + (a.length + 1) by omega]
theorem eC5 {ns : List Nd} {i : Nat} (h : i < ns.length) : edg 0 (ns.take (i + 1)) = edg 0 (ns.take i) ++ fwE i ns[i].2.2.2.2 := by
 rw [tsE h, uC3, List.length_take]; simp only [edg, List.append_nil]; rw [show 0 + min i ns.length = i by omega]
theorem yB6 {ns : List Nd} {i : Nat} (h : i < ns.length) : edg i (ns.drop i) = fwE i ns[i].2.2.2.2 ++ edg (i + 1) (ns.drop (i + 1)) := by
 rw [List.drop_eq_getElem_cons h]; rfl
theorem xB5 (i : Int) (es : List Int) : (fwE i es).length ≤ es.length := List.length_filter_le _ _
theorem nC5 {i : Int} {es : List Int} {q : Nat} (h : q < es.length) : fwE i (es.take (q + 1)) = fwE i (es.take q) ++ (if es[q] ≠ i then [es[q]] else []) := by
 unfold fwE; rw [tsE h, List.filter_append]; by_cases e : es[q] = i
 · rw [List.filter_cons_of_neg (by simp [e]), if_neg (by simp [e])]; rfl
 · rw [List.filter_cons_of_pos (by simp [e]), if_pos e]; rfl
theorem oC7 {i : Int} {es : List Int} {q : Nat} (h : q < es.length) : fwE i (es.drop q) = (if es[q] ≠ i then [es[q]] else []) ++ fwE i (es.drop (q + 1)) := by
 unfold fwE; rw [List.drop_eq_getElem_cons h]; by_cases e : es[q] = i
 · rw [List.filter_cons_of_neg (by simp [e]), if_neg (by simp [e])]; rfl
 · rw [List.filter_cons_of_pos (by simp [e]), if_pos e]; rfl
theorem jB1 : ∀ (ns : List Nd) (i : Nat), (∀ y ∈ ns, y.2.2.2.2.length ≤ 2) → (edg i ns).length ≤ 2 * ns.length
 | [], i, _ => by simp [edg]
 | x :: xs, i, h => by
   have h1 := jB1 xs (i + 1) fun y hy => h y (List.mem_cons_of_mem _ hy); have h2 := h x List.mem_cons_self; have h3 := xB5 i x.2.2.2.2; simp only [edg, List.length_append, List.length_cons]; omega
def mgI (Z : List (Int × Int)) (k : Int) : Int := (mget (kt := .int .i64) Z k).getD 0
def MapC (Z : List (Int × Int)) (L : List Int) : Prop := ∀ k, mgI Z k = (L.count k : Nat)
theorem lA7 (k k' v : Int) : ∀ Z : List (Int × Int), mgI (mset (kt := .int .i64) Z k v) k' = if k' = k then v else mgI Z k'
 | [] => by
   show (if decide (k' = k) then some v else none : Option Int).getD 0 = _
   by_cases h : k' = k <;> simp [h, mgI, mget]
 | (a, u) :: r => by
   have ih := lA7 k k' v r; unfold mgI at ih ⊢; show (mget (kt := .int .i64) (if decide (k = a) then (k, v) :: r else (a, u) :: mset (kt := .int .i64) r k v) k').getD 0 = _; by_cases h : k = a
   · subst h; rw [if_pos (by simp)]; show (if decide (k' = k) then some v else mget (kt := .int .i64) r k' : Option Int).getD 0 = if k' = k then v else (if decide (k' = k) then some u else mget (kt := .int .i64) r k' : Option Int).getD 0
     by_cases h : k' = k <;> simp [h]
   · rw [if_neg (by simp [h])]; show (if decide (k' = a) then some u else mget (kt := .int .i64) (mset (kt := .int .i64) r k v) k' : Option Int).getD 0 = if k' = k then v else (if decide (k' = a) then some u else mget (kt := .int .i64) r k' : Option Int).getD 0
     by_cases e : k' = a
     · subst e; rw [if_pos (by simp), if_neg (fun q => h q.symm), if_pos (by simp)]
     · simp only [decide_eq_true_eq]; rw [if_neg e, if_neg e]; exact ih
theorem MapC.nil : MapC [] [] := fun k => rfl
theorem MapC.add {Z L} (h : MapC Z L) (k : Int) {v : Int} (hv : v = mgI Z k + 1) : MapC (mset (kt := .int .i64) Z k v) (L ++ [k]) := by
 intro k'; rw [lA7, List.count_append, List.count_singleton]; subst hv; rw [h, h]; by_cases e : k' = k
 · subst e; simp
 · rw [if_neg e, if_neg (by simpa using fun q => e q.symm)]; omega
theorem MapC.sub {Z L} {k : Int} (h : MapC Z (k :: L)) {v : Int} (hv : v = mgI Z k - 1) : MapC (mset (kt := .int .i64) Z k v) L := by
 intro k'; rw [lA7]; subst hv; rw [h, h, List.count_cons_self]; by_cases e : k' = k
 · subst e; rw [if_pos rfl]; omega
 · rw [if_neg e, List.count_cons_of_ne (fun q => e q.symm)]
theorem MapC.le {Z L} (h : MapC Z L) (k : Int) : 0 ≤ mgI Z k ∧ mgI Z k ≤ L.length := by
 have := List.count_le_length (a := k) (l := L); rw [h]; omega
theorem GoodL.two {l : Ly} (h : GoodL l) : ∀ y ∈ l.1, y.2.2.2.2.length ≤ 2 := by
 intro y hy; obtain ⟨i, hi, rfl⟩ := List.getElem_of_mem hy; have g := (h.at hi).ex; rw [g]; unfold exN; split
 · omega
 · split <;> omega
theorem GoodL.noback {l : Ly} (h : GoodL l) : ∀ (d m : Nat), m + d = l.1.length → ∀ k : Nat, k ≤ m → (edg m (l.1.drop m)).count (k : Int) = 0
 | 0, m, hm, k, hk => by rw [List.drop_eq_nil_of_le (by omega)]; rfl
 | d + 1, m, hm, k, hk => by
   have hm' : m < l.1.length := by omega
   rw [yB6 hm', List.count_append, GoodL.noback h d (m + 1) (by omega) k (by omega), Nat.add_zero]; rw [List.count_eq_zero]; intro hc; unfold fwE at hc; rw [List.mem_filter, decide_eq_true_eq] at hc; obtain ⟨q, hq, e⟩ := List.getElem_of_mem hc.1; have := (h.at hm').fw q hq; rw [e] at this; have := hc.2; omega
def dnL (m n : Nat) : List Bool := List.replicate m true ++ List.replicate (n - m) false
theorem pD4 (n : Nat) : dnL 0 n = List.replicate n false := rfl
theorem eD0 {m n : Nat} (h : m ≤ n) : (dnL m n).length = n := by
 unfold dnL; rw [List.length_append, List.length_replicate, List.length_replicate]; omega
theorem vD0 {m n i : Nat} (h : i < n) (hm : m ≤ n) (z : Bool) : (dnL m n).getD i z = decide (i < m) := by
 have hl : i < (List.replicate m true ++ List.replicate (n - m) false).length := by rw [List.length_append, List.length_replicate, List.length_replicate]; omega
 unfold dnL; rw [gdE, List.getElem?_eq_getElem hl, Option.getD_some, List.getElem_append]; by_cases e : i < m
 · rw [dif_pos (by rw [List.length_replicate]; exact e), List.getElem_replicate]; simp [e]
 · rw [dif_neg (by rw [List.length_replicate]; exact e), List.getElem_replicate]; simp [e]
theorem yC8 {m n : Nat} (h : m < n) : (dnL m n).set m true = dnL (m + 1) n := by
 unfold dnL; rw [List.set_append_right _ _ (by rw [List.length_replicate]; omega), List.length_replicate, Nat.sub_self]; rw [show n - m = (n - (m + 1)) + 1 by omega, List.replicate_succ, List.set_cons_zero, List.replicate_succ']; simp
def con67 : Con := { ps := [.d true yLY], rs := [.o 3 yI], pre := fun (x : Ly × Unit) => GoodL x.1, out := fun (x : Ly × Unit) => (upL 0 x.1.1.length, ()), nw := id }
theorem c67 : CtrOk Tryz.prog 67 con67.ctr :=
 aA0 eA0 eN rfl Tryz.func67 rfl con67 655238107833905860253265855 (by kernel_rfl) (by decide) (by decide) rfl (by decide) rfl (by
  rintro ⟨⟨(ns : List Nd), (ds : List Dv)⟩, _⟩ hpre hwf X hT hG hk hK; have hg : GoodL (ns, ds) := hpre
  (simp -implicitDefEqProofs (maxSteps := 4000000) only [go_sem, bP, con67, hT, hG, hk, hK, Tryz.results67] at hwf ⊢)
  clear hwf; have hn24 : ns.length ≤ 24 := hg.n24; have h2 := hg.two; refine fun _ => cA0 ⟨{ q : Nat × List (Int × Int) // q.1 ≤ ns.length ∧ MapC q.2 (edg 0 (ns.take q.1)) }, 1000, fun q => [(1, .one (.loc 64 0)), (3, .one (.map 65)), (16, .one (.sl yNO ns false)), (17, .one (.int .i64 ns.length)), (18, .one (.int .i64 q.1.1))], fun q => [(64, .cells 30 [.sl yNO ns false, .sl yPL ds false]), (65, .mapb yI yI false false q.1.2)], fun q => ns.length - q.1.1⟩ ⟨(0, []), Nat.zero_le _, MapC.nil⟩ ?_ ?_
  · simp only [go_sem]; rfl
  · rintro ⟨⟨i, Z⟩, (hi : i ≤ ns.length), (hZ : MapC Z (edg 0 (ns.take i)))⟩
    (simp -implicitDefEqProofs (maxSteps := 4000000) only [go_sem, bP, con67, hT, hG, hk, hK, Tryz.results67])
    refine ⟨fun hlt => ?_, fun hge => ?_⟩
    · have hi' : i < ns.length := by omega
      have ek : ∀ z, ns.getD (i : Int).toNat z = ns[i] := fun z => by simp [hi']
      have hx2 := h2 ns[i] (List.getElem_mem hi'); have hle := jB1 (ns.take i) 0 fun y hy => h2 y (List.mem_of_mem_take hy); have het := eC5 hi'; rw [List.length_take] at hle; simp only [ek]; generalize ns[i] = x at *; obtain ⟨x1, (x2 : Int), (x3 : Int), (x4 : Int), (x5 : List Int)⟩ := x; dsimp only at hx2 het ⊢
      (repeat' with_reducible first | refine And.intro ?_ ?_ | intro _) <;> try first | with_reducible (first | assumption | omega | contradiction) | decide
      refine cA0 ⟨{ q : Nat × List (Int × Int) // q.1 ≤ x5.length ∧ MapC q.2 (edg 0 (ns.take i) ++ fwE i (x5.take q.1)) }, 2000, fun q => [(1, .one (.loc 64 0)), (3, .one (.map 65)), (4, .one (.int .i64 i)), (16, .one (.sl yNO ns false)), (17, .one (.int .i64 ns.length)), (18, .one (.int .i64 i)), (24, .one (.sl yI x5 false)), (25, .one (.int .i64 x5.length)), (26, .one (.int .i64 q.1.1))], fun q => [(64, .cells 30 [.sl yNO ns false, .sl yPL ds false]), (65, .mapb yI yI false false q.1.2)], fun q => x5.length - q.1.1⟩ ⟨(0, Z), Nat.zero_le _, by simpa [fwE] using hZ⟩ ?_ ?_
      · simp only [go_sem]; rfl
      · rintro ⟨⟨k, Z⟩, (hkl : k ≤ x5.length), (hZ : MapC Z (edg 0 (ns.take i) ++ fwE i (x5.take k)))⟩
        (simp -implicitDefEqProofs (maxSteps := 4000000) only [go_sem, bP, con67, hT, hG, hk, hK, Tryz.results67])
        refine ⟨fun hlt => ?_, fun hge => ?_⟩
        · have hk' : k < x5.length := by omega
          have e5 : ∀ z, x5.getD (k : Int).toNat z = x5[k] := fun z => by simp [hk']
          have hft := nC5 (i := (i : Int)) hk'; have hfl := xB5 i (x5.take k); rw [List.length_take] at hfl; have hml := hZ.le x5[k]; rw [List.length_append] at hml; simp only [e5]; have emg : ∀ (Z : List (Int × Int)) k, (mget (kt := .int .i64) Z k).getD 0 = mgI Z k := fun _ _ => rfl; simp only [emg]; generalize x5[k] = e at *
          (repeat' with_reducible first | refine And.intro ?_ ?_ | intro _) <;> try first | with_reducible (first | assumption | omega | contradiction) | decide
          all_goals first
           | omega
           | (have h : ¬ e = (i : Int) := by assumption
              rw [if_pos h] at hft; refine dA0 ⟨(k + 1, mset (kt := .int .i64) Z e (mgI Z e + 1)), by dsimp only; omega, by dsimp only; rw [hft, ← List.append_assoc]; exact hZ.add e rfl⟩ ?_ (by dsimp only; omega); simp only [go_sem]
              try rfl
              done)
           | (have h : e = (i : Int) := by omega
              rw [if_neg (fun q => q h), List.append_nil] at hft; refine dA0 ⟨(k + 1, Z), by dsimp only; omega, by dsimp only; rw [hft]; exact hZ⟩ ?_ (by dsimp only; omega); simp only [go_sem]
              try rfl
              done)
        · have : k = x5.length := by omega
          subst this; rw [List.take_length, ← het] at hZ
          (repeat' with_reducible first | refine And.intro ?_ ?_ | intro _) <;> try first | with_reducible (first | assumption | omega | contradiction) | decide
          all_goals first
           | omega
           | (refine dA0 ⟨(i + 1, Z), by dsimp only; omega, hZ⟩ ?_ (by dsimp only; omega)
              simp only [go_sem]
              try rfl
              done)
    · have : i = ns.length := by omega
      subst this; rw [List.take_length] at hZ; have hul := dA4; refine fun _ => ⟨⟨by omega, by omega, by omega⟩, fun _ => ?_⟩; refine cA0 ⟨{ q : Nat × List (Int × Int) // q.1 ≤ ns.length ∧ MapC q.2 (edg q.1 (ns.drop q.1)) }, 3000, fun q => [(1, .one (.loc 64 0)), (3, .one (.map 65)), (8, .one (.row 66)), (9, .one (.row 67)), (45, .one (.int .i64 ns.length)), (46, .one (.int .i64 q.1.1))], fun q => [(64, .cells 30 [.sl yNO ns false, .sl yPL ds false]), (65, .mapb yI yI false false q.1.2), (66, .row 3 yI (upL 0 q.1.1)), (67, .row 4 .bool (dnL q.1.1 ns.length))], fun q => ns.length - q.1.1⟩ ⟨(0, Z), Nat.zero_le _, by simpa using hZ⟩ ?_ ?_
      · simp only [go_sem]; simp only [upL, List.range_zero, List.map_nil, pD4]
        try first | rfl | (and_intros <;> first | trivial | rfl | omega)
      · rintro ⟨⟨m, Z⟩, (hm : m ≤ ns.length), (hZ : MapC Z (edg m (ns.drop m)))⟩
        (simp -implicitDefEqProofs (maxSteps := 4000000) only [go_sem, bP, con67, hT, hG, hk, hK, Tryz.results67])
        have hul := dA4 0 m; have hdl := eD0 (n := ns.length) hm; refine ⟨fun hlt => ?_, fun hge => ?_⟩
        · have hm' : m < ns.length := by omega
          intro _; refine cA0 ⟨{ i : Nat // i ≤ m }, 4000, fun i => [(1, .one (.loc 64 0)), (3, .one (.map 65)), (8, .one (.row 66)), (9, .one (.row 67)), (10, .one (.int .i64 (-1))), (45, .one (.int .i64 ns.length)), (46, .one (.int .i64 m)), (50, .one (.int .i64 ns.length)), (51, .one (.int .i64 i.1))], fun q => [(64, .cells 30 [.sl yNO ns false, .sl yPL ds false]), (65, .mapb yI yI false false Z), (66, .row 3 yI (upL 0 m)), (67, .row 4 .bool (dnL m ns.length))], fun i => m - i.1⟩ ⟨0, Nat.zero_le _⟩ ?_ ?_
          · simp only [go_sem]; rfl
          · rintro ⟨i, (hi : i ≤ m)⟩
            (simp -implicitDefEqProofs (maxSteps := 4000000) only [go_sem, bP, con67, hT, hG, hk, hK, Tryz.results67])
            have emg : ∀ (Z : List (Int × Int)) k, (mget (kt := .int .i64) Z k).getD 0 = mgI Z k := fun _ _ => rfl; simp only [emg]; have hnb : mgI Z m = 0 := by
             rw [hZ, hg.noback (ns.length - m) m (by dsimp only; omega) m (Nat.le_refl _)]; rfl
            have hmi := hZ.le i; have hel := jB1 (ns.drop m) m fun y hy => h2 y (List.mem_of_mem_drop hy); rw [List.length_drop] at hel; have edn : ∀ z, (dnL m ns.length).getD (i : Int).toNat z = decide (i < m) := fun z => by
             rw [Int.toNat_natCast]; exact vD0 (by omega) hm z
            simp only [edn]
            rcases Nat.lt_or_eq_of_le hi with him | him
            · have ed : decide (i < m) = true := decide_eq_true him; simp only [ed, Bool.not_true, Bool.false_and]
              (repeat' with_reducible first | refine And.intro ?_ ?_ | intro _) <;> try first | with_reducible (first | assumption | omega | contradiction) | decide
              all_goals first
               | omega
               | (exfalso; have h : true = false ∧ mgI Z (i : Int) = 0 := by assumption
                  cases h.1)
               | (refine dA0 ⟨i + 1, by omega⟩ ?_ (by dsimp only; omega)
                  simp only [go_sem]
                  try rfl
                  done)
            · subst him; have ed : decide (i < i) = false := decide_eq_false (Nat.lt_irrefl i); have ek : ∀ z, ns.getD (i : Int).toNat z = ns[i] := fun z => by simp [hm']
              have hx2 := h2 ns[i] (List.getElem_mem hm'); have het := yB6 hm'; have hset : (dnL i ns.length).set (i : Int).toNat true = dnL (i + 1) ns.length := by rw [Int.toNat_natCast]; exact yC8 hm'
              simp only [ed, hnb, ek, hset]; generalize ns[i] = x at *; obtain ⟨x1, (x2 : Int), (x3 : Int), (x4 : Int), (x5 : List Int)⟩ := x; dsimp only at hx2 het ⊢
              (repeat' with_reducible first | refine And.intro ?_ ?_ | intro _) <;> try first | with_reducible (first | assumption | omega | contradiction) | decide
              all_goals first
               | omega
               | (rw [hdl]; omega)
               | skip
              all_goals refine cA0 ⟨{ q : Nat × List (Int × Int) // q.1 ≤ x5.length ∧ MapC q.2 (fwE i (x5.drop q.1) ++ edg (i + 1) (ns.drop (i + 1))) }, 6000, fun q => [(1, .one (.loc 64 0)), (3, .one (.map 65)), (8, .one (.row 66)), (9, .one (.row 67)), (10, .one (.int .i64 i)), (45, .one (.int .i64 ns.length)), (46, .one (.int .i64 i)), (81, .one (.sl yI x5 false)), (82, .one (.int .i64 x5.length)), (83, .one (.int .i64 q.1.1))], fun q => [(64, .cells 30 [.sl yNO ns false, .sl yPL ds false]), (65, .mapb yI yI false false q.1.2), (66, .row 3 yI (upL 0 (i + 1))), (67, .row 4 .bool (dnL (i + 1) ns.length))], fun q => x5.length - q.1.1⟩ ⟨(0, Z), Nat.zero_le _, by show MapC Z (fwE i (x5.drop 0) ++ _); rw [List.drop_zero, ← het]; exact hZ⟩ ?_ ?_
              all_goals first
               | (simp only [go_sem]
                  rw [dA7, Int.zero_add]
                  try first | rfl | (and_intros <;> first | trivial | rfl | omega)
                  done)
               | skip
              all_goals
               rintro ⟨⟨k, Z⟩, (hkl : k ≤ x5.length), (hZ : MapC Z (fwE i (x5.drop k) ++ edg (i + 1) (ns.drop (i + 1))))⟩
               (simp -implicitDefEqProofs (maxSteps := 4000000) only [go_sem, bP, con67, hT, hG, hk, hK, Tryz.results67])
               refine ⟨fun hlt => ?_, fun hge => ?_⟩
               · have hk' : k < x5.length := by omega
                 have e5 : ∀ z, x5.getD (k : Int).toNat z = x5[k] := fun z => by simp [hk']
                 have hft := oC7 (i := (i : Int)) hk'; have hfl := xB5 i (x5.drop k); rw [List.length_drop] at hfl; have hml := hZ.le x5[k]; have hel2 := jB1 (ns.drop (i + 1)) (i + 1) fun y hy => h2 y (List.mem_of_mem_drop hy); rw [List.length_drop] at hel2; rw [List.length_append] at hml; simp only [e5]; have emg : ∀ (Z : List (Int × Int)) k, (mget (kt := .int .i64) Z k).getD 0 = mgI Z k := fun _ _ => rfl; simp only [emg]; generalize x5[k] = e at *
                 (repeat' with_reducible first | refine And.intro ?_ ?_ | intro _) <;> try first | with_reducible (first | assumption | omega | contradiction) | decide
                 all_goals first
                  | omega
                  | (have h : ¬ e = (i : Int) := by assumption
                     rw [if_pos h] at hft; rw [hft] at hZ; refine dA0 ⟨(k + 1, mset (kt := .int .i64) Z e (mgI Z e - 1)), by dsimp only; omega, by dsimp only; exact MapC.sub hZ rfl⟩ ?_ (by dsimp only; omega); simp only [go_sem]
                     try rfl
                     done)
                  | (have h : e = (i : Int) := by omega
                     rw [if_neg (fun q => q h), List.nil_append] at hft; rw [hft] at hZ; refine dA0 ⟨(k + 1, Z), by dsimp only; omega, by dsimp only; exact hZ⟩ ?_ (by dsimp only; omega); simp only [go_sem]
                     try rfl
                     done)
               · have : k = x5.length := by omega
                 subst this; rw [List.drop_length] at hZ; have hZ : MapC Z (edg (i + 1) (ns.drop (i + 1))) := hZ
                 (repeat' with_reducible first | refine And.intro ?_ ?_ | intro _) <;> try first | with_reducible (first | assumption | omega | contradiction) | decide
                 all_goals first
                  | omega
                  | (refine dA0 ⟨(i + 1, Z), by dsimp only; omega, hZ⟩ ?_ (by dsimp only; omega)
                     simp only [go_sem]
                     try rfl
                     done)
        · have : m = ns.length := by omega
          subst this; rfl)
def con39 : Con := { ps := [.d true yLY], rs := [.d false yI], pre := fun (x : Ly × Unit) => GoodL x.1, out := fun _ => (0, ()), nw := id }
theorem c39 : CtrOk Tryz.prog 39 con39.ctr :=
 aA0 eA0 (eC c63 has63 (eC c64 has64 (eC c65 has65 (eC c66 has66 (eC c67 has67 (eC c68 has68 (eC c69 has69 (eC c70 has70 eN)))))))) rfl Tryz.func39 rfl con39 19059382075493253247 (by kernel_rfl) (by decide) (by decide) rfl (by decide) rfl (by
  rintro ⟨⟨(ns : List Nd), (ds : List Dv)⟩, _⟩ hpre hwf X hT hG hk hK; have hg : GoodL (ns, ds) := hpre
  (simp -implicitDefEqProofs (maxSteps := 4000000) only [go_sem, bP, con39, con63, con64, con65, con66, con67, con68, con69, con70, hT, hG, hk, hK, Tryz.results39] at hwf ⊢); (try simp (disch := decide +kernel) only [drawn, true_and, and_true])
  clear hwf; have hn1 : 1 ≤ ns.length := hg.n1; have hn24 : ns.length ≤ 24 := hg.n24; have hd := hg.dv; have hd24 : ds.length ≤ 24 := hd.len; have htot : totV ns ≤ 80 := hg.tot; have hul := dA4 0 ns.length; have hany : ns.any (fun y : Nd => decide (y.2.1 = 1)) = true := by
   rw [List.any_eq_true]; have := hg.en; dsimp only at this; rw [gA5 (by omega)] at this; exact ⟨ns[0], List.getElem_mem _, decide_eq_true this⟩
  (repeat' with_reducible first | refine And.intro ?_ ?_ | intro _) <;> try first | with_reducible (first | assumption | omega | contradiction) | decide
  all_goals first
   | omega
   | skip
  all_goals refine cA0 ⟨{ i : Nat // i ≤ ns.length }, 1000, fun i => [(1, .one (.loc 64 0)), (19, .one (.int .i64 ns.length)), (20, .one (.int .i64 i.1))], fun i => [(64, .cells 30 [.sl yNO ns false, .sl yPL ds false])], fun i => ns.length - i.1⟩ ⟨0, Nat.zero_le _⟩ ?_ ?_
  all_goals first
   | (simp only [go_sem]
      try first | rfl | (and_intros <;> first | trivial | rfl | omega)
      done)
   | skip
  all_goals
   rintro ⟨i, (hi : i ≤ ns.length)⟩
   (simp -implicitDefEqProofs (maxSteps := 4000000) only [go_sem, bP, con39, con63, con64, con65, con66, con67, con68, con69, con70, hT, hG, hk, hK, Tryz.results39]); (try simp (disch := decide +kernel) only [drawn, true_and, and_true])
   refine ⟨fun hlt => ?_, fun hge => ?_⟩
   · refine ⟨⟨hg, by omega, hlt⟩, ?_⟩
     (repeat' with_reducible first | refine And.intro ?_ ?_ | intro _) <;> try first | with_reducible (first | assumption | omega | contradiction) | decide
     all_goals first
      | omega
      | (refine dA0 ⟨i + 1, by omega⟩ ?_ (by dsimp only; omega)
         simp only [go_sem]
         try rfl
         done)
   · refine ⟨hg, fun _ => ⟨fun h => by omega, fun _ => ⟨hg, fun h => h.elim, fun _ => ?_⟩⟩⟩; refine cA0 ⟨{ i : Nat // i ≤ ns.length }, 2000, fun i => [(1, .one (.loc 64 0)), (40, .one (.int .i64 ns.length)), (41, .one (.int .i64 i.1))], fun i => [(64, .cells 30 [.sl yNO ns false, .sl yPL ds false])], fun i => ns.length - i.1⟩ ⟨0, Nat.zero_le _⟩ ?_ ?_
     · simp only [go_sem]; rfl
     · rintro ⟨i, (hi : i ≤ ns.length)⟩
       (simp -implicitDefEqProofs (maxSteps := 4000000) only [go_sem, bP, con39, con63, con64, con65, con66, con67, con68, con69, con70, hT, hG, hk, hK, Tryz.results39]); (try simp (disch := decide +kernel) only [drawn, true_and, and_true])
       refine ⟨fun hlt => ?_, fun hge => ?_⟩
       · refine ⟨⟨hg, by omega, hlt⟩, ?_⟩
         (repeat' with_reducible first | refine And.intro ?_ ?_ | intro _) <;> try first | with_reducible (first | assumption | omega | contradiction) | decide
         all_goals first
          | omega
          | (refine dA0 ⟨i + 1, by omega⟩ ?_ (by dsimp only; omega)
             simp only [go_sem]
             try rfl
             done)
       · simp only [hul, hany]
         (repeat' with_reducible first | refine And.intro ?_ ?_ | intro _) <;> try first | with_reducible (first | assumption | omega | contradiction) | decide
         all_goals first
          | omega
          | exact hg)
def fltAt (f : List Int) (k : Int) : Int := if k < f.length then f.getD k.toNat 0 else 0
def con84 : Con := { ps := [.d false (.sl yI), .d false yI], rs := [.d false yI], pre := fun (x : List Int × Int × Unit) => 0 ≤ x.2.1, out := fun (x : List Int × Int × Unit) => (fltAt x.1 x.2.1, ()), nw := id }
theorem c84 : CtrOk Tryz.prog 84 con84.ctr :=
 aA0 eA0 eN rfl Tryz.func84 rfl con84 275 (by kernel_rfl) (by decide) (by decide) rfl (by decide) rfl (by
  rintro ⟨(f : List Int), (k : Int), _⟩ hpre hwf X hT hG hk hK; have h0 : 0 ≤ k := hpre
  (simp -implicitDefEqProofs (maxSteps := 4000000) only [go_sem, bP, con84, hT, hG, hk, hK, Tryz.results84] at hwf ⊢)
  clear hwf
  (repeat' with_reducible first | refine And.intro ?_ ?_ | intro _) <;> try first | with_reducible (first | assumption | omega | contradiction) | decide
  all_goals first
   | omega
   | (unfold fltAt; rw [if_pos (by omega)])
   | (unfold fltAt; rw [if_neg (by omega)]))
def tgtV (s f : List Int) (k : Int) : Int :=
 if fltAt f k = 1 ∨ s.getD (k + 1).toNat 0 ≠ 0 then k
 else if fltAt f k = 2 ∧ k + 2 < s.length ∧ s.getD (k + 2).toNat 0 = 0 then k + 2 else k + 1
theorem dD1 {s f : List Int} {k : Int} (h0 : 0 ≤ k) (h : k + 1 < s.length) : 0 ≤ tgtV s f k ∧ tgtV s f k < s.length := by
 unfold tgtV; split
 · omega
 · split <;> omega
def con83 : Con := { ps := [.d false (.sl yI), .d false (.sl yI), .d false yI], rs := [.d false yI], pre := fun (x : List Int × List Int × Int × Unit) => 0 ≤ x.2.2.1 ∧ x.2.2.1 + 1 < x.1.length ∧ x.1.length ≤ 1000000, out := fun (x : List Int × List Int × Int × Unit) => (tgtV x.1 x.2.1 x.2.2.1, ()), nw := id }
theorem c83 : CtrOk Tryz.prog 83 con83.ctr :=
 aA0 eA0 (eC c84 has84 eN) rfl Tryz.func83 rfl con83 2097351 (by kernel_rfl) (by decide) (by decide) rfl (by decide) rfl (by
  rintro ⟨(s : List Int), (f : List Int), (k : Int), _⟩ hpre hwf X hT hG hk hK; obtain ⟨h0, h1, h2⟩ : 0 ≤ k ∧ k + 1 < s.length ∧ s.length ≤ 1000000 := hpre
  (simp -implicitDefEqProofs (maxSteps := 4000000) only [go_sem, bP, con83, con84, hT, hG, hk, hK, Tryz.results83] at hwf ⊢)
  clear hwf
  (repeat' with_reducible first | refine And.intro ?_ ?_ | intro _) <;> try first | with_reducible (first | assumption | omega | contradiction) | decide
  all_goals first
   | omega
   | (unfold tgtV; rw [if_pos (by first | assumption | omega)]; done)
   | (unfold tgtV; rw [if_neg (by first | assumption | omega), if_pos (by first | assumption | omega)]; done)
   | (unfold tgtV; rw [if_neg (by first | assumption | omega), if_neg (by first | assumption | omega)]; done))
def advI (s f : List Int) (o : Bool) : Nat → List Int × Int
 | 0 => (List.replicate s.length 0, 0)
 | k + 1 =>
   if s.getD k 0 = 0 then advI s f o k
   else if (k : Int) < s.length - 1 then ((advI s f o k).1.set (tgtV s f k).toNat (s.getD k 0), (advI s f o k).2)
   else if o = true ∧ fltAt f k ≠ 1 then ((advI s f o k).1, s.getD k 0)
   else ((advI s f o k).1.set k (s.getD k 0), (advI s f o k).2)
def advV (s f : List Int) (o : Bool) : List Int × Int := advI s f o s.length
theorem uA3 (s f : List Int) (o : Bool) : ∀ k, (advI s f o k).1.length = s.length
 | 0 => by simp [advI]
 | k + 1 => by
   unfold advI; split
   · exact uA3 s f o k
   · split
     · rw [List.length_set]; exact uA3 s f o k
     · split
       · exact uA3 s f o k
       · rw [List.length_set]; exact uA3 s f o k
theorem cD4 {s f : List Int} {o : Bool} {k : Nat} (h : s.getD k 0 = 0) : advI s f o (k + 1) = advI s f o k := by
 rw [advI, if_pos h]
theorem zD3 {s f : List Int} {o : Bool} {k : Nat} (h : ¬ s.getD k 0 = 0) (h1 : (k : Int) < s.length - 1) : advI s f o (k + 1) = ((advI s f o k).1.set (tgtV s f k).toNat (s.getD k 0), (advI s f o k).2) := by
 rw [advI, if_neg h, if_pos h1]
theorem pD2 {s f : List Int} {o : Bool} {k : Nat} (h : ¬ s.getD k 0 = 0) (h1 : ¬ (k : Int) < s.length - 1) (h2 : o = true ∧ ¬ fltAt f k = 1) : advI s f o (k + 1) = ((advI s f o k).1, s.getD k 0) := by
 rw [advI, if_neg h, if_neg h1, if_pos h2]
theorem cD3 {s f : List Int} {o : Bool} {k : Nat} (h : ¬ s.getD k 0 = 0) (h1 : ¬ (k : Int) < s.length - 1) (h2 : o = false ∨ fltAt f k = 1) : advI s f o (k + 1) = ((advI s f o k).1.set k (s.getD k 0), (advI s f o k).2) := by
 rw [advI, if_neg h, if_neg h1, if_neg (fun q => h2.elim (fun e => by rw [e] at q; cases q.1) q.2)]
def con44 : Con := { ps := [.d false (.sl yI), .d false (.sl yI), .d false .bool], rs := [.o 3 yI, .d false yI], pre := fun (x : List Int × List Int × Bool × Unit) => x.1.length ≤ 1000000, out := fun (x : List Int × List Int × Bool × Unit) => ((advV x.1 x.2.1 x.2.2.1).1, (advV x.1 x.2.1 x.2.2.1).2, ()), nw := id }
theorem c44 : CtrOk Tryz.prog 44 con44.ctr :=
 aA0 eA0 (eC c84 has84 (eC c83 has83 eN)) rfl Tryz.func44 rfl con44 562958677706695 (by kernel_rfl) (by decide) (by decide) rfl (by decide) rfl (by
  rintro ⟨(s : List Int), (f : List Int), (o : Bool), _⟩ hpre hwf X hT hG hk hK; have hl : s.length ≤ 1000000 := hpre
  (simp -implicitDefEqProofs (maxSteps := 4000000) only [go_sem, bP, con44, con84, con83, hT, hG, hk, hK, Tryz.results44] at hwf ⊢); (try simp (disch := decide +kernel) only [drawn, true_and, and_true])
  clear hwf; refine fun _ => ⟨by omega, ?_⟩; refine cA0 ⟨{ k : Nat // k ≤ s.length }, 1000, fun k => [(0, .one (.sl yI s false)), (1, .one (.sl yI f false)), (2, .one (.bool o)), (8, .one (.row 64)), (9, .one (.int .i64 (advI s f o k.1).2)), (10, .one (.int .i64 k.1))], fun k => [(64, .row 3 yI (advI s f o k.1).1)], fun k => s.length - k.1⟩ ⟨0, Nat.zero_le _⟩ ?_ ?_
  · simp only [go_sem]
    try first | rfl | (and_intros <;> first | trivial | rfl | omega)
  · rintro ⟨k, (hkl : k ≤ s.length)⟩; have hal := uA3 s f o k
    (simp -implicitDefEqProofs (maxSteps := 4000000) only [go_sem, bP, con44, con84, con83, hT, hG, hk, hK, Tryz.results44]); (try simp (disch := decide +kernel) only [drawn, true_and, and_true])
    refine fun _ => ⟨fun hlt => ?_, fun hge => ?_⟩
    · have hk' : k < s.length := by omega
      have ekk : (k : Int).toNat = k := Int.toNat_natCast k; have htb : (k : Int) < s.length - 1 → 0 ≤ tgtV s f k ∧ tgtV s f k < s.length := fun h => dD1 (by omega) (by omega); simp only [ekk]
      (repeat' with_reducible first | refine And.intro ?_ ?_ | intro _) <;> try first | with_reducible (first | assumption | omega | contradiction) | decide
      all_goals first
       | omega
       | (have h := htb (by assumption); omega)
       | (refine dA0 ⟨k + 1, by omega⟩ ?_ (by dsimp only; omega)
          simp only [go_sem]; rw [cD4 (by assumption)]
          try first | rfl | (and_intros <;> first | trivial | rfl | omega)
          done)
       | (refine dA0 ⟨k + 1, by omega⟩ ?_ (by dsimp only; omega)
          simp only [go_sem]; rw [zD3 (by assumption) (by assumption)]
          try first | rfl | (and_intros <;> first | trivial | rfl | omega)
          done)
       | (refine dA0 ⟨k + 1, by omega⟩ ?_ (by dsimp only; omega)
          simp only [go_sem]; rw [pD2 (by assumption) (by assumption) (by assumption)]
          try first | rfl | (and_intros <;> first | trivial | rfl | omega)
          done)
       | (refine dA0 ⟨k + 1, by omega⟩ ?_ (by dsimp only; omega)
          simp only [go_sem]; rw [cD3 (by assumption) (by assumption) (by assumption)]
          try first | rfl | (and_intros <;> first | trivial | rfl | omega)
          done)
    · have : k = s.length := by omega
      subst this; exact ⟨rfl, rfl⟩)
def con108 : Con := { ps := [.d false (.sl yI)], rs := [.d false yI], pre := fun _ => True, out := fun (x : List Int × Unit) => (((x.1.filter (fun y : Int => decide (y = 0))).length : Nat), ()), nw := id }
theorem c108 : CtrOk Tryz.prog 108 con108.ctr :=
 aA0 eA0 eN rfl Tryz.func108 rfl con108 33053 (by kernel_rfl) (by decide) (by decide) rfl (by decide) rfl (by
  rintro ⟨(s : List Int), _⟩ hpre hwf X hT hG hk hK
  (simp -implicitDefEqProofs (maxSteps := 4000000) only [go_sem, bP, con108, hT, hG, hk, hK, Tryz.results108] at hwf ⊢)
  clear hwf; refine cA0 ⟨{ k : Nat // k ≤ s.length }, 1000, fun k => [(0, .one (.sl yI s false)), (3, .one (.int .i64 ((s.take k.1).filter (fun y : Int => decide (y = 0))).length)), (4, .one (.int .i64 k.1))], fun k => [], fun k => s.length - k.1⟩ ⟨0, Nat.zero_le _⟩ ?_ ?_
  · simp only [go_sem]
    try first | rfl | (and_intros <;> first | trivial | rfl | omega)
  · rintro ⟨k, (hkl : k ≤ s.length)⟩; have hfl := List.length_filter_le (fun y : Int => decide (y = 0)) (s.take k); rw [List.length_take] at hfl
    (simp -implicitDefEqProofs (maxSteps := 4000000) only [go_sem, bP, con108, hT, hG, hk, hK, Tryz.results108])
    refine fun _ => ⟨fun hlt => ?_, fun hge => ?_⟩
    · have hk' : k < s.length := by omega
      have ek : ∀ z, s.getD (k : Int).toNat z = s[k] := fun z => by simp [hk']
      have hst : (s.take (k + 1)).filter (fun y : Int => decide (y = 0)) = (s.take k).filter (fun y : Int => decide (y = 0)) ++ (if s[k] = 0 then [s[k]] else []) := by
       rw [tsE hk', List.filter_append]; by_cases e : s[k] = 0
       · rw [List.filter_cons_of_pos (by simp [e]), if_pos e]; rfl
       · rw [List.filter_cons_of_neg (by simp [e]), if_neg e]; rfl
      simp only [ek]
      (repeat' with_reducible first | refine And.intro ?_ ?_ | intro _) <;> try first | with_reducible (first | assumption | omega | contradiction) | decide
      all_goals first
       | omega
       | (rw [if_pos (by assumption)] at hst
          refine dA0 ⟨k + 1, by omega⟩ ?_ (by dsimp only; omega); simp only [go_sem]; rw [hst, List.length_append]
          try first | rfl | (and_intros <;> first | trivial | rfl | omega)
          done)
       | (rw [if_neg (by assumption), List.append_nil] at hst
          refine dA0 ⟨k + 1, by omega⟩ ?_ (by dsimp only; omega); simp only [go_sem]; rw [hst]
          try first | rfl | (and_intros <;> first | trivial | rfl | omega)
          done)
    · rw [show k = s.length by omega, List.take_length])
def FltOk (ns : List Nd) (f : List Dv) : Prop := ∀ y ∈ f, (y.1 = 1 ∨ y.1 = 2) ∧ 0 ≤ y.2.1 ∧ y.2.1 < ns.length ∧ 0 ≤ y.2.2 ∧ y.2.2 < (ns.getD y.2.1.toNat nd0).2.2.1
def dv0 : Dv := (0, 0, 0)
def atI (n : Nat) (f : List Dv) (node : Int) : Nat → List Int
 | 0 => List.replicate n 0
 | i + 1 => if (f.getD i dv0).2.1 = node then (atI n f node i).set (f.getD i dv0).2.2.toNat (f.getD i dv0).1 else atI n f node i
theorem lB1 (n : Nat) (f : List Dv) (node : Int) : ∀ i, (atI n f node i).length = n
 | 0 => by simp [atI]
 | i + 1 => by
   unfold atI; split
   · rw [List.length_set]; exact lB1 n f node i
   · exact lB1 n f node i
def atV (ns : List Nd) (f : List Dv) (node : Int) : List Int := atI (ns.getD node.toNat nd0).2.2.1.toNat f node f.length
theorem nD0 (ns : List Nd) (f : List Dv) (node : Int) : (atV ns f node).length = (ns.getD node.toNat nd0).2.2.1.toNat := lB1 _ _ _ _
def con45 : Con := { ps := [.d true yLY, .d false (.sl yPL), .d false yI], rs := [.d false (.sl yI)], pre := fun (x : Ly × List Dv × Int × Unit) => GoodL x.1 ∧ FltOk x.1.1 x.2.1 ∧ 0 ≤ x.2.2.1 ∧ x.2.2.1 < x.1.1.length, out := fun (x : Ly × List Dv × Int × Unit) => (atV x.1.1 x.2.1 x.2.2.1, ()), nw := id }
theorem c45 : CtrOk Tryz.prog 45 con45.ctr :=
 aA0 eA0 eN rfl Tryz.func45 rfl con45 268960207 (by kernel_rfl) (by decide) (by decide) rfl (by decide) rfl (by
  rintro ⟨⟨(ns : List Nd), (ds : List Dv)⟩, (f : List Dv), (n0 : Int), _⟩ hpre hwf X hT hG hk hK; obtain ⟨hg, hf, h1, h2⟩ : GoodL (ns, ds) ∧ FltOk ns f ∧ 0 ≤ n0 ∧ n0 < ns.length := hpre; obtain ⟨n, rfl⟩ : ∃ n : Nat, n0 = n := ⟨n0.toNat, by omega⟩; have hn : n < ns.length := by omega
  (simp -implicitDefEqProofs (maxSteps := 4000000) only [go_sem, bP, con45, hT, hG, hk, hK, Tryz.results45] at hwf ⊢); (try simp (disch := decide +kernel) only [drawn, true_and, and_true])
  clear hwf; have ek : ∀ z, ns.getD (n : Int).toNat z = ns[n] := fun z => by simp [hn]
  have h8 := hg.le8 ns[n] (List.getElem_mem hn); simp only [ek]; have hav : atV ns f n = atI (ns[n]).2.2.1.toNat f n f.length := by unfold atV; rw [ek]
  (repeat' with_reducible first | refine And.intro ?_ ?_ | intro _) <;> try first | with_reducible (first | assumption | omega | contradiction) | decide
  all_goals first
   | omega
   | skip
  refine cA0 ⟨{ i : Nat // i ≤ f.length }, 1000, fun i => [(1, .one (.sl yPL f false)), (2, .one (.int .i64 n)), (7, .one (.row 64)), (8, .one (.int .i64 i.1))], fun i => [(64, .row 3 yI (atI (ns[n]).2.2.1.toNat f n i.1))], fun i => f.length - i.1⟩ ⟨0, Nat.zero_le _⟩ ?_ ?_
  · simp only [go_sem]
    try first | rfl | (and_intros <;> first | trivial | rfl | omega)
  · rintro ⟨i, (hi : i ≤ f.length)⟩; have hal := lB1 (ns[n]).2.2.1.toNat f n i
    (simp -implicitDefEqProofs (maxSteps := 4000000) only [go_sem, bP, con45, hT, hG, hk, hK, Tryz.results45]); (try simp (disch := decide +kernel) only [drawn, true_and, and_true])
    refine fun _ => ⟨fun hlt => ?_, fun hge => ?_⟩
    · have hi' : i < f.length := by omega
      have ek2 : ∀ z, f.getD (i : Int).toNat z = f[i] := fun z => by simp [hi']
      have ek3 : f.getD i dv0 = f[i] := by simp [hi']
      have hfi := hf f[i] (List.getElem_mem hi'); have hst : atI (ns[n]).2.2.1.toNat f n (i + 1) = if f[i].2.1 = n then (atI (ns[n]).2.2.1.toNat f n i).set f[i].2.2.toNat f[i].1 else atI (ns[n]).2.2.1.toNat f n i := by rw [atI, ek3]
      have hlt2 : f[i].2.1 = n → f[i].2.2 < (ns[n]).2.2.1 := fun h => by
       have := hfi.2.2.2.2; rw [h, ek] at this; exact this
      simp only [ek2]
      (repeat' with_reducible first | refine And.intro ?_ ?_ | intro _) <;> try first | with_reducible (first | assumption | omega | contradiction) | decide
      all_goals first
       | omega
       | (rw [hal]; have h := hlt2 (by assumption); omega)
       | (rw [if_pos (by assumption)] at hst
          refine dA0 ⟨i + 1, by omega⟩ ?_ (by dsimp only; omega); simp only [go_sem]; rw [hst]
          try first | rfl | (and_intros <;> first | trivial | rfl | omega)
          done)
       | (rw [if_neg (by assumption)] at hst
          refine dA0 ⟨i + 1, by omega⟩ ?_ (by dsimp only; omega); simp only [go_sem]; rw [hst]
          try first | rfl | (and_intros <;> first | trivial | rfl | omega)
          done)
    · rw [hav, show i = f.length by omega])
def wanV (ns : List Nd) (c : List Int) (n : Int) : Int := if (ns.getD n.toNat nd0).2.1 = 7 then 0 else c.getD n.toNat 0
def con82 : Con := { ps := [.d true yLY, .d false (.sl yI), .d false yI], rs := [.d false yI], pre := fun (x : Ly × List Int × Int × Unit) => x.2.1.length = x.1.1.length ∧ 0 ≤ x.2.2.1 ∧ x.2.2.1 < x.1.1.length, out := fun (x : Ly × List Int × Int × Unit) => (wanV x.1.1 x.2.1 x.2.2.1, ()), nw := id }
theorem c82 : CtrOk Tryz.prog 82 con82.ctr :=
 aA0 eA0 eN rfl Tryz.func82 rfl con82 8271 (by kernel_rfl) (by decide) (by decide) rfl (by decide) rfl (by
  rintro ⟨⟨(ns : List Nd), (ds : List Dv)⟩, (c : List Int), (n : Int), _⟩ hpre hwf X hT hG hk hK; obtain ⟨hc, h1, h2⟩ : c.length = ns.length ∧ 0 ≤ n ∧ n < ns.length := hpre
  (simp -implicitDefEqProofs (maxSteps := 4000000) only [go_sem, bP, con82, hT, hG, hk, hK, Tryz.results82] at hwf ⊢)
  clear hwf; have ek : ∀ z, ns.getD n.toNat z = ns.getD n.toNat nd0 := fun z => by simp [show n.toNat < ns.length by omega]
  have ec : ∀ z, c.getD n.toNat z = c.getD n.toNat 0 := fun z => by simp [show n.toNat < c.length by omega]
  simp only [ek]; unfold wanV
  (repeat' with_reducible first | refine And.intro ?_ ?_ | intro _) <;> try first | with_reducible (first | assumption | omega | contradiction) | decide
  all_goals first
   | omega
   | (rw [if_pos (by assumption)])
   | (rw [if_neg (by assumption)]))
abbrev Pl := List (List Int) × List (List Int)
def lastV (ns : List Nd) (p : Pl) (c : List Int) (f : List Dv) (n : Int) : Int :=
 if (ns.getD n.toNat nd0).2.1 = 7 then (if (p.2.getD n.toNat []).any (fun y : Int => decide (c.getD n.toNat 0 = y)) = true then c.getD n.toNat 0 else 0)
 else if strN (ns.getD n.toNat nd0).2.1 = false ∨ c.getD n.toNat 0 = -1 ∨ (atV ns f n).getD ((ns.getD n.toNat nd0).2.2.1 - 1).toNat 0 = 1 then 0
 else (p.1.getD n.toNat []).getD ((ns.getD n.toNat nd0).2.2.1 - 1).toNat 0
structure FitP (ns : List Nd) (p : Pl) : Prop where
 sl : p.1.length = ns.length
 bl : p.2.length = ns.length
 ln : ∀ i, i < ns.length → ((p.1.getD i []).length : Int) = (ns.getD i nd0).2.2.1
def con81 : Con := { ps := [.d true yLY, .d true yP2, .d false (.sl yI), .d false (.sl yPL), .d false yI], rs := [.d false yI], pre := fun (x : Ly × Pl × List Int × List Dv × Int × Unit) => GoodL x.1 ∧ FitP x.1.1 x.2.1 ∧ x.2.2.1.length = x.1.1.length ∧ FltOk x.1.1 x.2.2.2.1 ∧ 0 ≤ x.2.2.2.2.1 ∧ x.2.2.2.2.1 < x.1.1.length, out := fun (x : Ly × Pl × List Int × List Dv × Int × Unit) => (lastV x.1.1 x.2.1 x.2.2.1 x.2.2.2.1 x.2.2.2.2.1, ()), nw := id }
theorem c81 : CtrOk Tryz.prog 81 con81.ctr :=
 aA0 eA0 (eC c32 has32 (eC c23 has23 (eC c45 has45 eN))) rfl Tryz.func81 rfl con81 72057594575326335 (by kernel_rfl) (by decide) (by decide) rfl (by decide) rfl (by
  rintro ⟨⟨(ns : List Nd), (ds : List Dv)⟩, ⟨(sl : List (List Int)), (bn : List (List Int))⟩, (c : List Int), (f : List Dv), (n : Int), _⟩ hpre hwf X hT hG hk hK; obtain ⟨hg, hp, hc, hf, h1, h2⟩ : GoodL (ns, ds) ∧ FitP ns (sl, bn) ∧ c.length = ns.length ∧ FltOk ns f ∧ 0 ≤ n ∧ n < ns.length := hpre
  (simp -implicitDefEqProofs (maxSteps := 4000000) only [go_sem, bP, con81, con32, con23, con45, hT, hG, hk, hK, Tryz.results81] at hwf ⊢); (try simp (disch := decide +kernel) only [drawn, true_and, and_true])
  clear hwf; have ek : ∀ z, ns.getD n.toNat z = ns.getD n.toNat nd0 := fun z => by simp [show n.toNat < ns.length by omega]
  have hnd := hg.nd n.toNat (by dsimp only; omega); have hln := hp.ln n.toNat (by omega); have hsl : sl.length = ns.length := hp.sl; have hbl : bn.length = ns.length := hp.bl; have hal := nD0 ns f n; have hl1 : strN (ns.getD n.toNat nd0).2.1 = true → 1 ≤ (ns.getD n.toNat nd0).2.2.1 ∧ (ns.getD n.toNat nd0).2.2.1 ≤ 8 := hnd.ln; simp only [ek]; dsimp only at hln; generalize ns.getD n.toNat nd0 = y at *
  (repeat' with_reducible first | refine And.intro ?_ ?_ | intro _) <;> try first | with_reducible (first | assumption | omega | contradiction) | decide
  all_goals first
   | omega
   | (have hs : strN y.2.1 = true := by
       first
        | exact (by assumption : strN y.2.1 = true ∧ ¬c.getD n.toNat 0 = -1).1
        | exact (by assumption : (strN y.2.1 = true ∧ ¬c.getD n.toNat 0 = -1) ∧ ¬(atV ns f n).getD (y.2.2.1 - 1).toNat 0 = 1).1.1
      have h := hl1 hs
      omega)
   | (unfold lastV
      simp only [ek]; rw [if_pos (by assumption), if_pos (by assumption)]
      done)
   | (unfold lastV
      simp only [ek]; rw [if_pos (by assumption), if_neg (by simp only [Bool.not_eq_true]; assumption)]
      done)
   | (unfold lastV
      simp only [ek]; rw [if_neg (by assumption), if_pos (or_assoc.1 (by assumption : (strN y.2.1 = false ∨ c.getD n.toNat 0 = -1) ∨ (atV ns f n).getD (y.2.2.1 - 1).toNat 0 = 1))]
      done)
   | (unfold lastV
      simp only [ek]; rw [if_neg (by assumption), if_neg (by
       have h : (strN y.2.1 = true ∧ ¬c.getD n.toNat 0 = -1) ∧ ¬(atV ns f n).getD (y.2.2.1 - 1).toNat 0 = 1 := by assumption
       rintro (q | q | q)
       · rw [q] at h; cases h.1.1
       · exact h.1.2 q
       · exact h.2 q)]
      done))
def entV (ns : List Nd) (p : Pl) (n : Nat) : Bool :=
 if strN (ns.getD n nd0).2.1 = true then decide ((p.1.getD n []).getD 0 0 = 0) && (decide (¬ (ns.getD n nd0).2.1 = 5) || decide (2 ≤ (((p.1.getD n []).filter (fun y : Int => decide (y = 0))).length : Int))) else true
def entL (ns : List Nd) (p : Pl) (n : Nat) : List Bool := (List.range n).map (entV ns p)
theorem iB4 (ns : List Nd) (p : Pl) (n : Nat) : entL ns p (n + 1) = entL ns p n ++ [entV ns p n] := by
 unfold entL; rw [List.range_succ, List.map_append]; rfl
theorem xB7 (ns : List Nd) (p : Pl) (n : Nat) : (entL ns p n).length = n := by
 unfold entL; rw [List.length_map, List.length_range]
def con79 : Con := { ps := [.d true yLY, .d true yP2], rs := [.o 4 .bool], pre := fun (x : Ly × Pl × Unit) => GoodL x.1 ∧ FitP x.1.1 x.2.1, out := fun (x : Ly × Pl × Unit) => (entL x.1.1 x.2.1 x.1.1.length, ()), nw := id }
theorem c79 : CtrOk Tryz.prog 79 con79.ctr :=
 aA0 eA0 (eC c23 has23 (eC c108 has108 eN)) rfl Tryz.func79 rfl con79 2101503 (by kernel_rfl) (by decide) (by decide) rfl (by decide) rfl (by
  rintro ⟨⟨(ns : List Nd), (ds : List Dv)⟩, ⟨(sl : List (List Int)), (bn : List (List Int))⟩, _⟩ hpre hwf X hT hG hk hK; obtain ⟨hg, hp⟩ : GoodL (ns, ds) ∧ FitP ns (sl, bn) := hpre
  (simp -implicitDefEqProofs (maxSteps := 4000000) only [go_sem, bP, con79, con23, con108, hT, hG, hk, hK, Tryz.results79] at hwf ⊢)
  clear hwf; have hn24 : ns.length ≤ 24 := hg.n24; have hsl : sl.length = ns.length := hp.sl; refine cA0 ⟨{ i : Nat // i ≤ ns.length }, 1000, fun i => [(2, .one (.loc 64 0)), (3, .one (.loc 65 0)), (5, .one (.row 66)), (6, .one (.int .i64 i.1))], fun i => [(64, .cells 30 [.sl yNO ns false, .sl yPL ds false]), (65, .cells 37 [.sl (.sl yI) sl false, .sl (.sl yI) bn false]), (66, .row 4 .bool (entL ns (sl, bn) i.1))], fun i => ns.length - i.1⟩ ⟨0, Nat.zero_le _⟩ ?_ ?_
  · simp only [go_sem]; simp only [entL, List.range_zero, List.map_nil]
    try first | rfl | (and_intros <;> first | trivial | rfl | omega)
  · rintro ⟨i, (hi : i ≤ ns.length)⟩; have hll := xB7 ns (sl, bn) i
    (simp -implicitDefEqProofs (maxSteps := 4000000) only [go_sem, bP, con79, con23, con108, hT, hG, hk, hK, Tryz.results79])
    refine fun _ => ⟨fun hlt => ?_, fun hge => ?_⟩
    · have hi' : i < ns.length := by omega
      have hnd := hg.nd i hi'; have hln := hp.ln i hi'; have hl1 : strN (ns.getD i nd0).2.1 = true → 1 ≤ (ns.getD i nd0).2.2.1 ∧ (ns.getD i nd0).2.2.1 ≤ 8 := hnd.ln; have ekk : (i : Int).toNat = i := Int.toNat_natCast i; have hev : entV ns (sl, bn) i = if strN (ns.getD i nd0).2.1 = true then decide ((sl.getD i []).getD 0 0 = 0) && (decide (¬ (ns.getD i nd0).2.1 = 5) || decide (2 ≤ (((sl.getD i []).filter (fun y : Int => decide (y = 0))).length : Int))) else true := rfl
      dsimp only at hln; obtain ⟨y, ey⟩ : ∃ y, ns.getD i nd0 = y := ⟨_, rfl⟩; have ek : ∀ z, ns.getD i z = y := fun z => by rw [← ey]; simp [hi']
      rw [ey] at hln hev hl1; simp only [ekk, ek]
      (repeat' with_reducible first | refine And.intro ?_ ?_ | intro _) <;> try first | with_reducible (first | assumption | omega | contradiction) | decide
      all_goals first
       | omega
       | (have h := hl1 (by assumption); omega)
       | (rw [if_pos (by assumption)] at hev
          refine dA0 ⟨i + 1, by omega⟩ ?_ (by dsimp only; omega); simp only [go_sem]; rw [iB4, hev]
          try first | rfl | (and_intros <;> first | trivial | rfl | omega)
          done)
       | (rw [if_neg (by simp only [Bool.not_eq_true]; assumption)] at hev
          refine dA0 ⟨i + 1, by omega⟩ ?_ (by dsimp only; omega); simp only [go_sem]; rw [iB4, hev]
          try first | rfl | (and_intros <;> first | trivial | rfl | omega)
          done)
    · rw [show i = ns.length by omega])
def cmdOk (x : Nd) (c : Int) : Bool :=
 if x.2.1 = 7 then decide (0 ≤ c) && decide (c ≤ 40)
 else if strN x.2.1 = false then decide (c = 0)
 else if c = -1 then decide (¬ x.2.1 = 5)
 else decide (0 ≤ c) && decide (c < x.2.2.2.2.length)
def con93 : Con := { ps := [.d true yNO, .d false yI], rs := [.d false .bool], pre := fun _ => True, out := fun (x : Nd × Int × Unit) => (cmdOk x.1 x.2.1, ()), nw := id }
theorem c93 : CtrOk Tryz.prog 93 con93.ctr :=
 aA0 eA0 (eC c23 has23 eN) rfl Tryz.func93 rfl con93 4227127 (by kernel_rfl) (by decide) (by decide) rfl (by decide) rfl (by
  rintro ⟨⟨x1, (x2 : Int), (x3 : Int), (x4 : Int), (x5 : List Int)⟩, (c : Int), _⟩ hpre hwf X hT hG hk hK
  (simp -implicitDefEqProofs (maxSteps := 4000000) only [go_sem, bP, con93, con23, hT, hG, hk, hK, Tryz.results93] at hwf ⊢)
  clear hwf; have e0 : cmdOk (x1, x2, x3, x4, x5) c = if x2 = 7 then decide (0 ≤ c) && decide (c ≤ 40) else if strN x2 = false then decide (c = 0) else if c = -1 then decide (¬ x2 = 5) else decide (0 ≤ c) && decide (c < x5.length) := rfl
  rw [e0]
  (repeat' with_reducible first | refine And.intro ?_ ?_ | intro _) <;> try first | with_reducible (first | assumption | omega | contradiction) | decide
  all_goals first
   | (rw [if_pos (by assumption)]; done)
   | (rw [if_neg (by assumption), if_pos (by assumption)]; done)
   | (rw [if_neg (by assumption), if_neg (by simp only [Bool.not_eq_false]; assumption), if_pos (by assumption)]; done)
   | (rw [if_neg (by assumption), if_neg (by simp only [Bool.not_eq_false]; assumption), if_neg (by assumption)]; done))
structure Poss (ns : List Nd) (c : List Int) (f : List Dv) : Prop where
 len : c.length = ns.length
 ok : ∀ i, i < ns.length → cmdOk (ns.getD i nd0) (c.getD i 0) = true
 fl : FltOk ns f
 f4 : f.length ≤ 4
 nd : ∀ i j (hi : i < j) (hj : j < f.length), ¬ ((f[i]).2.1 = (f[j]).2.1 ∧ (f[i]).2.2 = (f[j]).2.2)
def con53 : Con := { ps := [.d true yLY, .d false (.sl yI), .d false (.sl yPL)], rs := [.d false yI], pre := fun (x : Ly × List Int × List Dv × Unit) => GoodL x.1 ∧ Poss x.1.1 x.2.1 x.2.2.1, out := fun _ => (0, ()), nw := id }
theorem c53 : CtrOk Tryz.prog 53 con53.ctr :=
 aA0 eA0 (eC c93 has93 eN) rfl Tryz.func53 rfl con53 332307004062403036871093583089897423 (by kernel_rfl) (by decide) (by decide) rfl (by decide) rfl (by
  rintro ⟨⟨(ns : List Nd), (ds : List Dv)⟩, (c : List Int), (f : List Dv), _⟩ hpre hwf X hT hG hk hK; obtain ⟨hg, hp⟩ : GoodL (ns, ds) ∧ Poss ns c f := hpre
  (simp -implicitDefEqProofs (maxSteps := 4000000) only [go_sem, bP, con53, con93, hT, hG, hk, hK, Tryz.results53] at hwf ⊢); (try simp (disch := decide +kernel) only [drawn, true_and, and_true])
  clear hwf; have hn24 : ns.length ≤ 24 := hg.n24; have hcl := hp.len; have hf4 := hp.f4; have hpd := hp.nd; refine fun _ _ => ⟨fun h => by omega, fun _ => ?_⟩; refine cA0 ⟨{ i : Nat // i ≤ ns.length }, 1000, fun i => [(1, .one (.sl yI c false)), (2, .one (.sl yPL f false)), (3, .one (.loc 64 0)), (7, .one (.int .i64 i.1))], fun i => [(64, .cells 30 [.sl yNO ns false, .sl yPL ds false])], fun i => ns.length - i.1⟩ ⟨0, Nat.zero_le _⟩ ?_ ?_
  · simp only [go_sem]; rfl
  · rintro ⟨i, (hi : i ≤ ns.length)⟩
    (simp -implicitDefEqProofs (maxSteps := 4000000) only [go_sem, bP, con53, con93, hT, hG, hk, hK, Tryz.results53]); (try simp (disch := decide +kernel) only [drawn, true_and, and_true])
    refine fun _ => ⟨fun hlt => ?_, fun hge => ?_⟩
    · have hi' : i < ns.length := by omega
      have ekk : (i : Int).toNat = i := Int.toNat_natCast i; have hok := hp.ok i hi'; obtain ⟨y, ey⟩ : ∃ y, ns.getD i nd0 = y := ⟨_, rfl⟩; have ek : ∀ z, ns.getD i z = y := fun z => by rw [← ey]; simp [hi']
      rw [ey] at hok; simp only [ekk, ek, hok]
      (repeat' with_reducible first | refine And.intro ?_ ?_ | intro _) <;> try first | with_reducible (first | assumption | omega | contradiction) | decide
      all_goals first
       | omega
       | (refine dA0 ⟨i + 1, by omega⟩ ?_ (by dsimp only; omega)
          simp only [go_sem]
          try rfl
          done)
    · refine fun _ => ⟨fun h => by omega, fun _ => ?_⟩; refine cA0 ⟨{ i : Nat // i ≤ f.length }, 2000, fun i => [(1, .one (.sl yI c false)), (2, .one (.sl yPL f false)), (3, .one (.loc 64 0)), (8, .one (.int .i64 i.1))], fun i => [(64, .cells 30 [.sl yNO ns false, .sl yPL ds false])], fun i => f.length - i.1⟩ ⟨0, Nat.zero_le _⟩ ?_ ?_
      · simp only [go_sem]; rfl
      · rintro ⟨i, (hi : i ≤ f.length)⟩
        (simp -implicitDefEqProofs (maxSteps := 4000000) only [go_sem, bP, con53, con93, hT, hG, hk, hK, Tryz.results53]); (try simp (disch := decide +kernel) only [drawn, true_and, and_true])
        refine fun _ => ⟨fun hlt => ?_, fun hge => ?_⟩
        · have hi' : i < f.length := by omega
          have ek : ∀ z, f.getD (i : Int).toNat z = f[i] := fun z => by simp [hi']
          have hfi := hp.fl f[i] (List.getElem_mem hi'); obtain ⟨y, ey⟩ : ∃ y, ns.getD (f[i].2.1).toNat nd0 = y := ⟨_, rfl⟩; have ey' : ∀ z, ns.getD (f[i].2.1).toNat z = y := fun z => by rw [← ey]; simp [show (f[i].2.1).toNat < ns.length by omega]
          rw [ey] at hfi; simp only [ek, ey']
          (repeat' with_reducible first | refine And.intro ?_ ?_ | intro _) <;> try first | with_reducible (first | assumption | omega | contradiction) | decide
          all_goals first
           | omega
           | (refine dA0 ⟨i + 1, by omega⟩ ?_ (by dsimp only; omega)
              simp only [go_sem]
              try rfl
              done)
        · refine cA0 ⟨{ i : Nat // i ≤ f.length }, 3000, fun i => [(1, .one (.sl yI c false)), (2, .one (.sl yPL f false)), (3, .one (.loc 64 0)), (10, .one (.int .i64 i.1))], fun i => [(64, .cells 30 [.sl yNO ns false, .sl yPL ds false])], fun i => f.length - i.1⟩ ⟨0, Nat.zero_le _⟩ ?_ ?_
          · simp only [go_sem]; rfl
          · rintro ⟨i, (hi : i ≤ f.length)⟩
            (simp -implicitDefEqProofs (maxSteps := 4000000) only [go_sem, bP, con53, con93, hT, hG, hk, hK, Tryz.results53]); (try simp (disch := decide +kernel) only [drawn, true_and, and_true])
            refine fun _ hlt => ?_; have hi' : i < f.length := by omega
            refine cA0 ⟨{ k : Nat // k ≤ i }, 4000, fun k => [(1, .one (.sl yI c false)), (2, .one (.sl yPL f false)), (3, .one (.loc 64 0)), (10, .one (.int .i64 i)), (11, .one (.int .i64 k.1))], fun k => [(64, .cells 30 [.sl yNO ns false, .sl yPL ds false])], fun k => i - k.1⟩ ⟨0, Nat.zero_le _⟩ ?_ ?_
            · simp only [go_sem]; rfl
            · rintro ⟨k, (hki : k ≤ i)⟩
              (simp -implicitDefEqProofs (maxSteps := 4000000) only [go_sem, bP, con53, con93, hT, hG, hk, hK, Tryz.results53]); (try simp (disch := decide +kernel) only [drawn, true_and, and_true])
              have ek : ∀ z, f.getD (i : Int).toNat z = f[i] := fun z => by simp [hi']
              refine ⟨fun hlt => ?_, fun hge => ?_⟩
              · have hk' : k < f.length := by omega
                have ek2 : ∀ z, f.getD (k : Int).toNat z = f[k] := fun z => by simp [hk']
                have hne := hpd k i (by omega) hi'; simp only [ek, ek2]
                (repeat' with_reducible first | refine And.intro ?_ ?_ | intro _) <;> try first | with_reducible (first | assumption | omega | contradiction) | decide
                all_goals first
                 | omega
                 | (refine dA0 ⟨k + 1, by omega⟩ ?_ (by dsimp only; omega)
                    simp only [go_sem]
                    try rfl
                    done)
              · refine ⟨by omega, ?_⟩; refine dA0 ⟨i + 1, by omega⟩ ?_ (by dsimp only; omega); simp only [go_sem]; rfl)
end Go.Proofs.YtabadacjbkhmkaaGreatDoor
