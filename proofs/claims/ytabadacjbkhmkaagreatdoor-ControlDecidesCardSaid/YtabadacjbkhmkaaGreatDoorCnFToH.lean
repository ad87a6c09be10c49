/- Part. -/
import Derived.Test.YtabadacjbkhmkaaGreatDoorCnCToE
set_option linter.all false
set_option maxRecDepth 100000
set_option maxHeartbeats 8000000
namespace Go.Proofs.YtabadacjbkhmkaaGreatDoor
open Go.Ev
theorem dC8 (m : Nat) (x : Int) : (upL 0 m).any (fun y => decide (x = y)) = decide (0 ≤ x ∧ x < m) := by
 rw [Bool.eq_iff_iff, List.any_eq_true, decide_eq_true_eq]; constructor
 · rintro ⟨y, hy, h⟩; rw [upL_mem] at hy; have : x = y := by simpa using h
   omega
 · rintro ⟨h1, h2⟩; exact ⟨x, upL_mem.2 ⟨h1, by omega⟩, by simp⟩
theorem GoodL.leads {l : Ly} (h : GoodL l) {k : Nat} (hk : k < l.1.length) {m : Int} (hm : (decide ((k : Int) ≠ m) && (l.1.getD k nd0).2.2.2.2.any (fun y => decide (m = y))) = true) : (k : Int) < m := by
 rw [Bool.and_eq_true, decide_eq_true_eq, List.any_eq_true] at hm; obtain ⟨h1, y, hy, h2⟩ := hm; have h2 : m = y := by simpa using h2
 subst h2; rw [gA5 hk] at hy; obtain ⟨q, hq, e⟩ := List.getElem_of_mem hy; have := (h.at hk).fw q hq; omega
def con91 : Con := { ps := [.d true yLY], rs := [.o 3 yI], pre := fun (x : Ly × Unit) => GoodL x.1, out := fun (x : Ly × Unit) => (upL 0 x.1.1.length, ()), nw := id }
theorem c91 : CtrOk Tryz.prog 91 con91.ctr :=
 aA0 eA0 (eC c32 has32 (eC c113 has113 eN)) rfl Tryz.func91 rfl con91 83563957985535 (by kernel_rfl) (by decide) (by decide) rfl (by decide) rfl (by
  rintro ⟨⟨(ns : List Nd), (ds : List Dv)⟩, _⟩ hpre hwf X hT hG hk hK; have hg : GoodL (ns, ds) := hpre
  (simp -implicitDefEqProofs (maxSteps := 4000000) only [go_sem, bP, con91, con32, con113, hT, hG, hk, hK, Tryz.results91] at hwf ⊢)
  clear hwf; have hn24 : ns.length ≤ 24 := hg.n24; refine cA0 ⟨{ m : Nat // m ≤ ns.length }, 1000, fun m => [(1, .one (.loc 64 0)), (3, .one (.row 65))], fun m => [(64, .cells 30 [.sl yNO ns false, .sl yPL ds false]), (65, .row 3 yI (upL 0 m.1))], fun m => ns.length - m.1⟩ ⟨0, Nat.zero_le _⟩ ?_ ?_
  · simp only [go_sem]; simp only [upL, List.range_zero, List.map_nil]
    try first | rfl | (and_intros <;> first | trivial | rfl | omega)
  · rintro ⟨m, (hm : m ≤ ns.length)⟩
    (simp -implicitDefEqProofs (maxSteps := 4000000) only [go_sem, bP, con91, con32, con113, hT, hG, hk, hK, Tryz.results91])
    have hul := dA4 0 m; refine fun _ _ => ⟨fun hlt _ => ⟨by omega, ?_⟩, fun hge => ?_⟩
    · refine cA0 ⟨{ q : Nat × Int // q.1 ≤ ns.length ∧ (q.1 ≤ m → q.2 = m) ∧ -1 ≤ q.2 ∧ q.2 < ns.length }, 2000, fun q => [(1, .one (.loc 64 0)), (3, .one (.row 65)), (4, .one (.int .i64 q.1.2)), (5, .one (.int .i64 ((q.1.1 : Int) - 1)))], fun q => [(64, .cells 30 [.sl yNO ns false, .sl yPL ds false]), (65, .row 3 yI (upL 0 m))], fun q => q.1.1⟩ ⟨(ns.length, -1), Nat.le_refl _, fun h => by dsimp only at h; omega, by dsimp only; omega, by dsimp only; omega⟩ ?_ ?_
      · simp only [go_sem]
        try first | rfl | (and_intros <;> first | trivial | rfl | omega)
      · rintro ⟨⟨i, (v : Int)⟩, (hi : i ≤ ns.length), (hv : i ≤ m → v = m), (hv1 : -1 ≤ v), (hv2 : v < ns.length)⟩
        (simp -implicitDefEqProofs (maxSteps := 4000000) only [go_sem, bP, con91, con32, con113, hT, hG, hk, hK, Tryz.results91])
        simp only [dC8]; refine ⟨fun hge => ?_, fun hlt0 => ⟨fun hv0 => by exfalso; have := hv (by omega); omega, fun _ => ⟨by omega, ?_⟩⟩⟩
        · obtain ⟨j, rfl⟩ : ∃ j, i = j + 1 := ⟨i - 1, by omega⟩; have ej : ((j + 1 : Nat) : Int) - 1 = j := by omega
          simp only [ej]; refine cA0 ⟨{ p : Nat × Bool // p.1 ≤ ns.length ∧ (j < m → p.2 = false) ∧ (j = m → p.2 = true) }, 3000, fun p => [(1, .one (.loc 64 0)), (3, .one (.row 65)), (4, .one (.int .i64 v)), (5, .one (.int .i64 j)), (6, .one (.bool p.1.2)), (7, .one (.int .i64 p.1.1))], fun p => [(64, .cells 30 [.sl yNO ns false, .sl yPL ds false]), (65, .row 3 yI (upL 0 m))], fun p => ns.length - p.1.1⟩ ⟨(0, !decide (0 ≤ (j : Int) ∧ (j : Int) < m)), Nat.zero_le _, fun h => by simp; omega, fun h => by simp; omega⟩ ?_ ?_
          · simp only [go_sem]; rfl
          · rintro ⟨⟨k, r⟩, (hkl : k ≤ ns.length), (hr1 : j < m → r = false), (hr2 : j = m → r = true)⟩
            (simp -implicitDefEqProofs (maxSteps := 4000000) only [go_sem, bP, con91, con32, con113, hT, hG, hk, hK, Tryz.results91])
            simp only [dC8]; refine fun _ => ⟨fun hlt => ?_, fun hge => ⟨fun hr => ⟨by omega, ?_⟩, fun hr => ⟨by omega, ?_⟩⟩⟩
            · have hl := fun h => hg.leads (k := k) (m := (j : Int)) (by dsimp only; omega) h; have ekk : (k : Int).toNat = k := Int.toNat_natCast k; simp only [ekk]; refine ⟨by omega, fun hA => ⟨by omega, ?_⟩, fun hB => ⟨by omega, ?_⟩⟩
              · have hkj := hl (by rw [Bool.and_eq_true, decide_eq_true_eq]; exact hA.1); have hkm := hA.2; rw [decide_eq_false_iff_not] at hkm; refine dA0 ⟨(k + 1, false), by dsimp only; omega, fun _ => rfl, fun h => by omega⟩ ?_ (by dsimp only; omega); simp only [go_sem]; rfl
              · refine dA0 ⟨(k + 1, r), by dsimp only; omega, hr1, hr2⟩ ?_ (by dsimp only; omega); simp only [go_sem]; rfl
            · refine dA0 ⟨(j, (j : Int)), by dsimp only; omega, fun h => ?_, by dsimp only; omega, by dsimp only; omega⟩ ?_ (by dsimp only; omega)
              · have := hr1; rw [hr] at this; have h' : ¬ j < m := fun q => by have := this q; cases this
                dsimp only at h ⊢; omega
              · simp only [go_sem]
                try first | rfl | (and_intros <;> first | trivial | rfl | omega)
            · refine dA0 ⟨(j, v), by dsimp only; omega, fun h => ?_, hv1, hv2⟩ ?_ (by dsimp only; omega)
              · by_cases e : j = m
                · have := hr2 e; rw [hr] at this; cases this
                · exact hv (by dsimp only at h; omega)
              · simp only [go_sem]
                try first | rfl | (and_intros <;> first | trivial | rfl | omega)
        · have hv' := hv (by omega); refine dA0 ⟨m + 1, by omega⟩ ?_ (by dsimp only; omega); simp only [go_sem]; rw [dA7, hv', Int.zero_add]
          try first | rfl | (and_intros <;> first | trivial | rfl | omega)
    · have : m = ns.length := by omega
      subst this; rfl)
def con51 : Con := { ps := [.d true yLY], rs := [.d false yI], pre := fun (x : Ly × Unit) => GoodL x.1, out := fun _ => (0, ()), nw := id }
theorem c51 : CtrOk Tryz.prog 51 con51.ctr :=
 aA0 eA0 (eC c52 has52 (eC c59 has59 (eC c89 has89 (eC c90 has90 (eC c91 has91 (eC c92 has92 eN)))))) rfl Tryz.func51 rfl con51 871144812348725303633489163755958419064831 (by kernel_rfl) (by decide) (by decide) rfl (by decide) rfl (by
  rintro ⟨⟨(ns : List Nd), (ds : List Dv)⟩, _⟩ hpre hwf X hT hG hk hK; have hg : GoodL (ns, ds) := hpre
  (simp -implicitDefEqProofs (maxSteps := 4000000) only [go_sem, bP, con51, con52, con59, con89, con90, con91, con92, hT, hG, hk, hK, Tryz.results51] at hwf ⊢); (try simp (disch := decide +kernel) only [drawn, true_and, and_true])
  clear hwf; have hn1 : 1 ≤ ns.length := hg.n1; have hn24 : ns.length ≤ 24 := hg.n24; have hd := hg.dv; have hd24 : ds.length ≤ 24 := hd.len; refine fun _ _ => ⟨fun h => by omega, fun _ => ?_⟩; refine cA0 ⟨{ q : Nat × Int // q.1 ≤ ns.length ∧ 0 ≤ q.2 ∧ q.2 ≤ q.1 ∧ (0 < q.1 → 1 ≤ q.2) }, 1000, fun q => [(1, .one (.loc 64 0)), (3, .one (.int .i64 q.1.2)), (4, .one (.int .i64 q.1.1))], fun q => [(64, .cells 30 [.sl yNO ns false, .sl yPL ds false])], fun q => ns.length - q.1.1⟩ ⟨(0, 0), Nat.zero_le _, by decide, by decide, fun h => by cases h⟩ ?_ ?_
  · simp only [go_sem]; rfl
  · rintro ⟨⟨i, (c : Int)⟩, (hi : i ≤ ns.length), (hc0 : 0 ≤ c), (hc1 : c ≤ i), (hc2 : 0 < i → 1 ≤ c)⟩
    (simp -implicitDefEqProofs (maxSteps := 4000000) only [go_sem, bP, con51, con52, con59, con89, con90, con91, con92, hT, hG, hk, hK, Tryz.results51]); (try simp (disch := decide +kernel) only [drawn, true_and, and_true])
    refine fun _ => ⟨fun hlt => ?_, fun hge => ?_⟩
    · have hi' : i < ns.length := by omega
      have ek : ∀ z, ns.getD (i : Int).toNat z = ns[i] := fun z => by simp [hi']
      simp only [ek]; have hen : i = 0 → (ns[i]).2.1 = 1 := fun h => by
       subst h; have := hg.en; dsimp only at this
       rwa [gA5 hi'] at this
      (repeat' with_reducible first | refine And.intro ?_ ?_ | intro _) <;> try first | with_reducible (first | assumption | omega | contradiction) | decide
      all_goals first
       | exact hg
       | omega
       | (refine dA0 ⟨(i + 1, c + 1), by dsimp only; omega, by dsimp only; omega, by dsimp only; omega, fun _ => by dsimp only; omega⟩ ?_ (by dsimp only; omega)
          simp only [go_sem]
          try first | rfl | (and_intros <;> first | trivial | rfl | omega)
          done)
       | (refine dA0 ⟨(i + 1, c), by dsimp only; omega, by dsimp only; omega, by dsimp only; omega, fun _ => by dsimp only; by_cases h : i = 0 <;> omega⟩ ?_ (by dsimp only; omega)
          simp only [go_sem]
          try rfl
          done)
    · have hc : 1 ≤ c := hc2 (by omega); have htot : totV ns ≤ 80 := hg.tot; refine ⟨hg, fun _ => ⟨fun h => by omega, fun _ => ?_⟩⟩; refine cA0 ⟨{ i : Nat // i ≤ ns.length }, 2000, fun q => [(1, .one (.loc 64 0)), (3, .one (.int .i64 c)), (6, .one (.int .i64 q.1))], fun q => [(64, .cells 30 [.sl yNO ns false, .sl yPL ds false])], fun q => ns.length - q.1⟩ ⟨0, Nat.zero_le _⟩ ?_ ?_
      · simp only [go_sem]; rfl
      · rintro ⟨i, (hi : i ≤ ns.length)⟩
        (simp -implicitDefEqProofs (maxSteps := 4000000) only [go_sem, bP, con51, con52, con59, con89, con90, con91, con92, hT, hG, hk, hK, Tryz.results51]); (try simp (disch := decide +kernel) only [drawn, true_and, and_true])
        refine fun _ => ⟨fun hlt => ?_, fun hge => ?_⟩
        · have hi' : i < ns.length := by omega
          have ek : ∀ z, ns.getD (i : Int).toNat z = ns[i] := fun z => by simp [hi']
          have hfd : idxV (fun y : Nd => decide (y.1 = (ns[i]).1)) ns = i := hg.find hi'; simp only [ek, hfd]
          (repeat' with_reducible first | refine And.intro ?_ ?_ | intro _) <;> try first | with_reducible (first | assumption | omega | contradiction) | decide
          all_goals first
           | omega
           | (refine dA0 ⟨i + 1, by omega⟩ ?_ (by dsimp only; omega)
              simp only [go_sem]
              try rfl
              done)
        · have hul := dA4 0 ns.length; refine ⟨hg, fun h => h.elim, hg, fun _ _ _ => ⟨fun h => by omega, fun _ => ?_⟩⟩; refine cA0 ⟨{ i : Nat // i ≤ ds.length }, 3000, fun q => [(1, .one (.loc 64 0)), (3, .one (.int .i64 c)), (7, .one (.int .i64 q.1))], fun q => [(64, .cells 30 [.sl yNO ns false, .sl yPL ds false])], fun q => ds.length - q.1⟩ ⟨0, Nat.zero_le _⟩ ?_ ?_
          · simp only [go_sem]; rfl
          · rintro ⟨i, (hi : i ≤ ds.length)⟩
            (simp -implicitDefEqProofs (maxSteps := 4000000) only [go_sem, bP, con51, con52, con59, con89, con90, con91, con92, hT, hG, hk, hK, Tryz.results51]); (try simp (disch := decide +kernel) only [drawn, true_and, and_true])
            refine fun _ => ⟨fun hlt => ?_, fun hge => ?_⟩
            · have hi' : i < ds.length := by omega
              have ek : ∀ z, ds.getD (i : Int).toNat z = ds[i] := fun z => by simp [hi']
              have hdi := hd.ok ds[i] (List.getElem_mem hi'); simp only [ek]; obtain ⟨y, ey⟩ : ∃ y, ns.getD (ds[i].2.1).toNat nd0 = y := ⟨_, rfl⟩; have ey' : ns.getD (ds[i].2.1).toNat (ByteArray.empty, 0, 0, 0, []) = y := ey; dsimp only at hdi; rw [ey] at hdi; simp only [ey']
              (repeat' with_reducible first | refine And.intro ?_ ?_ | intro _) <;> try first | with_reducible (first | assumption | omega | contradiction) | decide
              all_goals first
               | omega
               | (refine dA0 ⟨i + 1, by omega⟩ ?_ (by dsimp only; omega)
                  simp only [go_sem]
                  try rfl
                  done)
            · refine cA0 ⟨{ i : Nat // i ≤ ds.length }, 4000, fun q => [(1, .one (.loc 64 0)), (3, .one (.int .i64 c)), (9, .one (.int .i64 q.1))], fun q => [(64, .cells 30 [.sl yNO ns false, .sl yPL ds false])], fun q => ds.length - q.1⟩ ⟨0, Nat.zero_le _⟩ ?_ ?_
              · simp only [go_sem]; rfl
              · rintro ⟨i, (hi : i ≤ ds.length)⟩
                (simp -implicitDefEqProofs (maxSteps := 4000000) only [go_sem, bP, con51, con52, con59, con89, con90, con91, con92, hT, hG, hk, hK, Tryz.results51]); (try simp (disch := decide +kernel) only [drawn, true_and, and_true])
                refine fun _ => ⟨fun hlt => ?_, fun hge => ?_⟩
                · refine cA0 ⟨{ k : Nat // k ≤ i }, 5000, fun q => [(1, .one (.loc 64 0)), (3, .one (.int .i64 c)), (9, .one (.int .i64 i)), (10, .one (.int .i64 q.1))], fun q => [(64, .cells 30 [.sl yNO ns false, .sl yPL ds false])], fun q => i - q.1⟩ ⟨0, Nat.zero_le _⟩ ?_ ?_
                  · simp only [go_sem]; rfl
                  · rintro ⟨k, (hki : k ≤ i)⟩
                    (simp -implicitDefEqProofs (maxSteps := 4000000) only [go_sem, bP, con51, con52, con59, con89, con90, con91, con92, hT, hG, hk, hK, Tryz.results51]); (try simp (disch := decide +kernel) only [drawn, true_and, and_true])
                    have hi' : i < ds.length := by omega
                    have ek : ∀ z, ds.getD (i : Int).toNat z = ds[i] := fun z => by simp [hi']
                    simp only [ek]; refine ⟨fun hlt => ?_, fun hge => ?_⟩
                    · have hk' : k < ds.length := by omega
                      have ek2 : ∀ z, ds.getD (k : Int).toNat z = ds[k] := fun z => by simp [hk']
                      simp only [ek2]; have hne : ¬ (ds[i].1 = ds[k].1 ∧ ds[i].2.1 = ds[k].2.1 ∧ ds[i].2.2 = ds[k].2.2) := fun h => by
                       have e : ds[i] = ds[k] := by
                        obtain ⟨h1, h2, h3⟩ := h; exact Prod.ext h1 (Prod.ext h2 h3)
                       have := (List.getElem_inj hd.nd).1 e; omega
                      (repeat' with_reducible first | refine And.intro ?_ ?_ | intro _) <;> try first | with_reducible (first | assumption | omega | contradiction) | decide
                      all_goals first
                       | omega
                       | (refine dA0 ⟨k + 1, by omega⟩ ?_ (by dsimp only; omega)
                          simp only [go_sem]
                          try rfl
                          done)
                    · refine ⟨by omega, ?_⟩; refine dA0 ⟨i + 1, by omega⟩ ?_ (by dsimp only; omega); simp only [go_sem]; rfl
                · intro h; omega)
def con80 : Con := { ps := [.d true yLY], rs := [.d false (.sl yI)], pre := fun (x : Ly × Unit) => GoodL x.1, out := fun (x : Ly × Unit) => (upL 0 x.1.1.length, ()), nw := id }
theorem c80 : CtrOk Tryz.prog 80 con80.ctr :=
 aA0 eA0 (eC c51 has51 (eC c91 has91 eN)) rfl Tryz.func80 rfl con80 39 (by kernel_rfl) (by decide) (by decide) rfl (by decide) rfl (by
  rintro ⟨⟨(ns : List Nd), (ds : List Dv)⟩, _⟩ hpre hwf X hT hG hk hK; have hg : GoodL (ns, ds) := hpre
  (simp -implicitDefEqProofs (maxSteps := 4000000) only [go_sem, bP, con80, con51, con91, hT, hG, hk, hK, Tryz.results80] at hwf ⊢)
  exact ⟨hg, fun _ => ⟨fun h => h.elim, hg⟩⟩)
def con119 : Con := { ps := [.d false (.int .u8)], rs := [.d false .bool], pre := fun _ => True, out := fun (x : Int × Unit) => (decide (65 ≤ x.1) && decide (x.1 ≤ 90), ()), nw := id }
theorem c119 : CtrOk Tryz.prog 119 con119.ctr :=
 aA0 eA0 eN rfl Tryz.func119 rfl con119 5 (by kernel_rfl) (by decide) (by decide) rfl (by decide) rfl (by
  rintro ⟨(c : Int), _⟩ hpre hwf X hT hG hk hK
  (simp -implicitDefEqProofs (maxSteps := 4000000) only [go_sem, con119, hT, hG, hk, hK, Tryz.results119] at hwf ⊢))
def con122 : Con := { ps := [.d false (.int .u8)], rs := [.d false .bool], pre := fun _ => True, out := fun (x : Int × Unit) => (decide (48 ≤ x.1) && decide (x.1 ≤ 57), ()), nw := id }
theorem c122 : CtrOk Tryz.prog 122 con122.ctr :=
 aA0 eA0 eN rfl Tryz.func122 rfl con122 5 (by kernel_rfl) (by decide) (by decide) rfl (by decide) rfl (by
  rintro ⟨(c : Int), _⟩ hpre hwf X hT hG hk hK
  (simp -implicitDefEqProofs (maxSteps := 4000000) only [go_sem, con122, hT, hG, hk, hK, Tryz.results122] at hwf ⊢))
def con121 : Con := { ps := [.d false (.int .u8)], rs := [.d false .bool], pre := fun (x : Int × Unit) => 65 ≤ x.1 ∧ x.1 ≤ 90, out := fun _ => (true, ()), nw := id }
theorem c121 : CtrOk Tryz.prog 121 con121.ctr :=
 aA0 eA0 (eC c119 has119 (eC c122 has122 eN)) rfl Tryz.func121 rfl con121 5 (by kernel_rfl) (by decide) (by decide) rfl (by decide) rfl (by
  rintro ⟨(c : Int), _⟩ hpre hwf X hT hG hk hK; obtain ⟨h1, h2⟩ : 65 ≤ c ∧ c ≤ 90 := hpre
  (simp -implicitDefEqProofs (maxSteps := 4000000) only [go_sem, bP, con121, con119, con122, hT, hG, hk, hK, Tryz.results121] at hwf ⊢)
  (repeat' with_reducible first | refine And.intro ?_ ?_ | intro _) <;> try first | with_reducible (first | assumption | omega | contradiction) | decide
  all_goals first
   | omega)
def con120 : Con := { ps := [.d false .str, .cl 121 []], rs := [.d false .bool], pre := fun (x : ByteArray × Unit × Unit) => Nm1 x.1, out := fun _ => (true, ()), nw := id }
theorem c120 : CtrOk Tryz.prog 120 con120.ctr :=
 aA0 eA0 (eC c121 has121 eN) rfl Tryz.func120 rfl con120 66483 (by kernel_rfl) (by decide) (by decide) rfl (by decide) rfl (by
  rintro ⟨(s : ByteArray), _⟩ hpre hwf X hT hG hk hK; obtain ⟨c, h1, h2, rfl⟩ : Nm1 s := hpre
  (simp -implicitDefEqProofs (maxSteps := 4000000) only [go_sem, bP, con120, con121, hT, hG, hk, hK, Tryz.results120] at hwf ⊢)
  clear hwf; have e0 := pA8 (c := c) ⟨h1, h2⟩; refine fun _ => cA0 ⟨{ i : Nat // i ≤ 1 }, 1000, fun i => [(0, .one (.str (strOf [c]))), (1, .one (.fn 121 [])), (7, .one (.int .i64 1)), (8, .one (.int .i64 i.1))], fun _ => [], fun i => 1 - i.1⟩ ⟨0, Nat.zero_le _⟩ ?_ ?_
  · simp only [go_sem]
    try first | rfl | (and_intros <;> first | trivial | rfl | omega)
  · rintro ⟨i, (hi : i ≤ 1)⟩
    (simp -implicitDefEqProofs (maxSteps := 4000000) only [go_sem, bP, con120, con121, hT, hG, hk, hK, Tryz.results120])
    simp only [zA2]; intro hlt; have : i = 0 := by omega
    subst this; have e1 : byteAt (strOf [c]) ((0 : Nat) : Int) = c := e0; simp only [e1]
    (repeat' with_reducible first | refine And.intro ?_ ?_ | intro _) <;> try first | with_reducible (first | assumption | omega | contradiction) | decide
    refine dA0 ⟨1, by omega⟩ ?_ (by dsimp only; omega); simp only [go_sem]; rfl)
def con98 : Con := { ps := [.d false .str, .d false yI], rs := [.d false .bool], pre := fun (x : ByteArray × Int × Unit) => Nm1 x.1 ∧ x.2.1 = 12, out := fun _ => (true, ()), nw := id }
theorem c98 : CtrOk Tryz.prog 98 con98.ctr :=
 aA0 eA0 (eC c119 has119 (eC c120 has120 (eC c121 has121 eN))) rfl Tryz.func98 rfl con98 19 (by kernel_rfl) (by decide) (by decide) rfl (by decide) rfl (by
  rintro ⟨(s : ByteArray), (m : Int), _⟩ hpre hwf X hT hG hk hK; obtain ⟨h, rfl⟩ : Nm1 s ∧ m = 12 := hpre; have hnm := h; obtain ⟨c, h1, h2, rfl⟩ := h
  (simp -implicitDefEqProofs (maxSteps := 4000000) only [go_sem, bP, con98, con119, con120, con121, hT, hG, hk, hK, Tryz.results98] at hwf ⊢)
  clear hwf; have e0 := pA8 (c := c) ⟨h1, h2⟩; simp only [zA2]; simp only [e0]
  (repeat' with_reducible first | refine And.intro ?_ ?_ | intro _) <;> try first | with_reducible (first | assumption | omega | contradiction) | decide
  all_goals first
   | omega
   | exact hnm
   | (intro h; have h := congrArg ByteArray.size h; rw [zA2] at h; cases h))
def con123 : Con := { ps := [.d false yI], rs := [.d false .bool], pre := fun _ => True, out := fun (x : Int × Unit) => (strN x.1, ()), nw := id }
theorem c123 : CtrOk Tryz.prog 123 con123.ctr :=
 aA0 eA0 eN rfl Tryz.func123 rfl con123 5 (by kernel_rfl) (by decide) (by decide) rfl (by decide) rfl (by
  rintro ⟨(c : Int), _⟩ hpre hwf X hT hG hk hK
  (simp -implicitDefEqProofs (maxSteps := 4000000) only [go_sem, con123, hT, hG, hk, hK, Tryz.results123] at hwf ⊢)
  simp [strN])
def con124 : Con := { ps := [.d false yI], rs := [.d false yI], pre := fun _ => True, out := fun (x : Int × Unit) => ((exN x.1 : Int), ()), nw := id }
theorem c124 : CtrOk Tryz.prog 124 con124.ctr :=
 aA0 eA0 eN rfl Tryz.func124 rfl con124 157 (by kernel_rfl) (by decide) (by decide) rfl (by decide) rfl (by
  rintro ⟨(c : Int), _⟩ hpre hwf X hT hG hk hK
  (simp -implicitDefEqProofs (maxSteps := 4000000) only [go_sem, bP, con124, hT, hG, hk, hK, Tryz.results124] at hwf ⊢)
  unfold exN
  (repeat' with_reducible first | refine And.intro ?_ ?_ | intro _) <;> try first | with_reducible (first | assumption | omega | contradiction) | decide
  all_goals first
   | (rw [if_pos (by omega)]; rfl)
   | (rw [if_neg (by omega), if_pos (by omega)]; rfl)
   | (rw [if_neg (by omega), if_neg (by omega)]; rfl)
   | (exfalso; omega))
def con99 : Con := { ps := [.d true yNO], rs := [.d false .bool], pre := fun (x : Nd × Unit) => (strN x.1.2.1 = true → 1 ≤ x.1.2.2.1 ∧ x.1.2.2.1 ≤ 8 ∧ (x.1.2.1 = 5 → 2 ≤ x.1.2.2.1)) ∧ (strN x.1.2.1 = false → x.1.2.2.1 = 0), out := fun _ => (true, ()), nw := id }
theorem c99 : CtrOk Tryz.prog 99 con99.ctr :=
 aA0 eA0 (eC c123 has123 eN) rfl Tryz.func99 rfl con99 2063 (by kernel_rfl) (by decide) (by decide) rfl (by decide) rfl (by
  rintro ⟨⟨x1, (x2 : Int), (x3 : Int), (x4 : Int), (x5 : List Int)⟩, _⟩ hpre hwf X hT hG hk hK; obtain ⟨h1, h2⟩ : (strN x2 = true → 1 ≤ x3 ∧ x3 ≤ 8 ∧ (x2 = 5 → 2 ≤ x3)) ∧ (strN x2 = false → x3 = 0) := hpre
  (simp -implicitDefEqProofs (maxSteps := 4000000) only [go_sem, bP, con99, con123, hT, hG, hk, hK, Tryz.results99] at hwf ⊢)
  clear hwf
  (repeat' with_reducible first | refine And.intro ?_ ?_ | intro _) <;> try first | with_reducible (first | assumption | omega | contradiction) | decide
  all_goals first
   | (have h := h1 (by assumption); omega)
   | (have h := h2 (by assumption); omega)
   | (cases hs : strN x2 with
      | true => have h := h1 hs; omega
      | false => have h := h2 hs; first | omega | (simp [hs] at *; done)))
theorem hA8 {α : Type} (p : α → Bool) (l : List α) : decide (0 ≤ idxV p l) = l.any p := by
 unfold idxV; by_cases h : l.findIdx p < l.length
 · rw [if_pos h, List.any_eq_true.2 (List.findIdx_lt_length.1 h)]; simp
 · rw [if_neg h]
   cases hb : l.any p with
   | false => rfl
   | true => exact absurd (List.findIdx_lt_length.2 (List.any_eq_true.1 hb)) h
def con137 : Con := { ps := [.d false (.sl yI), .d false yI], rs := [.d false yI], pre := fun _ => True, out := fun (x : List Int × Int × Unit) => (idxV (fun y : Int => decide (x.2.1 = y)) x.1, ()), nw := id }
theorem c137 : CtrOk Tryz.prog 137 con137.ctr :=
 aA0 eA0 eN rfl Tryz.func137 rfl con137 66483 (by kernel_rfl) (by decide) (by decide) rfl (by decide) rfl (by
  rintro ⟨(l : List Int), (v : Int), _⟩ hpre hwf X hT hG hk hK
  (simp -implicitDefEqProofs (maxSteps := 4000000) only [go_sem, bP, con137, hT, hG, hk, hK, Tryz.results137] at hwf ⊢)
  clear hwf; refine fun _ => cA0 ⟨{ i : Nat // i ≤ l.length ∧ ∀ k (h : k < l.length), k < i → decide (v = l[k]) = false }, 1000, fun q => [(0, .one (.sl yI l false)), (1, .one (.int .i64 v)), (7, .one (.int .i64 l.length)), (8, .one (.int .i64 q.1))], fun _ => [], fun q => l.length - q.1⟩ ⟨0, Nat.zero_le _, fun k h hk => by omega⟩ ?_ ?_
  · simp only [go_sem]; rfl
  · rintro ⟨i, (hi : i ≤ l.length), hz⟩
    (simp -implicitDefEqProofs (maxSteps := 4000000) only [go_sem, bP, con137, hT, hG, hk, hK, Tryz.results137])
    refine ⟨fun hlt => ?_, fun hge => ?_⟩
    · have hi' : i < l.length := by omega
      have ek : ∀ z, l.getD (i : Int).toNat z = l[i] := fun z => by simp [hi']
      simp only [ek]
      (repeat' with_reducible first | refine And.intro ?_ ?_ | intro _) <;> try first | with_reducible (first | assumption | omega | contradiction) | decide
      all_goals first
       | (have h : v = l[i] := by assumption
          exact (vA1 (p := fun y : Int => decide (v = y)) hi' (decide_eq_true h) (fun k hk => hz k (by omega) hk)).symm)
       | (have h : ¬ v = l[i] := by assumption
          refine dA0 ⟨i + 1, by omega, fun k hk1 hk => ?_⟩ ?_ (by dsimp only; omega)
          · by_cases e : k = i
            · subst e; exact decide_eq_false h
            · exact hz k hk1 (by omega)
          · simp only [go_sem]
            try rfl
          done)
    · exact (mA1 (p := fun y : Int => decide (v = y)) (fun k hk => hz k hk (by omega))).symm)
def con125 : Con := { ps := [.d false (.sl yI), .d false yI], rs := [.d false .bool], pre := fun _ => True, out := fun (x : List Int × Int × Unit) => (x.1.any (fun y : Int => decide (x.2.1 = y)), ()), nw := id }
theorem c125 : CtrOk Tryz.prog 125 con125.ctr :=
 aA0 eA0 (eC c137 has137 eN) rfl Tryz.func125 rfl con125 19 (by kernel_rfl) (by decide) (by decide) rfl (by decide) rfl (by
  rintro ⟨(l : List Int), (v : Int), _⟩ hpre hwf X hT hG hk hK
  (simp -implicitDefEqProofs (maxSteps := 4000000) only [go_sem, bP, con125, con137, hT, hG, hk, hK, Tryz.results125] at hwf ⊢)
  exact fun _ => hA8 _ l)
def con64 : Con := { ps := [.d true yLY], rs := [.d false yI], pre := fun (x : Ly × Unit) => GoodL x.1, out := fun (x : Ly × Unit) => (totV x.1.1, ()), nw := id }
theorem c64 : CtrOk Tryz.prog 64 con64.ctr :=
 aA0 eA0 eN rfl Tryz.func64 rfl con64 1967 (by kernel_rfl) (by decide) (by decide) rfl (by decide) rfl (by
  rintro ⟨⟨(ns : List Nd), (ds : List Dv)⟩, _⟩ hpre hwf X hT hG hk hK; have hg : GoodL (ns, ds) := hpre
  (simp -implicitDefEqProofs (maxSteps := 4000000) only [go_sem, bP, con64, hT, hG, hk, hK, Tryz.results64] at hwf ⊢)
  clear hwf; have h8 := hg.le8; have hn24 : ns.length ≤ 24 := hg.n24; refine fun _ => cA0 ⟨{ i : Nat // i ≤ ns.length }, 1000, fun i => [(1, .one (.loc 64 0)), (3, .one (.int .i64 (totV (ns.take i.1)))), (7, .one (.sl yNO ns false)), (8, .one (.int .i64 ns.length)), (9, .one (.int .i64 i.1))], fun i => [(64, .cells 30 [.sl yNO ns false, .sl yPL ds false])], fun i => ns.length - i.1⟩ ⟨0, Nat.zero_le _⟩ ?_ ?_
  · simp only [go_sem]
    try first | rfl | (and_intros <;> first | trivial | rfl | omega)
  · rintro ⟨i, (hi : i ≤ ns.length)⟩
    (simp -implicitDefEqProofs (maxSteps := 4000000) only [go_sem, bP, con64, hT, hG, hk, hK, Tryz.results64])
    have hb := mC3 (ns := ns.take i) (fun y hy => h8 y (List.mem_of_mem_take hy)); rw [List.length_take] at hb; refine ⟨fun hlt => ?_, fun hge => ?_⟩
    · have hi' : i < ns.length := by omega
      have ek : ∀ z, ns.getD (i : Int).toNat z = ns[i] := fun z => by simp [hi']
      have hk8 := h8 ns[i] (List.getElem_mem hi'); simp only [ek]; have ht := cB4 hi'
      (repeat' with_reducible first | refine And.intro ?_ ?_ | intro _) <;> try first | with_reducible (first | assumption | omega | contradiction) | decide
      all_goals first
       | omega
       | (refine dA0 ⟨i + 1, by omega⟩ ?_ (by dsimp only; omega)
          simp only [go_sem]; rw [ht]
          try first | rfl | (and_intros <;> first | trivial | rfl | omega)
          done)
    · rw [show i = ns.length by omega, List.take_length])
def con100 : Con := { ps := [.d true yLY, .d false yI], rs := [.d false .bool], pre := fun (x : Ly × Int × Unit) => GoodL x.1 ∧ 0 ≤ x.2.1 ∧ x.2.1 < x.1.1.length, out := fun _ => (true, ()), nw := id }
theorem c100 : CtrOk Tryz.prog 100 con100.ctr :=
 aA0 eA0 (eC c124 has124 (eC c125 has125 eN)) rfl Tryz.func100 rfl con100 576460752367387127 (by kernel_rfl) (by decide) (by decide) rfl (by decide) rfl (by
  rintro ⟨⟨(ns : List Nd), (ds : List Dv)⟩, (i0 : Int), _⟩ hpre hwf X hT hG hk hK; obtain ⟨hg, h1, h2⟩ : GoodL (ns, ds) ∧ 0 ≤ i0 ∧ i0 < ns.length := hpre; obtain ⟨i, rfl⟩ : ∃ i : Nat, i0 = i := ⟨i0.toNat, by omega⟩; have hi : i < ns.length := by omega
  (simp -implicitDefEqProofs (maxSteps := 4000000) only [go_sem, bP, con100, con124, con125, hT, hG, hk, hK, Tryz.results100] at hwf ⊢); (try simp (disch := decide +kernel) only [drawn, true_and, and_true])
  clear hwf; have ek : ∀ z, ns.getD (i : Int).toNat z = ns[i] := fun z => by simp [hi]
  have ha : NdAt ns i ns[i] := hg.at hi; have hn24 := hg.n24; simp only [ek]; generalize ns[i] = x at *; obtain ⟨x1, (x2 : Int), (x3 : Int), (x4 : Int), (x5 : List Int)⟩ := x; obtain ⟨g1, g2, g3, g4, g5, g6, g7, g8, g9, g10, g11, g12⟩ := ha; dsimp only at g1 g2 g3 g4 g5 g6 g7 g8 g9 g10 g12; dsimp only; have hexn : x5.length = exN x2 := g6; have hx2 : x5.length ≤ 2 := by 
   rw [hexn]; unfold exN; split
   · omega
   · split <;> omega
  (repeat' with_reducible first | refine And.intro ?_ ?_ | intro _) <;> try first | with_reducible (first | assumption | omega | contradiction) | decide
  all_goals first
   | (exfalso; omega)
   | skip
  all_goals refine cA0 ⟨{ k : Nat // k ≤ x5.length }, 1000, fun k => [(1, .one (.int .i64 i)), (2, .one (.loc 64 0)), (5, .one (.loc 65 0)), (22, .one (.sl yI x5 false)), (23, .one (.int .i64 x5.length)), (24, .one (.int .i64 k.1))], fun k => [(64, .cells 30 [.sl yNO ns false, .sl yPL ds false]), (65, .cells 56 [.str x1, .int .i64 x2, .int .i64 x3, .int .i64 x4, .sl yI x5 false])], fun k => x5.length - k.1⟩ ⟨0, Nat.zero_le _⟩ ?_ ?_
  all_goals first
   | (simp only [go_sem]
      try first | rfl | (and_intros <;> first | trivial | rfl | omega)
      done)
   | skip
  all_goals
   rintro ⟨k, (hkl : k ≤ x5.length)⟩
   (simp -implicitDefEqProofs (maxSteps := 4000000) only [go_sem, bP, con100, con124, con125, hT, hG, hk, hK, Tryz.results100]); (try simp (disch := decide +kernel) only [drawn, true_and, and_true])
   intro hlt; have hk' : k < x5.length := by omega
   have e5 : ∀ z, x5.getD (k : Int).toNat z = x5[k] := fun z => by simp [hk']
   simp only [e5]; have h7 := g7 k hk'; have hany : (x5.take k).any (fun y : Int => decide (x5[k] = y)) = false := by
    rw [List.any_eq_false]; intro y hy; rw [decide_eq_true_eq]; intro h; subst h; obtain ⟨q, hq, e⟩ := List.getElem_of_mem hy; rw [List.length_take] at hq; rw [List.getElem_take] at e; exact g8 (by omega) (by
     have hq0 : q = 0 := by omega
     have hk1 : k = 1 := by omega
     subst hq0; subst hk1; rw [gdE, gdE, List.getElem?_eq_getElem (by omega), List.getElem?_eq_getElem (by omega)]; exact e)
   have ekk : (k : Int).toNat = k := Int.toNat_natCast k; simp only [ekk, hany]; generalize x5[k] = e at *; have hq : decide (e = (i : Int)) = (decide (x2 = 5) && decide ((k : Int) = 0)) := by
    rw [Bool.eq_iff_iff, Bool.and_eq_true, decide_eq_true_eq, decide_eq_true_eq, decide_eq_true_eq]; omega
   (repeat' with_reducible first | refine And.intro ?_ ?_ | intro _) <;> try first | with_reducible (first | assumption | omega | contradiction) | decide
   all_goals first
    | omega
    | (have h : ((e < 0 ∨ e ≥ (ns.length : Int)) ∨ ¬decide (e = (i : Int)) = (decide (x2 = 5) && decide ((k : Int) = 0))) ∨ false = true := by assumption
       rcases h with (h | h) | h
       · omega
       · exact h hq
       · cases h)
    | (refine dA0 ⟨k + 1, by omega⟩ ?_ (by dsimp only; omega)
       simp only [go_sem]
       try rfl
       done))
def con63 : Con := { ps := [.d true yLY, .d false yI], rs := [.d false yI], pre := fun (x : Ly × Int × Unit) => GoodL x.1 ∧ 0 ≤ x.2.1 ∧ x.2.1 < x.1.1.length, out := fun _ => (0, ()), nw := id }
theorem c63 : CtrOk Tryz.prog 63 con63.ctr :=
 aA0 eA0 (eC c98 has98 (eC c99 has99 (eC c100 has100 eN))) rfl Tryz.func63 rfl con63 33622071 (by kernel_rfl) (by decide) (by decide) rfl (by decide) rfl (by
  rintro ⟨⟨(ns : List Nd), (ds : List Dv)⟩, (i0 : Int), _⟩ hpre hwf X hT hG hk hK; obtain ⟨hg, h1, h2⟩ : GoodL (ns, ds) ∧ 0 ≤ i0 ∧ i0 < ns.length := hpre; obtain ⟨i, rfl⟩ : ∃ i : Nat, i0 = i := ⟨i0.toNat, by omega⟩; have hi : i < ns.length := by omega
  (simp -implicitDefEqProofs (maxSteps := 4000000) only [go_sem, bP, con63, con98, con99, con100, hT, hG, hk, hK, Tryz.results63] at hwf ⊢)
  clear hwf; have ek : ∀ z, ns.getD (i : Int).toNat z = ns[i] := fun z => by simp [hi]
  have ha : NdAt ns i ns[i] := hg.at hi; have hn24 := hg.n24; simp only [ek]; generalize ns[i] = x at *; obtain ⟨x1, (x2 : Int), (x3 : Int), (x4 : Int), (x5 : List Int)⟩ := x; obtain ⟨g1, g2, g3, g4, g5, g6, g7, g8, g9, g10, g11, g12⟩ := ha; dsimp only at g1 g2 g3 g4 g5 g6 g7 g8 g9 g10 g12; dsimp only
  (repeat' with_reducible first | refine And.intro ?_ ?_ | intro _) <;> try first | with_reducible (first | assumption | omega | contradiction) | decide
  all_goals first
   | omega
   | exact g12
   | exact hg
   | (have h := g2 (by assumption); omega)
   | exact g4 (by assumption))
def con66 : Con := { ps := [.d true yLY, .d false yI], rs := [.d false .bool], pre := fun (x : Ly × Int × Unit) => GoodL x.1 ∧ 0 ≤ x.2.1 ∧ x.2.1 < x.1.1.length, out := fun _ => (true, ()), nw := id }
theorem c66 : CtrOk Tryz.prog 66 con66.ctr :=
 aA0 eA0 eN rfl Tryz.func66 rfl con66 4611721219186721271 (by kernel_rfl) (by decide) (by decide) rfl (by decide) rfl (by
  rintro ⟨⟨(ns : List Nd), (ds : List Dv)⟩, (i0 : Int), _⟩ hpre hwf X hT hG hk hK; obtain ⟨hg, h1, h2⟩ : GoodL (ns, ds) ∧ 0 ≤ i0 ∧ i0 < ns.length := hpre; obtain ⟨i, rfl⟩ : ∃ i : Nat, i0 = i := ⟨i0.toNat, by omega⟩; have hi : i < ns.length := by omega
  (simp -implicitDefEqProofs (maxSteps := 4000000) only [go_sem, bP, con66, hT, hG, hk, hK, Tryz.results66] at hwf ⊢)
  clear hwf; have ek : ∀ z, ns.getD (i : Int).toNat z = ns[i] := fun z => by simp [hi]
  have ha : NdAt ns i ns[i] := hg.at hi; have hn24 := hg.n24; simp only [ek]; generalize ns[i] = x at *; obtain ⟨x1, (x2 : Int), (x3 : Int), (x4 : Int), (x5 : List Int)⟩ := x; obtain ⟨g1, g2, g3, g4, g5, g6, g7, g8, g9, g10, g11, g12⟩ := ha; dsimp only at g1 g2 g3 g4 g5 g6 g7 g8 g9 g10 g11 g12; dsimp only; have gx : ∀ (k : Nat) (h : k < x5.length), 0 ≤ x5[k] ∧ x5[k] < ns.length := fun k h => by have := g7 k h; omega
  (repeat' with_reducible first | refine And.intro ?_ ?_ | intro _) <;> try first | with_reducible (first | assumption | omega | contradiction) | decide
  all_goals first
   | (exfalso; omega)
   | skip
  all_goals refine cA0 ⟨{ k : Nat // k ≤ x5.length }, 2000, fun k => [(1, .one (.int .i64 i)), (2, .one (.loc 64 0)), (5, .one (.loc 65 0)), (30, .one (.sl yI x5 false)), (31, .one (.int .i64 x5.length)), (32, .one (.int .i64 k.1))], fun k => [(64, .cells 30 [.sl yNO ns false, .sl yPL ds false]), (65, .cells 56 [.str x1, .int .i64 x2, .int .i64 x3, .int .i64 x4, .sl yI x5 false])], fun k => x5.length - k.1⟩ ⟨0, Nat.zero_le _⟩ ?_ ?_
  all_goals first
   | (simp only [go_sem]
      try first | rfl | (and_intros <;> first | trivial | rfl | omega)
      done)
   | skip
  all_goals
   rintro ⟨k, (hkl : k ≤ x5.length)⟩
   (simp -implicitDefEqProofs (maxSteps := 4000000) only [go_sem, bP, con66, hT, hG, hk, hK, Tryz.results66])
   intro hlt; have hk' : k < x5.length := by omega
   have e5 : ∀ z, x5.getD (k : Int).toNat z = x5[k] := fun z => by simp [hk']
   simp only [e5]; have h7 := gx k hk'; have h11 := g11 k hk'; obtain ⟨y, ey⟩ : ∃ y, ns.getD (x5[k]).toNat nd0 = y := ⟨_, rfl⟩; have ey' : ns.getD (x5[k]).toNat (ByteArray.empty, 0, 0, 0, []) = y := ey; rw [ey] at h11; simp only [ey']; generalize x5[k] = e at *
   (repeat' with_reducible first | refine And.intro ?_ ?_ | intro _) <;> try first | with_reducible (first | assumption | omega | contradiction) | decide
   all_goals first
    | omega
    | (have h12 := h11.2
       rw [if_neg (by omega)] at h12
       omega)
    | (have h12 := h11.2
       rw [if_pos (by omega)] at h12
       omega)
    | (refine dA0 ⟨k + 1, by omega⟩ ?_ (by dsimp only; omega)
       simp only [go_sem]
       try rfl
       done))
structure RawT where
 ctr : Ctr
def isFnA (g : FuncId) : List AV → Bool
 | [_, .one (.fn g' _)] => decide (g' = g)
 | _ => false
def orFn (g : FuncId) (A B : Ctr) : Ctr := fun avs m fr => if isFnA g avs = true then A avs m fr else B avs m fr
theorem jD0 {P : Program} {f : FuncId} {g : FuncId} {A B : Ctr} (hA : CtrOk P f A) (hB : CtrOk P f B) : CtrOk P f (orFn g A B) := by
 intro D gv hD cx hcx σ N m w fr avs vs h1 h2 h3 h4; unfold orFn at h4 ⊢; by_cases h : isFnA g avs = true
 · simp only [if_pos h] at h4 ⊢; exact hA D gv hD cx hcx σ N m w fr avs vs h1 h2 h3 h4
 · simp only [if_neg h] at h4 ⊢; exact hB D gv hD cx hcx σ N m w fr avs vs h1 h2 h3 h4
attribute [go_sem] isFnA orFn
def con126 : Con := { ps := [.d true yNO, .p 9 .str], rs := [.d false .bool], pre := fun _ => True, out := fun (x : Nd × ByteArray × Unit) => (decide (x.1.1 = x.2.1), ()), nw := id }
theorem c126 : CtrOk Tryz.prog 126 con126.ctr :=
 aA0 eA0 eN rfl Tryz.func126 rfl con126 15 (by kernel_rfl) (by decide) (by decide) rfl (by decide) rfl (by
  rintro ⟨⟨x1, (x2 : Int), (x3 : Int), (x4 : Int), (x5 : List Int)⟩, (s : ByteArray), _⟩ hpre hwf X hT hG hk hK
  (simp -implicitDefEqProofs (maxSteps := 4000000) only [go_sem, bP, con126, hT, hG, hk, hK, Tryz.results126] at hwf ⊢))
def con70 : Con := { ps := [.d true yNO], rs := [.d false .bool], pre := fun _ => True, out := fun (x : Nd × Unit) => (decide (x.1.2.1 = 1), ()), nw := id }
theorem c70 : CtrOk Tryz.prog 70 con70.ctr :=
 aA0 eA0 eN rfl Tryz.func70 rfl con70 7 (by kernel_rfl) (by decide) (by decide) rfl (by decide) rfl (by
  rintro ⟨⟨x1, (x2 : Int), (x3 : Int), (x4 : Int), (x5 : List Int)⟩, _⟩ hpre hwf X hT hG hk hK
  (simp -implicitDefEqProofs (maxSteps := 4000000) only [go_sem, bP, con70, hT, hG, hk, hK, Tryz.results70] at hwf ⊢))
def conIxA : Con := { ps := [.d false (.sl yNO), .cl 126 [.p 9 .str]], rs := [.d false yI], pre := fun _ => True, out := fun (x : List Nd × (ByteArray × Unit) × Unit) => (idxV (fun y : Nd => decide (y.1 = x.2.1.1)) x.1, ()), nw := id }
theorem cIxA : CtrOk Tryz.prog 103 conIxA.ctr :=
 aA0 eA0 (eC c126 has126 eN) rfl Tryz.func103 rfl conIxA 66483 (by kernel_rfl) (by decide) (by decide) rfl (by decide) rfl (by
  rintro ⟨(l : List Nd), ⟨(s : ByteArray), _⟩, _⟩ hpre hwf X hT hG hk hK
  (simp -implicitDefEqProofs (maxSteps := 4000000) only [go_sem, bP, conIxA, con126, hT, hG, hk, hK, Tryz.results103] at hwf ⊢)
  clear hwf; refine fun _ => cA0 ⟨{ i : Nat // i ≤ l.length ∧ ∀ k (h : k < l.length), k < i → decide ((l[k]).1 = s) = false }, 1000, fun q => [(0, .one (.sl yNO l false)), (1, .one (.fn 126 [.loc 12 0])), (7, .one (.int .i64 l.length)), (8, .one (.int .i64 q.1))], fun _ => [(12, .cells 9 [.str s])], fun q => l.length - q.1⟩ ⟨0, Nat.zero_le _, fun k h hk => by omega⟩ ?_ ?_
  · simp only [go_sem]; rfl
  · rintro ⟨i, (hi : i ≤ l.length), hz⟩
    (simp -implicitDefEqProofs (maxSteps := 4000000) only [go_sem, bP, conIxA, con126, hT, hG, hk, hK, Tryz.results103])
    refine ⟨fun hlt => ?_, fun hge => ?_⟩
    · have hi' : i < l.length := by omega
      have ek : ∀ z, l.getD (i : Int).toNat z = l[i] := fun z => by simp [hi']
      simp only [ek]
      (repeat' with_reducible first | refine And.intro ?_ ?_ | intro _) <;> try first | with_reducible (first | assumption | omega | contradiction) | decide
      all_goals first
       | (have h : (l[i]).1 = s := by assumption
          exact (vA1 (p := fun y : Nd => decide (y.1 = s)) hi' (decide_eq_true h) (fun k hk => hz k (by omega) hk)).symm)
       | (have h : ¬ (l[i]).1 = s := by assumption
          refine dA0 ⟨i + 1, by omega, fun k hk1 hk => ?_⟩ ?_ (by dsimp only; omega)
          · by_cases e : k = i
            · subst e; exact decide_eq_false h
            · exact hz k hk1 (by omega)
          · simp only [go_sem]
            try rfl
          done)
    · exact (mA1 (p := fun y : Nd => decide (y.1 = s)) (fun k hk => hz k hk (by omega))).symm)
def conIxB : Con := { ps := [.d false (.sl yNO), .cl 70 []], rs := [.d false yI], pre := fun _ => True, out := fun (x : List Nd × Unit × Unit) => (idxV (fun y : Nd => decide (y.2.1 = 1)) x.1, ()), nw := id }
theorem cIxB : CtrOk Tryz.prog 103 conIxB.ctr :=
 aA0 eA0 (eC c70 has70 eN) rfl Tryz.func103 rfl conIxB 66483 (by kernel_rfl) (by decide) (by decide) rfl (by decide) rfl (by
  rintro ⟨(l : List Nd), _⟩ hpre hwf X hT hG hk hK
  (simp -implicitDefEqProofs (maxSteps := 4000000) only [go_sem, bP, conIxB, con70, hT, hG, hk, hK, Tryz.results103] at hwf ⊢)
  clear hwf; refine fun _ => cA0 ⟨{ i : Nat // i ≤ l.length ∧ ∀ k (h : k < l.length), k < i → decide ((l[k]).2.1 = 1) = false }, 1000, fun q => [(0, .one (.sl yNO l false)), (1, .one (.fn 70 [])), (7, .one (.int .i64 l.length)), (8, .one (.int .i64 q.1))], fun _ => [], fun q => l.length - q.1⟩ ⟨0, Nat.zero_le _, fun k h hk => by omega⟩ ?_ ?_
  · simp only [go_sem]; rfl
  · rintro ⟨i, (hi : i ≤ l.length), hz⟩
    (simp -implicitDefEqProofs (maxSteps := 4000000) only [go_sem, bP, conIxB, con70, hT, hG, hk, hK, Tryz.results103])
    refine ⟨fun hlt => ?_, fun hge => ?_⟩
    · have hi' : i < l.length := by omega
      have ek : ∀ z, l.getD (i : Int).toNat z = l[i] := fun z => by simp [hi']
      simp only [ek]
      (repeat' with_reducible first | refine And.intro ?_ ?_ | intro _) <;> try first | with_reducible (first | assumption | omega | contradiction) | decide
      all_goals first
       | (have h : (l[i]).2.1 = 1 := by assumption
          exact (vA1 (p := fun y : Nd => decide (y.2.1 = 1)) hi' (decide_eq_true h) (fun k hk => hz k (by omega) hk)).symm)
       | (have h : ¬ (l[i]).2.1 = 1 := by assumption
          refine dA0 ⟨i + 1, by omega, fun k hk1 hk => ?_⟩ ?_ (by dsimp only; omega)
          · by_cases e : k = i
            · subst e; exact decide_eq_false h
            · exact hz k hk1 (by omega)
          · simp only [go_sem]
            try rfl
          done)
    · exact (mA1 (p := fun y : Nd => decide (y.2.1 = 1)) (fun k hk => hz k hk (by omega))).symm)
def con69 : Con := { ps := [.d false (.sl yNO), .cl 70 []], rs := [.d false .bool], pre := fun _ => True, out := fun (x : List Nd × Unit × Unit) => (x.1.any (fun y : Nd => decide (y.2.1 = 1)), ()), nw := id }
theorem c69 : CtrOk Tryz.prog 69 con69.ctr :=
 aA0 eA0 (eC cIxB has103 eN) rfl Tryz.func69 rfl con69 19 (by kernel_rfl) (by decide) (by decide) rfl (by decide) rfl (by
  rintro ⟨(l : List Nd), _⟩ hpre hwf X hT hG hk hK
  (simp -implicitDefEqProofs (maxSteps := 4000000) only [go_sem, bP, con69, conIxB, hT, hG, hk, hK, Tryz.results69] at hwf ⊢)
  exact fun _ => hA8 _ l)
def con101 : Con := { ps := [.d true yLY, .d false .str], rs := [.d false yI], pre := fun _ => True, out := fun (x : Ly × ByteArray × Unit) => (idxV (fun y : Nd => decide (y.1 = x.2.1)) x.1.1, ()), nw := id }
theorem c101 : CtrOk Tryz.prog 101 con101.ctr :=
 aA0 eA0 (eC cIxA has103 eN) rfl Tryz.func101 rfl con101 31 (by kernel_rfl) (by decide) (by decide) rfl (by decide) rfl (by
  rintro ⟨⟨(ns : List Nd), (ds : List Dv)⟩, (s : ByteArray), _⟩ hpre hwf X hT hG hk hK
  (simp -implicitDefEqProofs (maxSteps := 4000000) only [go_sem, bP, con101, conIxA, hT, hG, hk, hK, Tryz.results101] at hwf ⊢))
def con65 : Con := { ps := [.d true yLY], rs := [.d false .bool], pre := fun (x : Ly × Unit) => GoodL x.1, out := fun _ => (true, ()), nw := id }
theorem c65 : CtrOk Tryz.prog 65 con65.ctr :=
 aA0 eA0 (eC c101 has101 eN) rfl Tryz.func65 rfl con65 263135 (by kernel_rfl) (by decide) (by decide) rfl (by decide) rfl (by
  rintro ⟨⟨(ns : List Nd), (ds : List Dv)⟩, _⟩ hpre hwf X hT hG hk hK; have hg : GoodL (ns, ds) := hpre
  (simp -implicitDefEqProofs (maxSteps := 4000000) only [go_sem, bP, con65, con101, hT, hG, hk, hK, Tryz.results65] at hwf ⊢)
  clear hwf; have hn24 : ns.length ≤ 24 := hg.n24; refine fun _ => cA0 ⟨{ i : Nat // i ≤ ns.length }, 1000, fun i => [(1, .one (.loc 64 0)), (6, .one (.sl yNO ns false)), (7, .one (.int .i64 ns.length)), (8, .one (.int .i64 i.1))], fun i => [(64, .cells 30 [.sl yNO ns false, .sl yPL ds false])], fun i => ns.length - i.1⟩ ⟨0, Nat.zero_le _⟩ ?_ ?_
  · simp only [go_sem]; rfl
  · rintro ⟨i, (hi : i ≤ ns.length)⟩
    (simp -implicitDefEqProofs (maxSteps := 4000000) only [go_sem, bP, con65, con101, hT, hG, hk, hK, Tryz.results65])
    intro hlt; have hi' : i < ns.length := by omega
    have ek : ∀ z, ns.getD (i : Int).toNat z = ns[i] := fun z => by simp [hi']
    have hfd : idxV (fun y : Nd => decide (y.1 = (ns[i]).1)) ns = i := hg.find hi'; simp only [ek, hfd]
    (repeat' with_reducible first | refine And.intro ?_ ?_ | intro _) <;> try first | with_reducible (first | assumption | omega | contradiction) | decide
    all_goals first
     | omega
     | (refine dA0 ⟨i + 1, by omega⟩ ?_ (by dsimp only; omega)
        simp only [go_sem]
        try rfl
        done))
def con127 : Con := { ps := [.d false (.sl yPL), .d true yPL], rs := [.d false yI], pre := fun _ => True, out := fun (x : List Dv × Dv × Unit) => (idxV (fun y : Dv => decide (x.2.1 = y)) x.1, ()), nw := id }
theorem c127 : CtrOk Tryz.prog 127 con127.ctr :=
 aA0 eA0 eN rfl Tryz.func127 rfl con127 66491 (by kernel_rfl) (by decide) (by decide) rfl (by decide) rfl (by
  rintro ⟨(l : List Dv), ⟨(v1 : Int), (v2 : Int), (v3 : Int)⟩, _⟩ hpre hwf X hT hG hk hK
  (simp -implicitDefEqProofs (maxSteps := 4000000) only [go_sem, bP, con127, hT, hG, hk, hK, Tryz.results127] at hwf ⊢); (try simp (disch := decide +kernel) only [drawn, true_and, and_true])
  clear hwf; refine fun _ => cA0 ⟨{ i : Nat // i ≤ l.length ∧ ∀ k (h : k < l.length), k < i → decide ((v1, v2, v3) = l[k]) = false }, 1000, fun q => [(0, .one (.sl yPL l false)), (3, .one (.loc 64 0)), (7, .one (.int .i64 l.length)), (8, .one (.int .i64 q.1))], fun _ => [(64, .cells 111 [.int .i64 v1, .int .i64 v2, .int .i64 v3])], fun q => l.length - q.1⟩ ⟨0, Nat.zero_le _, fun k h hk => by omega⟩ ?_ ?_
  · simp only [go_sem]; rfl
  · rintro ⟨i, (hi : i ≤ l.length), hz⟩
    (simp -implicitDefEqProofs (maxSteps := 4000000) only [go_sem, bP, con127, hT, hG, hk, hK, Tryz.results127]); (try simp (disch := decide +kernel) only [drawn, true_and, and_true])
    refine ⟨fun hlt => ?_, fun hge => ?_⟩
    · have hi' : i < l.length := by omega
      have ek : ∀ z, l.getD (i : Int).toNat z = l[i] := fun z => by simp [hi']
      simp only [ek]
      (repeat' with_reducible first | refine And.intro ?_ ?_ | intro _) <;> try first | with_reducible (first | assumption | omega | contradiction) | decide
      all_goals first
       | omega
       | (have h : (v1, v2, v3) = l[i] := by
           obtain ⟨h1, h2, h3⟩ : v1 = l[i].1 ∧ v2 = l[i].2.1 ∧ v3 = l[i].2.2 := by first | assumption | grind
           exact Prod.ext h1 (Prod.ext h2 h3)
          exact (vA1 (p := fun y : Dv => decide ((v1, v2, v3) = y)) hi' (decide_eq_true h) (fun k hk => hz k (by omega) hk)).symm)
       | (refine dA0 ⟨i + 1, by omega, fun k hk1 hk => ?_⟩ ?_ (by dsimp only; omega)
          · by_cases e : k = i
            · subst e; refine decide_eq_false fun h => ?_; have e1 : v1 = _ := congrArg (fun y : Dv => y.1) h; have e2 : v2 = _ := congrArg (fun y : Dv => y.2.1) h; have e3 : v3 = _ := congrArg (fun y : Dv => y.2.2) h; omega
            · exact hz k hk1 (by omega)
          · simp only [go_sem]
            try rfl
          done)
    · exact (mA1 (p := fun y : Dv => decide ((v1, v2, v3) = y)) (fun k hk => hz k hk (by omega))).symm)
def con102 : Con := { ps := [.d false (.sl yPL), .d true yPL], rs := [.d false .bool], pre := fun _ => True, out := fun (x : List Dv × Dv × Unit) => (x.1.any (fun y : Dv => decide (x.2.1 = y)), ()), nw := id }
theorem c102 : CtrOk Tryz.prog 102 con102.ctr :=
 aA0 eA0 (eC c127 has127 eN) rfl Tryz.func102 rfl con102 27 (by kernel_rfl) (by decide) (by decide) rfl (by decide) rfl (by
  rintro ⟨(l : List Dv), ⟨(v1 : Int), (v2 : Int), (v3 : Int)⟩, _⟩ hpre hwf X hT hG hk hK
  (simp -implicitDefEqProofs (maxSteps := 4000000) only [go_sem, bP, con102, con127, hT, hG, hk, hK, Tryz.results102] at hwf ⊢)
  exact fun _ => hA8 _ l)
def con68 : Con := { ps := [.d true yLY], rs := [.d false yI], pre := fun (x : Ly × Unit) => GoodL x.1, out := fun _ => (0, ()), nw := id }
theorem c68 : CtrOk Tryz.prog 68 con68.ctr :=
 aA0 eA0 (eC c102 has102 eN) rfl Tryz.func68 rfl con68 74057192272488845175 (by kernel_rfl) (by decide) (by decide) rfl (by decide) rfl (by
  rintro ⟨⟨(ns : List Nd), (ds : List Dv)⟩, _⟩ hpre hwf X hT hG hk hK; have hg : GoodL (ns, ds) := hpre
  (simp -implicitDefEqProofs (maxSteps := 4000000) only [go_sem, bP, con68, con102, hT, hG, hk, hK, Tryz.results68] at hwf ⊢); (try simp (disch := decide +kernel) only [drawn, true_and, and_true])
  clear hwf; have hn24 : ns.length ≤ 24 := hg.n24; have hd := hg.dv; have hd24 : ds.length ≤ 24 := hd.len; refine fun _ => cA0 ⟨{ i : Nat // i ≤ ds.length }, 1000, fun i => [(1, .one (.loc 64 0)), (8, .one (.sl yPL ds false)), (9, .one (.int .i64 ds.length)), (10, .one (.int .i64 i.1))], fun i => [(64, .cells 30 [.sl yNO ns false, .sl yPL ds false])], fun i => ds.length - i.1⟩ ⟨0, Nat.zero_le _⟩ ?_ ?_
  · simp only [go_sem]; rfl
  · rintro ⟨i, (hi : i ≤ ds.length)⟩
    (simp -implicitDefEqProofs (maxSteps := 4000000) only [go_sem, bP, con68, con102, hT, hG, hk, hK, Tryz.results68]); (try simp (disch := decide +kernel) only [drawn, true_and, and_true])
    refine ⟨fun hlt => ?_, fun hge => ?_⟩
    · have hi' : i < ds.length := by omega
      have ek : ∀ z, ds.getD (i : Int).toNat z = ds[i] := fun z => by simp [hi']
      have hdi := hd.ok ds[i] (List.getElem_mem hi'); simp only [ek]; obtain ⟨y, ey⟩ : ∃ y, ns.getD (ds[i].2.1).toNat nd0 = y := ⟨_, rfl⟩; have ey' : ns.getD (ds[i].2.1).toNat (ByteArray.empty, 0, 0, 0, []) = y := ey; dsimp only at hdi; rw [ey] at hdi; simp only [ey']
      (repeat' with_reducible first | refine And.intro ?_ ?_ | intro _) <;> try first | with_reducible (first | assumption | omega | contradiction) | decide
      all_goals first
       | omega
       | (refine dA0 ⟨i + 1, by omega⟩ ?_ (by dsimp only; omega)
          simp only [go_sem]
          try rfl
          done)
    · refine fun _ => cA0 ⟨{ i : Nat // i ≤ ds.length }, 1000, fun i => [(1, .one (.loc 64 0)), (54, .one (.sl yPL ds false)), (55, .one (.int .i64 ds.length)), (56, .one (.int .i64 i.1))], fun i => [(64, .cells 30 [.sl yNO ns false, .sl yPL ds false])], fun i => ds.length - i.1⟩ ⟨0, Nat.zero_le _⟩ ?_ ?_
      · simp only [go_sem]; rfl
      · rintro ⟨i, (hi : i ≤ ds.length)⟩
        (simp -implicitDefEqProofs (maxSteps := 4000000) only [go_sem, bP, con68, con102, hT, hG, hk, hK, Tryz.results68]); (try simp (disch := decide +kernel) only [drawn, true_and, and_true])
        intro hlt; have hi' : i < ds.length := by omega
        have ek : ∀ z, ds.getD (i : Int).toNat z = ds[i] := fun z => by simp [hi']
        have hany : (ds.take i).any (fun y : Dv => decide (ds[i] = y)) = false := by
         rw [List.any_eq_false]; intro y hy; rw [decide_eq_true_eq]; intro h; subst h; obtain ⟨q, hq, e⟩ := List.getElem_of_mem hy; rw [List.length_take] at hq; rw [List.getElem_take] at e; have := (List.getElem_inj hd.nd).1 e; omega
        have ekk : (i : Int).toNat = i := Int.toNat_natCast i; simp only [ekk]; simp only [ekk] at ek; simp only [ek]; simp only [hany]
        (repeat' with_reducible first | refine And.intro ?_ ?_ | intro _) <;> try first | with_reducible (first | assumption | omega | contradiction) | decide
        all_goals first
         | omega
         | (refine dA0 ⟨i + 1, by omega⟩ ?_ (by dsimp only; omega)
            simp only [go_sem]
            try rfl
            done))
end Go.Proofs.YtabadacjbkhmkaaGreatDoor
