/- Part. -/
import Derived.Test.YtabadacjbkhmkaaGreatDoorEvNst2ToRa
import Derived.Test.YtabadacjbkhmkaaGreatDoorEvSortToSc
set_option linter.all false
set_option maxRecDepth 100000
set_option maxHeartbeats 8000000
namespace Go.Proofs.YtabadacjbkhmkaaGreatDoor
open Go.Ev
attribute [local go_sem] List.set_cons_succ List.set_cons_zero List.getD_cons_succ List.getD_cons_zero List.set_nil
def accK (g : Nat → List (List Dv)) : Nat → List (List Dv)
 | 0 => []
 | k + 1 => accK g k ++ g k
theorem iB1 {g : Nat → List (List Dv)} {s : List Dv} : ∀ {n : Nat}, s ∈ accK g n → ∃ k, k < n ∧ s ∈ g k
 | 0, h => by cases h
 | n + 1, h => by
   rcases List.mem_append.1 h with h | h
   · obtain ⟨k, h1, h2⟩ := iB1 h; exact ⟨k, by omega, h2⟩
   · exact ⟨n, by omega, h⟩
theorem fA4 {g : Nat → List (List Dv)} {B : Nat} : ∀ {n : Nat}, (∀ k, k < n → (g k).length ≤ B) → (accK g n).length ≤ B * n
 | 0, _ => by simp [accK]
 | n + 1, h => by
   have h1 := fA4 (n := n) fun k hk => h k (by omega); have h2 := h n (by omega); unfold accK; rw [List.length_append, Nat.mul_add]; omega
def conK (i k : Nat) (kind : Int) (R : List (List Dv)) : List (List Dv) := R.map (fun r => ((kind, (i : Int), (k : Int)) : Dv) :: r)
def ctrW (sl : List (List Int)) (node window : Int) (R : Nat → Nat → List (List Dv)) (i k : Nat) : List (List Dv) :=
 if (sl.getD i []).getD k 0 = 0 ∨ ((i : Int) = node ∧ (k : Int) < window) then [] else conK i k 1 (R i (k + 1)) ++ conK i k 2 (R i (k + 1))
def rowW (ns : List Nd) (sl : List (List Int)) (node window : Int) (R : Nat → Nat → List (List Dv)) (i : Nat) : List (List Dv) :=
 accK (ctrW sl node window R i) (ns.getD i nd0).2.2.1.toNat
def setsV (ns : List Nd) (sl : List (List Int)) : Nat → Nat → Nat → List (List Dv)
 | 0 => fun _ _ => [[]]
 | n + 1 => fun node window => [] :: accK (fun d => rowW ns sl node window (setsV ns sl n) (node + d)) (ns.length - node)
theorem wA7 {ds : List Dv} {ns : List Nd} (hg : GoodL (ns, ds)) (sl : List (List Int)) : ∀ n node window, (setsV ns sl n node window).length ≤ 385 ^ n
 | 0, _, _ => by simp [setsV]
 | n + 1, node, window => by
   have ih := wA7 hg sl n; have hn24 : ns.length ≤ 24 := hg.n24; have hpos : 1 ≤ 385 ^ n := Nat.one_le_pow _ _ (by decide); have hrow : ∀ d, d < ns.length - node → (rowW ns sl node window (setsV ns sl n) (node + d)).length ≤ 16 * 385 ^ n := fun d hd => by
    have hlt : node + d < ns.length := by omega
    have h8 := hg.le8 ns[node + d] (List.getElem_mem hlt); have := fA4 (g := ctrW sl node window (setsV ns sl n) (node + d)) (B := 2 * 385 ^ n) (n := (ns.getD (node + d) nd0).2.2.1.toNat) fun k _ => by
     unfold ctrW; split
     · simp
     · rw [List.length_append]; unfold conK; rw [List.length_map, List.length_map]; have := ih (node + d) (k + 1); omega
    unfold rowW; have e : ns.getD (node + d) nd0 = ns[node + d] := by simp [hlt]
    have h8' : (ns.getD (node + d) nd0).2.2.1.toNat ≤ 8 := by rw [e]; omega
    calc _ ≤ _ := this
     _ ≤ 2 * 385 ^ n * 8 := Nat.mul_le_mul_left _ h8'
     _ = 16 * 385 ^ n := by omega
   have h1 := fA4 hrow; have h2 : 16 * 385 ^ n * (ns.length - node) ≤ 16 * 385 ^ n * 24 := Nat.mul_le_mul_left _ (by omega); unfold setsV; rw [List.length_cons, Nat.pow_succ]; omega
structure SetOk (ns : List Nd) (node window : Int) (f : List Dv) : Prop where
 fl : FltOk ns f
 fr : ∀ y ∈ f, node < y.2.1 ∨ (node = y.2.1 ∧ window ≤ y.2.2)
 nd : ∀ i j (hi : i < j) (hj : j < f.length), ¬ ((f[i]).2.1 = (f[j]).2.1 ∧ (f[i]).2.2 = (f[j]).2.2)
theorem SetOk.nil (ns : List Nd) (node window : Int) : SetOk ns node window [] := ⟨fun y hy => (by cases hy), fun y hy => (by cases hy), fun i j _ hj => absurd hj (by simp)⟩
theorem oB1 {ds : List Dv} {ns : List Nd} (hg : GoodL (ns, ds)) (sl : List (List Int)) : ∀ (n node window : Nat) s, s ∈ setsV ns sl n node window → s.length ≤ n ∧ SetOk ns node window s
 | 0, node, window, s, h => by
   simp only [setsV, List.mem_singleton] at h; subst h
   exact ⟨Nat.le_refl _, SetOk.nil _ _ _⟩
 | n + 1, node, window, s, h => by
   unfold setsV at h
   rcases List.mem_cons.1 h with rfl | h
   · exact ⟨Nat.zero_le _, SetOk.nil _ _ _⟩
   · obtain ⟨d, hd, h⟩ := iB1 h; obtain ⟨k, hk, h⟩ := iB1 h; unfold ctrW at h; split at h
     · cases h
     · rename_i hc; have key : ∀ (kind : Int), (kind = 1 ∨ kind = 2) → s ∈ conK (node + d) k kind (setsV ns sl n (node + d) (k + 1)) → s.length ≤ n + 1 ∧ SetOk ns node window s := by
        intro kind hkd hs; obtain ⟨r, hr, rfl⟩ := List.mem_map.1 hs; obtain ⟨h1, h2⟩ := oB1 hg sl n (node + d) (k + 1) r hr; refine ⟨by rw [List.length_cons]; omega, ?_, ?_, ?_⟩
        · intro y hy
          rcases List.mem_cons.1 hy with rfl | hy
          · have : ((node + d : Nat) : Int).toNat = node + d := Int.toNat_natCast _; refine ⟨hkd, by dsimp only; omega, by dsimp only; omega, by dsimp only; omega, ?_⟩; dsimp only; rw [this]; omega
          · exact h2.fl y hy
        · intro y hy
          rcases List.mem_cons.1 hy with rfl | hy
          · dsimp only; omega
          · have := h2.fr y hy; omega
        · intro i j hi hj
          match i, j, hi with
          | 0, j + 1, _ =>
            simp only [List.getElem_cons_zero, List.getElem_cons_succ]; have := h2.fr _ (List.getElem_mem (show j < r.length by rw [List.length_cons] at hj; omega))
            omega
          | i + 1, j + 1, hi =>
            simp only [List.getElem_cons_succ]; exact h2.nd i j (by omega) (by rw [List.length_cons] at hj; omega)
       rcases List.mem_append.1 h with h | h
       · exact key 1 (.inl rfl) h
       · exact key 2 (.inr rfl) h
theorem SetOk.poss {ns : List Nd} {node window : Int} {f : List Dv} (h : SetOk ns node window f) {c : List Int} (hl : c.length = ns.length) (hc : ∀ i, i < ns.length → cmdOk (ns.getD i nd0) (c.getD i 0) = true) (h4 : f.length ≤ 4) : Poss ns c f := ⟨hl, hc, h.fl, h4, h.nd⟩
theorem kB4 : ∀ (yss : List (List Dv)), putSls yPL (.sl yPL) (List.replicate yss.length []) yss = yss
 | [] => rfl
 | y :: yss => by
   have ih := kB4 yss; unfold putSls at ih ⊢; rw [List.length_cons, List.replicate_succ, List.zip_cons_cons, List.map_cons, ih]; rfl
theorem oB0 {n : Nat} {yss : List (List Dv)} (h : yss.length = n) : putSls yPL (.sl yPL) (List.replicate n []) yss = yss := by
 subst h; exact kB4 yss
theorem dC1 {i k : Nat} {kind : Int} {R : List (List Dv)} {j : Nat} (h : j < R.length) : conK i k kind (R.take (j + 1)) = conK i k kind (R.take j) ++ [((kind, (i : Int), (k : Int)) : Dv) :: R[j]] := by
 unfold conK; rw [tsE h, List.map_append]; rfl
def kndK (i k : Nat) (R : List (List Dv)) (q : Nat) : List (List Dv) := accK (fun q => conK i k ((q : Int) + 1) R) q
theorem uC8 (i k : Nat) (R : List (List Dv)) : kndK i k R 2 = conK i k 1 R ++ conK i k 2 R := by
 unfold kndK; simp [accK]
theorem dA7 (i k : Nat) (kind : Int) (R : List (List Dv)) : (conK i k kind R).length = R.length := List.length_map ..
def con94 (B : Nat) : Con := { ps := [.d true yLY, .d true yP2, .d false yI, .d false yI, .d false yI], rs := [.d false (.sl (.sl yPL))], pre := fun (x : Ly × Pl × Int × Int × Int × Unit) => 0 < B ∧ GoodL x.1 ∧ FitP x.1.1 x.2.1 ∧ x.2.2.1 < (B : Nat) ∧ x.2.2.1 ≤ 2 ∧ (0 ≤ x.2.2.2.1 ∧ x.2.2.2.1 ≤ x.1.1.length) ∧ 0 ≤ x.2.2.2.2.1 ∧ x.2.2.2.2.1 ≤ 1000, out := fun (x : Ly × Pl × Int × Int × Int × Unit) => (setsV x.1.1 x.2.1.1 x.2.2.1.toNat x.2.2.2.1.toNat x.2.2.2.2.1.toNat, ()), nw := id }
theorem z94 : CtrOk Tryz.prog 94 (con94 0).ctr :=
 aA0 eA0 eN rfl Tryz.func94 rfl (con94 0) 9592451033585829936255 (by kernel_rfl) (show pcOk (con94 0).ps = true by decide) (show (con94 0).ps.length ≤ Tryz.f94.ntmps by decide) rfl (by decide) rfl (by
  intro x hpre; have h2 : (0 : Nat) < 0 := And.left hpre; exact absurd h2 (Nat.lt_irrefl 0))
theorem s94 (k : Nat) (ih : CtrOk Tryz.prog 94 (con94 k).ctr) : CtrOk Tryz.prog 94 (con94 (k + 1)).ctr :=
 aA0 (G := ⟨[(94, (con94 k).ctr)], [], [(17, 107), (87, 107), (20, 1), (89, 1)], [], []⟩) eA0 (EnvOk.cons ih has94 EnvOk.nil) rfl Tryz.func94 rfl (con94 (k + 1)) 9592451033585829936255 (by kernel_rfl) (show pcOk (con94 0).ps = true by decide) (show (con94 0).ps.length ≤ Tryz.f94.ntmps by decide) rfl (by decide) rfl (by
  rintro ⟨⟨(ns : List Nd), (ds : List Dv)⟩, ⟨(sl : List (List Int)), (bn : List (List Int))⟩, (b : Int), (node' : Int), (window' : Int), _⟩ hpre hwf X hT hG hk hK; obtain ⟨_, hg, hp, hb, hb2, ⟨h1, h2⟩, h3, h4⟩ : 0 < k + 1 ∧ GoodL (ns, ds) ∧ FitP ns (sl, bn) ∧ b < ((k + 1 : Nat) : Int) ∧ b ≤ 2 ∧ (0 ≤ node' ∧ node' ≤ ns.length) ∧ 0 ≤ window' ∧ window' ≤ 1000 := hpre; obtain ⟨node, rfl⟩ : ∃ n : Nat, node' = n := ⟨node'.toNat, by omega⟩; obtain ⟨window, rfl⟩ : ∃ n : Nat, window' = n := ⟨window'.toNat, by omega⟩
  (simp -implicitDefEqProofs (maxSteps := 4000000) only [go_sem, bP, con94, hT, hG, hk, hK, Tryz.results94] at hwf ⊢)
  clear hwf; have hn24 : ns.length ≤ 24 := hg.n24; have hsl : sl.length = ns.length := hp.sl; have en0 : ((node : Nat) : Int).toNat = node := Int.toNat_natCast _; have en1 : ((window : Nat) : Int).toNat = window := Int.toNat_natCast _
  try simp only [en0, en1]
  have e0 : b ≤ 0 → setsV ns sl b.toNat node window = [[]] := fun h => by rw [show b.toNat = 0 by omega]; rfl
  refine ⟨fun h => ?_, fun h => ?_⟩
  · rw [e0 h]
    first
     | rfl
     | exact oB0 rfl
  · obtain ⟨n, rfl⟩ : ∃ n : Nat, b = (n : Int) + 1 := ⟨(b - 1).toNat, by omega⟩; have e1 : (((n : Nat) : Int) + 1).toNat = n + 1 := by omega
    have e2 : ((n : Int) + 1 - 1).toNat = n := by omega
    have e3 : ((n : Int) + 1 - 1) = n := by omega
    obtain ⟨g, hgd⟩ : ∃ g, g = fun d => rowW ns sl node window (setsV ns sl n) (node + d) := ⟨_, rfl⟩; have hV : setsV ns sl (n + 1) node window = [] :: accK g (ns.length - node) := by rw [hgd]; rfl
    have hM : ∀ i k, (setsV ns sl n i k).length ≤ 385 := fun i k => Nat.le_trans (wA7 hg sl n i k) (by
     have : n ≤ 1 := by omega
     calc 385 ^ n ≤ 385 ^ 1 := Nat.pow_le_pow_right (by decide) this
      _ = 385 := rfl)
    have hctr : ∀ i k, (ctrW sl node window (setsV ns sl n) i k).length ≤ 770 := fun i k => by
     unfold ctrW; split
     · simp
     · rw [List.length_append, dA7, dA7]; have := hM i (k + 1); omega
    have hrow : ∀ i q, (accK (ctrW sl node window (setsV ns sl n) i) q).length ≤ 770 * q := fun i q => fA4 fun k _ => hctr i k; have hgl : ∀ d, d < ns.length - node → (g d).length ≤ 6160 := fun d hd => by
     rw [hgd]; have h8 := hg.le8 ns[node + d] (List.getElem_mem (show node + d < ns.length by omega)); unfold rowW; dsimp only; rw [show ns.getD (node + d) nd0 = ns[node + d] by simp [show node + d < ns.length by omega]]; have := hrow (node + d) (ns[node + d]).2.2.1.toNat; omega
    refine cA0 ⟨{ d : Nat // node + d ≤ ns.length }, 1000, fun d => [(2, .one (.int .i64 ((n : Int) + 1))), (3, .one (.int .i64 node)), (4, .one (.int .i64 window)), (5, .one (.loc 64 0)), (6, .one (.loc 65 0)), (11, .one (.row 66)), (12, .one (.int .i64 ((node + d.1 : Nat) : Int)))], fun d => [(64, .cells 30 [.sl yNO ns false, .sl yPL ds false]), (65, .cells 37 [.sl (.sl yI) sl false, .sl (.sl yI) bn false]), (66, .rowg 51 (.sl yPL) 0 67 (List.replicate ((accK g d.1).length + 1) []) none), (67, .fam 99 yPL ([] :: accK g d.1))], fun d => ns.length - (node + d.1)⟩ ⟨0, by omega⟩ ?_ ?_
    · simp only [go_sem]
      try first | rfl | (and_intros <;> first | trivial | rfl | omega)
    · rintro ⟨d, (hd : node + d ≤ ns.length)⟩; obtain ⟨i, hi⟩ : ∃ i, i = node + d := ⟨_, rfl⟩; obtain ⟨O, hO⟩ : ∃ O : List (List Dv), O = [] :: accK g d := ⟨_, rfl⟩; have hOl : O.length ≤ 1 + 6160 * d := by
       have := fA4 (g := g) (n := d) (B := 6160) fun k hk => hgl k (by omega); rw [hO, List.length_cons]; omega
      have hOn : (accK g d).length + 1 = O.length := by rw [hO]; rfl
      rw [← hi] at hd
      (simp -implicitDefEqProofs (maxSteps := 4000000) only [go_sem, bP, con94, hT, hG, hk, hK, Tryz.results94])
      simp only [← hi, ← hO, hOn]; refine fun _ => ⟨fun hlt => ?_, fun hge => ?_⟩
      · have hin : i < ns.length := by omega
        obtain ⟨y, ey⟩ : ∃ y, ns.getD i nd0 = y := ⟨_, rfl⟩; have ek : ∀ z, ns.getD i z = y := fun z => by rw [← ey]; simp [hin]
        have eii : (i : Int).toNat = i := Int.toNat_natCast i; have h8 := hg.le8 ns[i] (List.getElem_mem hin); rw [show ns[i] = y by rw [← ey]; simp [hin]] at h8; have hln := hp.ln i hin; rw [ey] at hln; obtain ⟨s, es⟩ : ∃ s, sl.getD i [] = s := ⟨_, rfl⟩; have esk : ∀ z, sl.getD i z = s := fun z => by rw [← es]; simp [show i < sl.length by omega]
        have hsl2 : (s.length : Int) = y.2.2.1 := by rw [← es]; exact hln
        obtain ⟨C, hC⟩ : ∃ C, C = ctrW sl node window (setsV ns sl n) i := ⟨_, rfl⟩; refine cA0 ⟨{ w : Nat // (w : Int) ≤ y.2.2.1 }, 2000, fun w => [(2, .one (.int .i64 ((n : Int) + 1))), (3, .one (.int .i64 node)), (4, .one (.int .i64 window)), (5, .one (.loc 64 0)), (6, .one (.loc 65 0)), (11, .one (.row 66)), (12, .one (.int .i64 (i : Int))), (13, .one (.int .i64 (w.1 : Int)))], fun w => [(64, .cells 30 [.sl yNO ns false, .sl yPL ds false]), (65, .cells 37 [.sl (.sl yI) sl false, .sl (.sl yI) bn false]), (66, .rowg 51 (.sl yPL) 0 67 (List.replicate (O ++ accK C w.1).length []) none), (67, .fam 99 yPL (O ++ accK C w.1))], fun w => s.length - w.1⟩ ⟨0, by omega⟩ ?_ ?_
        · simp only [go_sem]; simp only [accK, List.append_nil]
          try first | rfl | (and_intros <;> first | trivial | rfl | omega)
        · rintro ⟨w, (hw : (w : Int) ≤ y.2.2.1)⟩; have hPl := fA4 (g := C) (n := w) (B := 770) fun k _ => by rw [hC]; exact hctr i k
          obtain ⟨P, hP⟩ : ∃ P : List (List Dv), P = O ++ accK C w := ⟨_, rfl⟩; have hPl2 : P.length ≤ 200000 := by rw [hP, List.length_append]; omega
          (simp -implicitDefEqProofs (maxSteps := 4000000) only [go_sem, bP, con94, hT, hG, hk, hK, Tryz.results94])
          simp only [eii, ek, esk, ← hP]; by_cases hwy : (w : Int) < y.2.2.1
          · have eww : (w : Int).toNat = w := Int.toNat_natCast w; have hst : C w = if s.getD w 0 = 0 ∨ ((i : Int) = node ∧ (w : Int) < window) then [] else kndK i w (setsV ns sl n i (w + 1)) 2 := by
             rw [hC, uC8, ctrW, es]
            have eR : ((i : Int) : Int).toNat = i := eii; have eR1 : ((w : Int) + 1).toNat = w + 1 := by omega
            have hRl := hM i (w + 1); have hRm : ∀ x ∈ setsV ns sl n i (w + 1), x.length ≤ 1 := fun x hx => Nat.le_trans (oB1 hg sl n i (w + 1) x hx).1 (by omega); simp only [eww, e2, eR1]; obtain ⟨R, hR⟩ : ∃ R, setsV ns sl n i (w + 1) = R := ⟨_, rfl⟩; rw [hR] at hst hRl hRm; obtain ⟨v, ev⟩ : ∃ v, s.getD w 0 = v := ⟨_, rfl⟩; rw [ev] at hst; simp only [ev, hR]; refine ⟨⟨by omega, by omega⟩, fun _ _ => ⟨fun _ => ⟨⟨by omega, by omega⟩, fun _ _ => ⟨⟨by omega, by omega⟩, fun _ _ => ⟨fun h => ⟨h, fun h2 => ⟨h, h2⟩⟩, fun h => ⟨⟨by omega, by omega⟩, ?_⟩, fun h => ⟨⟨by omega, by omega⟩, ⟨by omega, by omega⟩, ⟨by omega, hg, hp, by omega, by omega, ⟨by omega, by omega⟩, by omega, by omega⟩, fun _ => ?_⟩⟩⟩⟩, fun h => absurd hwy h⟩⟩
            · rw [if_pos h] at hst; refine dA0 ⟨w + 1, by omega⟩ ?_ (by dsimp only; omega); simp only [go_sem]; simp only [accK, hst, List.append_nil, ← hP]
              try first | rfl | (and_intros <;> first | trivial | rfl | omega)
            · rw [if_neg (fun q => q.elim h.1 (fun q => h.2.elim (fun e => e q.1) (fun e => e q.2)))] at hst; refine cA0 ⟨{ q : Nat // q ≤ 2 }, 3000, fun q => [(2, .one (.int .i64 ((n : Int) + 1))), (3, .one (.int .i64 node)), (4, .one (.int .i64 window)), (5, .one (.loc 64 0)), (6, .one (.loc 65 0)), (11, .one (.row 66)), (12, .one (.int .i64 (i : Int))), (13, .one (.int .i64 (w : Int))), (14, .one (.sl (.sl yPL) R false)), (15, .one (.int .i64 ((q.1 : Int) + 1)))], fun q => [(64, .cells 30 [.sl yNO ns false, .sl yPL ds false]), (65, .cells 37 [.sl (.sl yI) sl false, .sl (.sl yI) bn false]), (66, .rowg 51 (.sl yPL) 0 67 (List.replicate (P ++ kndK i w R q.1).length []) none), (67, .fam 99 yPL (P ++ kndK i w R q.1))], fun q => 2 - q.1⟩ ⟨0, by omega⟩ ?_ ?_
              · simp only [go_sem]; simp only [kndK, accK, List.append_nil]
                try first | rfl | (and_intros <;> first | trivial | rfl | omega)
              · rintro ⟨q, (hq : q ≤ 2)⟩; have hQl := fA4 (g := fun q => conK i w ((q : Int) + 1) R) (n := q) (B := 385) fun k _ => by rw [dA7]; exact hRl
                obtain ⟨Q, hQ⟩ : ∃ Q : List (List Dv), Q = P ++ kndK i w R q := ⟨_, rfl⟩; have hQl2 : Q.length ≤ 300000 := by rw [hQ, List.length_append]; unfold kndK; omega
                (simp -implicitDefEqProofs (maxSteps := 4000000) only [go_sem, bP, con94, hT, hG, hk, hK, Tryz.results94])
                simp only [← hQ]; refine ⟨fun hq1 => ?_, fun hq1 => ?_⟩
                · refine cA0 ⟨{ j : Nat // j ≤ R.length }, 4000, fun j => [(2, .one (.int .i64 ((n : Int) + 1))), (3, .one (.int .i64 node)), (4, .one (.int .i64 window)), (5, .one (.loc 64 0)), (6, .one (.loc 65 0)), (11, .one (.row 66)), (12, .one (.int .i64 (i : Int))), (13, .one (.int .i64 (w : Int))), (14, .one (.sl (.sl yPL) R false)), (15, .one (.int .i64 ((q : Int) + 1))), (16, .one (.int .i64 (j.1 : Int)))], fun j => [(64, .cells 30 [.sl yNO ns false, .sl yPL ds false]), (65, .cells 37 [.sl (.sl yI) sl false, .sl (.sl yI) bn false]), (66, .rowg 51 (.sl yPL) 0 67 (List.replicate (Q ++ conK i w ((q : Int) + 1) (R.take j.1)).length []) none), (67, .fam 99 yPL (Q ++ conK i w ((q : Int) + 1) (R.take j.1)))], fun j => R.length - j.1⟩ ⟨0, Nat.zero_le _⟩ ?_ ?_
                  · simp only [go_sem]; simp only [List.take_zero, conK, List.map_nil, List.append_nil]
                    try first | rfl | (and_intros <;> first | trivial | rfl | omega)
                  · rintro ⟨j, (hj : j ≤ R.length)⟩; obtain ⟨S, hS⟩ : ∃ S : List (List Dv), S = Q ++ conK i w ((q : Int) + 1) (R.take j) := ⟨_, rfl⟩; have hSl2 : S.length ≤ 400000 := by rw [hS, List.length_append, dA7, List.length_take]; omega
                    (simp -implicitDefEqProofs (maxSteps := 4000000) only [go_sem, bP, con94, hT, hG, hk, hK, Tryz.results94])
                    simp only [← hS]; refine fun _ => ⟨fun hj1 => ?_, fun hj1 => ?_⟩
                    · have hj2 : j < R.length := by omega
                      have ejj : (j : Int).toNat = j := Int.toNat_natCast j; have ejk : ∀ z, R.getD j z = R[j] := fun z => by simp [hj2]
                      have hx1 := hRm _ (List.getElem_mem hj2); have hst2 := dC1 (i := i) (k := w) (kind := (q : Int) + 1) hj2; simp only [ejj, ejk]; generalize R[j] = x at *; refine ⟨⟨by omega, by omega⟩, fun _ _ => ⟨by omega, by rw [List.length_replicate]; omega, ⟨by omega, by omega⟩, ?_⟩⟩; refine dA0 ⟨j + 1, by omega⟩ ?_ (by dsimp only; omega); simp only [go_sem]; simp only [hst2, ← List.append_assoc, ← hS, List.length_append, List.length_cons, List.length_nil, List.replicate_succ', List.replicate_zero, List.nil_append, List.cons_append]
                      first
                       | (try first | rfl | (and_intros <;> first | trivial | rfl | omega); done)
                    · have hjR : j = R.length := by omega
                      have hSQ : P ++ kndK i w R (q + 1) = S := by
                       rw [hS, hQ, hjR, List.take_length, List.append_assoc]; rfl
                      refine ⟨⟨by omega, by omega⟩, ?_⟩; refine dA0 ⟨q + 1, by omega⟩ ?_ (by dsimp only; omega); simp only [go_sem]; simp only [hSQ]
                      first
                       | (try first | rfl | (and_intros <;> first | trivial | rfl | omega); done)
                · have hq2 : q = 2 := by omega
                  have hQC : O ++ accK C (w + 1) = Q := by
                   rw [accK, hst, hQ, hP, hq2, List.append_assoc]
                  refine ⟨⟨by omega, by omega⟩, ?_⟩; refine dA0 ⟨w + 1, by omega⟩ ?_ (by dsimp only; omega); simp only [go_sem]; simp only [hQC]
                  first
                   | (try first | rfl | (and_intros <;> first | trivial | rfl | omega); done)
          · have hwL : w = y.2.2.1.toNat := by omega
            have hPO : [] :: accK g (d + 1) = P := by
             rw [hP, hO, accK, hwL, hC]; rw [hgd]; show _ = [] :: (_ ++ _); dsimp only; rw [← hi, rowW, ey]
            have hPl3 : (accK g (d + 1)).length + 1 = P.length := by rw [← hPO]; rfl
            refine ⟨⟨by omega, by omega⟩, fun _ _ => ⟨fun h => absurd h hwy, fun _ => ⟨⟨by omega, by omega⟩, ?_⟩⟩⟩; refine dA0 ⟨d + 1, by omega⟩ ?_ (by dsimp only; omega); simp only [go_sem]; simp only [hPO, hPl3]
            first
             | (try first | rfl | (and_intros <;> first | trivial | rfl | omega); done)
      · rw [oB0 rfl, e1, en0, en1, hV, hO, show d = ns.length - node by omega])
theorem cSets : ∀ n, CtrOk Tryz.prog 94 (con94 n).ctr
 | 0 => z94
 | n + 1 => s94 n (cSets n)
end Go.Proofs.YtabadacjbkhmkaaGreatDoor

set_option maxRecDepth 100000
set_option maxHeartbeats 8000000
namespace Go.Proofs.YtabadacjbkhmkaaGreatDoor
open Go.Ev
def plantV (ns : List Nd) (p : Pl) (c : List Int) (f : List Dv) : Pl := ((stepV ns p c f).1, (stepV ns p c f).2.1)
def stpS (ns : List Nd) (bud : Int) (c : List Int) (h : Hy) (S : List (List Dv)) (L : List Hy) : Nat → List Hy
 | 0 => L
 | k + 1 => if h.1 + ((S.getD k []).length : Int) ≤ bud then addV (stpS ns bud c h S L k) (h.1 + ((S.getD k []).length : Int), plantV ns h.2 c (S.getD k [])) else stpS ns bud c h S L k
def setN (ns : List Nd) (bud : Int) (h : Hy) : List (List Dv) := setsV ns h.2.1 (bud - h.1).toNat 0 0
def stpL (ns : List Nd) (c : List Int) (b : Be) : Nat → List Hy
 | 0 => []
 | i + 1 => stpS ns b.1 c (b.2.getD i hy0) (setN ns b.1 (b.2.getD i hy0)) (stpL ns c b i) (setN ns b.1 (b.2.getD i hy0)).length
def stepB (ns : List Nd) (c : List Int) (b : Be) : Be × Int := endV (b.1, stpL ns c b b.2.length)
structure HyOk (ns : List Nd) (bud : Int) (K : Nat) (h : Hy) : Prop where
 u0 : 0 ≤ h.1
 u1 : h.1 ≤ bud
 ft : FitP ns h.2
 bk : BinK K h.2
structure BeOk (ns : List Nd) (K : Nat) (b : Be) : Prop where
 u0 : 0 ≤ b.1
 u2 : b.1 ≤ 2
 n40 : b.2.length ≤ 40
 ok : ∀ h ∈ b.2, HyOk ns b.1 K h
theorem HyOk.mono {ns : List Nd} {bud : Int} {K J : Nat} {h : Hy} (k : HyOk ns bud K h) (hKJ : K ≤ J) : HyOk ns bud J h := ⟨k.u0, k.u1, k.ft, fun b hb => Nat.le_trans (k.bk b hb) hKJ⟩
theorem BeOk.mono {ns : List Nd} {K J : Nat} {b : Be} (h : BeOk ns K b) (hKJ : K ≤ J) : BeOk ns J b := ⟨h.u0, h.u2, h.n40, fun x hx => (h.ok x hx).mono hKJ⟩
theorem oC6 {l : List Hy} {h y : Hy} (hy : y ∈ addV l h) : y ∈ l ∨ y.2 = h.2 ∧ (y.1 = h.1 ∨ ∃ z ∈ l, y.1 = z.1) := by
 unfold addV at hy; split at hy
 · rename_i hc
   rcases List.mem_append.1 hy with hy | hy
   · rcases List.mem_append.1 hy with hy | hy
     · exact .inl (List.mem_of_mem_take hy)
     · rw [List.mem_singleton] at hy; subst hy; refine .inr ⟨rfl, ?_⟩; dsimp only; split
       · exact .inr ⟨l.getD (addN l h) hy0, by
          rw [gdE, List.getElem?_eq_getElem hc.1]; exact List.getElem_mem _, rfl⟩
       · exact .inl rfl
   · exact .inl (List.mem_of_mem_drop hy)
 · rcases List.mem_append.1 hy with hy | hy
   · rcases List.mem_append.1 hy with hy | hy
     · exact .inl (List.mem_of_mem_take hy)
     · rw [List.mem_singleton] at hy; subst hy; exact .inr ⟨rfl, .inl rfl⟩
   · exact .inl (List.mem_of_mem_drop hy)
theorem mD2 (l : List Hy) (h : Hy) : addN l h ≤ l.length := by
 unfold addN; have : ∀ (q : List Hy) (p : Hy → Bool), (q.takeWhile p).length ≤ q.length := fun q p => by
  induction q with
  | nil => simp
  | cons a q ih =>
    rw [List.takeWhile_cons]; split
    · simpa using ih
    · simp
 exact this _ _
theorem sB8 (l : List Hy) (h : Hy) : (addV l h).length ≤ l.length + 1 := by
 have := mD2 l h; unfold addV; split
 · rw [List.length_append, List.length_append, List.length_take, List.length_drop, List.length_singleton]; omega
 · rw [List.length_append, List.length_append, List.length_take, List.length_drop, List.length_singleton]; omega
theorem lC3 {ns : List Nd} {bud : Int} {K : Nat} {l : List Hy} {h : Hy} (hl : ∀ x ∈ l, HyOk ns bud K x) (hh : HyOk ns bud K h) : ∀ x ∈ addV l h, HyOk ns bud K x := fun x hx => by
 rcases oC6 hx with hx | ⟨e, hu⟩
 · exact hl x hx
 · refine ⟨?_, ?_, by rw [e]; exact hh.ft, by rw [e]; exact hh.bk⟩
   · rcases hu with hu | ⟨z, hz, hu⟩
     · rw [hu]; exact hh.u0
     · rw [hu]; exact (hl z hz).u0
   · rcases hu with hu | ⟨z, hz, hu⟩
     · rw [hu]; exact hh.u1
     · rw [hu]; exact (hl z hz).u1
theorem sB7 {ds : List Dv} {ns : List Nd} (hg : GoodL (ns, ds)) {p : Pl} (hp : FitP ns p) {K : Nat} (hb : BinK K p) {c : List Int} {f : List Dv} (hpo : Poss ns c f) : FitP ns (plantV ns p c f) ∧ BinK (K + 24) (plantV ns p c f) ∧ (stepV ns p c f).2.2.length ≤ ns.length := by
 have hn24 : ns.length ≤ 24 := hg.n24; have hto := fun k (hk : k < ns.length) h => yD3 hg hpo (p := p) hk h; have hinv := pB5 (ns := ns) (fl := flowV ns p c f) (L := leftV ns p c f (flowV ns p c f)) (K := K) (s := ((List.range ns.length).map (sl1 ns p f (flowV ns p c f)), (List.range ns.length).map (bn1 ns p c (flowV ns p c f)), [])) (fun k hk h => (hto k hk h).2) ⟨by simp, by simp, fun _ => rfl, fun b hbm => by
  obtain ⟨i, hi, rfl⟩ := List.mem_map.1 hbm; rw [List.mem_range] at hi; have hbi : (p.2.getD i []).length ≤ K := hb _ (by
   have := hp.bl; rw [gdE, List.getElem?_eq_getElem (show i < p.2.length by omega)]; exact List.getElem_mem _)
  unfold bn1; split
  · exact Nat.le_trans (nA7 _ _) (by first | omega | (dsimp only; omega))
  · first | omega | (dsimp only; omega), Nat.le_refl _⟩ ns.length (Nat.le_refl _)
 refine ⟨⟨hinv.a, hinv.b, fun i hi => ?_⟩, fun b hbm => Nat.le_trans (hinv.d b hbm) (by omega), hinv.e⟩; have h3 := hinv.c i; have e1 : ((List.range ns.length).map (sl1 ns p f (flowV ns p c f))).getD i [] = sl1 ns p f (flowV ns p c f) i := by simp [hi]
 dsimp only at h3; rw [e1] at h3; have h4 := hp.ln i hi; rw [← h4]; have h5 : (sl1 ns p f (flowV ns p c f) i).length = (p.1.getD i []).length := by
  unfold sl1; split
  · unfold advV; exact bA4 _ _ _ _
  · rfl
 exact_mod_cast h3.trans h5
def CmdOk (ns : List Nd) (c : List Int) : Prop := c.length = ns.length ∧ ∀ i, i < ns.length → cmdOk (ns.getD i nd0) (c.getD i 0) = true
theorem cB5 {ds : List Dv} {ns : List Nd} (hg : GoodL (ns, ds)) {bud : Int} {h : Hy} {c : List Int} (hc : CmdOk ns c) (hb : bud ≤ 2) (hu : 0 ≤ h.1) {s : List Dv} (hs : s ∈ setN ns bud h) : s.length ≤ 2 ∧ Poss ns c s := by
 obtain ⟨h1, h2⟩ := oB1 hg h.2.1 _ _ _ s hs; exact ⟨by omega, h2.poss hc.1 hc.2 (by omega)⟩
theorem nB8 {ds : List Dv} {ns : List Nd} (hg : GoodL (ns, ds)) {bud : Int} {h : Hy} (hb : bud ≤ 2) (hu : 0 ≤ h.1) : (setN ns bud h).length ≤ 148225 := by
 refine Nat.le_trans (wA7 hg _ _ _ _) ?_
 calc 385 ^ (bud - h.1).toNat ≤ 385 ^ 2 := Nat.pow_le_pow_right (by decide) (by omega)
  _ = 148225 := rfl
theorem xA4 {α : Type} {l : List α} {i : Nat} {d : α} (h : i < l.length) : l.getD i d ∈ l := by
 rw [gdE, List.getElem?_eq_getElem h]; exact List.getElem_mem h
theorem wB5 {ds : List Dv} {ns : List Nd} (hg : GoodL (ns, ds)) {bud : Int} {c : List Int} (hc : CmdOk ns c) (hb : bud ≤ 2) {K : Nat} {h : Hy} (hh : HyOk ns bud K h) {L : List Hy} (hL : ∀ x ∈ L, HyOk ns bud (K + 24) x) : ∀ k, k ≤ (setN ns bud h).length → (∀ x ∈ stpS ns bud c h (setN ns bud h) L k, HyOk ns bud (K + 24) x) ∧ (stpS ns bud c h (setN ns bud h) L k).length ≤ L.length + k
 | 0, _ => ⟨hL, Nat.le_refl _⟩
 | k + 1, hk => by
   have ih := wB5 hg hc hb hh hL k (by omega); unfold stpS; split
   · rename_i hle; have hp := cB5 hg hc hb hh.u0 (xA4 (d := []) (show k < (setN ns bud h).length by omega)); have h1 := sB7 hg hh.ft hh.bk hp.2; refine ⟨lC3 ih.1 ⟨?_, hle, h1.1, h1.2.1⟩, ?_⟩
     · have := hh.u0; dsimp only; omega
     · have := sB8 (stpS ns bud c h (setN ns bud h) L k) (h.1 + (((setN ns bud h).getD k []).length : Int), plantV ns h.2 c ((setN ns bud h).getD k [])); omega
   · exact ⟨ih.1, by omega⟩
theorem rC1 {ds : List Dv} {ns : List Nd} (hg : GoodL (ns, ds)) {c : List Int} (hc : CmdOk ns c) {K : Nat} {b : Be} (hb : BeOk ns K b) : ∀ i, i ≤ b.2.length → (∀ x ∈ stpL ns c b i, HyOk ns b.1 (K + 24) x) ∧ (stpL ns c b i).length ≤ 148225 * i
 | 0, _ => ⟨fun x hx => (by cases hx), by simp [stpL]⟩
 | i + 1, hi => by
   have ih := rC1 hg hc hb i (by omega); have hh := hb.ok _ (xA4 (d := hy0) (show i < b.2.length by omega)); have h1 := wB5 hg hc hb.u2 hh ih.1 _ (Nat.le_refl _); have h2 := nB8 (h := b.2.getD i hy0) hg hb.u2 hh.u0; unfold stpL; exact ⟨h1.1, by omega⟩
theorem HyOk.cpy {ds : List Dv} {ns : List Nd} (hg : GoodL (ns, ds)) {bud : Int} {K : Nat} {h : Hy} (k : HyOk ns bud K h) (hK : K ≤ 1000000) : cpyP h.2.1 h.2.2 := k.ft.cpy hg (k.bk.B hK)
def conSets3 : Con := con94 3
theorem cSets3 : CtrOk Tryz.prog 94 conSets3.ctr := cSets 3
def con54 : Con := { ps := [.d true yLY, .d true yBE, .d false (.sl yI), .nl, .nl], rs := [.d true yBE, .d false yI], pre := fun (x : Ly × Be × List Int × Unit × Unit × Unit) => GoodL x.1 ∧ BeOk x.1.1 800000 x.2.1 ∧ CmdOk x.1.1 x.2.2.1, out := fun (x : Ly × Be × List Int × Unit × Unit × Unit) => ((stepB x.1.1 x.2.2.1 x.2.1).1, (stepB x.1.1 x.2.2.1 x.2.1).2, ()), nw := id }
theorem c54 : CtrOk Tryz.prog 54 con54.ctr :=
 aA0 eA0 (eC c16 has16 (eC c49 has49 (eC c50 has50 (eC cSets3 has94 (eC c95 has95 eN))))) rfl Tryz.func54 rfl con54 1237940039286506175887309951 (by kernel_rfl) (by decide) (by decide) rfl (by decide) rfl (by
  rintro ⟨⟨(ns : List Nd), (ds : List Dv)⟩, ⟨(u : Int), (l : List Hy)⟩, (c : List Int), _⟩ hpre hwf X hT hG hk hK; obtain ⟨hg, hb, hc⟩ : GoodL (ns, ds) ∧ BeOk ns 800000 (u, l) ∧ CmdOk ns c := hpre
  (simp -implicitDefEqProofs (maxSteps := 4000000) only [go_sem, bP, con54, con16, con49, con50, conSets3, con95, hT, hG, hk, hK, Tryz.results54, con94] at hwf ⊢); (try simp (disch := decide +kernel) only [drawn, true_and, and_true])
  clear hwf; have h40 : l.length ≤ 40 := hb.n40; have hu2 : u ≤ 2 := hb.u2; have hu0 : 0 ≤ u := hb.u0; have hok := rC1 hg hc hb; have hsb : stepB ns c (u, l) = endV (u, stpL ns c (u, l) l.length) := rfl; refine cA0 ⟨{ i : Nat // i ≤ l.length }, 1000, fun i => [(2, .one (.sl yI c false)), (3, .one .nilsl), (4, .one .nilsl), (5, .one (.loc 64 0)), (6, .one (.loc 65 0)), (10, .one (.loc 66 0)), (12, .one (.loc 67 0)), (13, .one (.int .i64 (i.1 : Int)))], fun i => [(64, .cells 30 [.sl yNO ns false, .sl yPL ds false]), (65, .cells 34 [.int .i64 u, .sl yHY l false]), (66, .cells 34 [.undef, .undef]), (67, .cells 34 [.int .i64 u, .row 68]), (68, .row 50 yHY (stpL ns c (u, l) i.1))], fun i => l.length - i.1⟩ ⟨0, Nat.zero_le _⟩ ?_ ?_
  · simp only [go_sem]; simp only [stpL]
    try first | rfl | (and_intros <;> first | trivial | rfl | omega)
  · rintro ⟨i, (hi : i ≤ l.length)⟩; have hoki := hok i hi; obtain ⟨L, hL⟩ : ∃ L, stpL ns c (u, l) i = L := ⟨_, rfl⟩; rw [hL] at hoki
    (simp -implicitDefEqProofs (maxSteps := 4000000) only [go_sem, bP, con54, con16, con49, con50, conSets3, con95, hT, hG, hk, hK, Tryz.results54, con94]); (try simp (disch := decide +kernel) only [drawn, true_and, and_true])
    simp only [hL]; refine fun _ => ⟨fun hlt => ?_, fun hge => ?_⟩
    · have hi' : i < l.length := by omega
      have eii : (i : Int).toNat = i := Int.toNat_natCast i; obtain ⟨h, eh⟩ : ∃ h, l.getD i hy0 = h := ⟨_, rfl⟩; have ek : ∀ z, l.getD i z = h := fun z => by rw [← eh]; simp [hi']
      have hh : HyOk ns u 800000 h := hb.ok h (by rw [← eh]; exact xA4 hi'); have hst : stpL ns c (u, l) (i + 1) = stpS ns u c h (setN ns u h) L (setN ns u h).length := by rw [stpL, hL]; dsimp only; rw [eh]
      obtain ⟨hu, ⟨hs, hbn⟩⟩ := h; have hsN : setN ns u (hu, (hs, hbn)) = setsV ns hs (u - hu).toNat 0 0 := rfl; simp only [eii, ek]; have q0 : 0 ≤ hu := hh.u0; have q1 : hu ≤ u := hh.u1; obtain ⟨S, hS⟩ : ∃ S, setsV ns hs (u - hu).toNat 0 0 = S := ⟨_, rfl⟩; have hS2 : setN ns u (hu, (hs, hbn)) = S := hsN.trans hS; have hSp : ∀ s ∈ S, s.length ≤ 2 ∧ Poss ns c s := fun s h => cB5 hg hc hu2 q0 (by rw [hS2]; exact h); have hSl : S.length ≤ 148225 := by rw [← hS2]; exact nB8 hg hu2 q0
      have hok2 := wB5 hg hc hu2 hh hoki.1; rw [hS2] at hok2 hst; have hLl := hoki.2; simp only [hS]; refine ⟨⟨by omega, by omega⟩, fun _ _ => ⟨⟨by omega, by omega⟩, ⟨hg, hh.ft, by omega, by omega, ⟨by omega, by omega⟩, by omega, by omega⟩, fun _ => ?_⟩⟩; refine cA0 ⟨{ k : Nat // k ≤ S.length }, 2000, fun k => [(2, .one (.sl yI c false)), (3, .one .nilsl), (4, .one .nilsl), (5, .one (.loc 64 0)), (6, .one (.loc 65 0)), (10, .one (.loc 66 0)), (12, .one (.loc 67 0)), (13, .one (.int .i64 (i : Int))), (14, .one (.loc 69 0)), (15, .one (.sl (.sl yPL) S false)), (16, .one (.int .i64 (k.1 : Int)))], fun k => [(64, .cells 30 [.sl yNO ns false, .sl yPL ds false]), (65, .cells 34 [.int .i64 u, .sl yHY l false]), (66, .cells 34 [.undef, .undef]), (67, .cells 34 [.int .i64 u, .row 68]), (68, .row 50 yHY (stpS ns u c (hu, (hs, hbn)) S L k.1)), (69, .cells 50 [.int .i64 hu, .sl (.sl yI) hs false, .sl (.sl yI) hbn false])], fun k => S.length - k.1⟩ ⟨0, Nat.zero_le _⟩ ?_ ?_
      · simp only [go_sem]; simp only [stpS]
        try first | rfl | (and_intros <;> first | trivial | rfl | omega)
      · rintro ⟨k, (hk1 : k ≤ S.length)⟩; obtain ⟨o1, o2⟩ := hok2 k hk1; have hstk : stpS ns u c (hu, (hs, hbn)) S L (k + 1) = if hu + ((S.getD k []).length : Int) ≤ u then addV (stpS ns u c (hu, (hs, hbn)) S L k) (hu + ((S.getD k []).length : Int), plantV ns (hs, hbn) c (S.getD k [])) else stpS ns u c (hu, (hs, hbn)) S L k := rfl
        obtain ⟨M, hM⟩ : ∃ M, stpS ns u c (hu, (hs, hbn)) S L k = M := ⟨_, rfl⟩; rw [hM] at o1 o2 hstk
        (simp -implicitDefEqProofs (maxSteps := 4000000) only [go_sem, bP, con54, con16, con49, con50, conSets3, con95, hT, hG, hk, hK, Tryz.results54, con94]); (try simp (disch := decide +kernel) only [drawn, true_and, and_true])
        simp only [hM]; refine fun _ => ⟨fun hlt2 => ?_, fun hge2 => ?_⟩
        · have hk2 : k < S.length := by omega
          have ekk : (k : Int).toNat = k := Int.toNat_natCast k; obtain ⟨s, es⟩ : ∃ s, S.getD k [] = s := ⟨_, rfl⟩; have esk : ∀ z, S.getD k z = s := fun z => by rw [← es]; simp [hk2]
          obtain ⟨p1, p2⟩ := hSp s (by rw [← es]; exact xA4 hk2); rw [es] at hstk; have hpl := sB7 hg hh.ft hh.bk p2; have hplc : cpyP (stepV ns (hs, hbn) c s).1 (stepV ns (hs, hbn) c s).2.1 := hpl.1.cpy hg (hpl.2.1.B (by decide)); have hMc : ∀ y ∈ M, cpyP y.2.1 y.2.2 := fun y hy => (o1 y hy).cpy hg (by decide); have hbk9 : BinK 900000 (hs, hbn) := fun b hb => Nat.le_trans (hh.bk b hb) (by decide); have hfp := hh.ft; have hMl : M.length ≤ 100000000 := by omega
          simp only [ekk, esk, Int.add_zero]
          (repeat' with_reducible first | refine And.intro ?_ ?_ | intro _) <;> try first | with_reducible (first | assumption | omega | contradiction) | decide
          all_goals first
           | omega
           | exact hg
           | exact p2
           | exact hplc
           | exact hMc _ (by assumption)
           | (rw [if_pos (by assumption)] at hstk
              refine dA0 ⟨k + 1, by omega⟩ ?_ (by dsimp only; omega); simp only [go_sem]; rw [hstk]
              try first | rfl | (and_intros <;> first | trivial | rfl | omega)
              done)
           | (rw [if_neg (by assumption)] at hstk
              refine dA0 ⟨k + 1, by omega⟩ ?_ (by dsimp only; omega); simp only [go_sem]; rw [hstk]
              try first | rfl | (and_intros <;> first | trivial | rfl | omega)
              done)
        · obtain rfl : k = S.length := by omega
          rw [hM] at hst; refine ⟨⟨by omega, by omega⟩, ?_⟩; refine dA0 ⟨i + 1, by omega⟩ ?_ (by dsimp only; omega); simp only [go_sem]; rw [hst]
          try first | rfl | (and_intros <;> first | trivial | rfl | omega)
    · obtain rfl : i = l.length := by omega
      rw [hsb, hL]; exact fun _ => ⟨rfl, rfl, rfl⟩)
theorem CmdOk.poss {ns : List Nd} {c : List Int} (h : CmdOk ns c) : Poss ns c [] := ⟨h.1, h.2, fun y hy => (by cases hy), by decide, fun i j _ hj => absurd hj (by simp)⟩
def con25 : Con := { ps := [.d true yLY, .d true yBE, .d false (.sl yI)], rs := [.d true yBE, .d false yI], pre := fun (x : Ly × Be × List Int × Unit) => GoodL x.1 ∧ BeOk x.1.1 800000 x.2.1 ∧ CmdOk x.1.1 x.2.2.1, out := fun (x : Ly × Be × List Int × Unit) => ((stepB x.1.1 x.2.2.1 x.2.1).1, (stepB x.1.1 x.2.2.1 x.2.1).2, ()), nw := id }
theorem c25 : CtrOk Tryz.prog 25 con25.ctr :=
 aA0 eA0 (eC c53 has53 (eC c54 has54 eN)) rfl Tryz.func25 rfl con25 2271 (by kernel_rfl) (by decide) (by decide) rfl (by decide) rfl (by
  rintro ⟨⟨(ns : List Nd), (ds : List Dv)⟩, ⟨(u : Int), (l : List Hy)⟩, (c : List Int), _⟩ hpre hwf X hT hG hk hK; obtain ⟨hg, hb, hc⟩ : GoodL (ns, ds) ∧ BeOk ns 800000 (u, l) ∧ CmdOk ns c := hpre; have hps := hc.poss
  (simp -implicitDefEqProofs (maxSteps := 4000000) only [go_sem, bP, con25, con53, con54, hT, hG, hk, hK, Tryz.results25] at hwf ⊢)
  clear hwf; exact ⟨⟨hg, hps⟩, fun _ => ⟨False.elim, hg, hb, hc⟩⟩)
def ebH (b : Be) (bag : Int) : Nat → List Hy
 | 0 => []
 | i + 1 => if (enterV (b.2.getD i hy0).2 bag).2 = 0 then addV (ebH b bag i) ((b.2.getD i hy0).1, (enterV (b.2.getD i hy0).2 bag).1) else ebH b bag i
def ebB (b : Be) (bag : Int) : Be × Int := endV (b.1, ebH b bag b.2.length)
theorem iB7 {ds : List Dv} {ns : List Nd} (hg : GoodL (ns, ds)) {p : Pl} (hp : FitP ns p) {K : Nat} (hb : BinK K p) {bag : Int} (h : (enterV p bag).2 = 0) : FitP ns (enterV p bag).1 ∧ BinK K (enterV p bag).1 := by
 unfold enterV at h ⊢; split at h
 · cases h
 · split at h
   · cases h
   · rename_i h1 h2; rw [if_neg h1, if_neg h2]; refine ⟨⟨by dsimp only; rw [List.length_set]; exact hp.sl, hp.bl, fun i hi => ?_⟩, hb⟩; dsimp only; by_cases e : i = 0
     · subst e; have := hp.sl; rw [show (p.1.set 0 ((p.1.getD 0 []).set 0 bag)).getD 0 [] = (p.1.getD 0 []).set 0 bag by simp [show 0 < p.1.length by omega], List.length_set]; exact hp.ln 0 hi
     · rw [getD_set_ne e]; exact hp.ln i hi
theorem wC3 {ds : List Dv} {ns : List Nd} (hg : GoodL (ns, ds)) {K : Nat} {b : Be} (hb : BeOk ns K b) {bag : Int} : ∀ i, i ≤ b.2.length → (∀ x ∈ ebH b bag i, HyOk ns b.1 K x) ∧ (ebH b bag i).length ≤ i
 | 0, _ => ⟨fun x hx => (by cases hx), by simp [ebH]⟩
 | i + 1, hi => by
   have ih := wC3 hg hb (bag := bag) i (by omega); have hh := hb.ok _ (xA4 (d := hy0) (show i < b.2.length by omega)); unfold ebH; split
   · rename_i h; have h1 := iB7 hg hh.ft hh.bk h; refine ⟨lC3 ih.1 ⟨hh.u0, hh.u1, h1.1, h1.2⟩, ?_⟩; have := sB8 (ebH b bag i) ((b.2.getD i hy0).1, (enterV (b.2.getD i hy0).2 bag).1); omega
   · exact ⟨ih.1, by omega⟩
theorem gD4 {ds : List Dv} {ns : List Nd} (hg : GoodL (ns, ds)) {K : Nat} {b : Be} (hb : BeOk ns K b) (bag : Int) : BeOk ns K (ebB b bag).1 := by
 have h := wC3 hg hb (bag := bag) _ (Nat.le_refl _); unfold ebB endV; split
 · exact ⟨Int.le_refl _, by decide, Nat.zero_le _, fun x hx => by cases hx⟩
 · split
   · exact ⟨Int.le_refl _, by decide, Nat.zero_le _, fun x hx => by cases hx⟩
   · rename_i h1 h2; exact ⟨hb.u0, hb.u2, Nat.le_of_not_lt h2, h.1⟩
def con22 : Con := { ps := [.d true yLY, .d true yBE, .d false yI, .d false yI], rs := [.d true yBE, .d false yI], pre := fun (x : Ly × Be × Int × Int × Unit) => GoodL x.1 ∧ BeOk x.1.1 900000 x.2.1 ∧ x.2.2.1 = 0 ∧ 1 ≤ x.2.2.2.1 ∧ x.2.2.2.1 ≤ 40, out := fun (x : Ly × Be × Int × Int × Unit) => ((ebB x.2.1 x.2.2.2.1).1, (ebB x.2.1 x.2.2.2.1).2, ()), nw := id }
theorem c22 : CtrOk Tryz.prog 22 con22.ctr :=
 aA0 eA0 (eC c37 has37 (eC c49 has49 (eC c50 has50 eN))) rfl Tryz.func22 rfl con22 18446885087149571903 (by kernel_rfl) (by decide) (by decide) rfl (by decide) rfl (by
  rintro ⟨⟨(ns : List Nd), (ds : List Dv)⟩, ⟨(u : Int), (l : List Hy)⟩, (n : Int), (bag : Int), _⟩ hpre hwf X hT hG hk hK; obtain ⟨hg, hb, rfl, h1, h2⟩ : GoodL (ns, ds) ∧ BeOk ns 900000 (u, l) ∧ n = 0 ∧ 1 ≤ bag ∧ bag ≤ 40 := hpre
  (simp -implicitDefEqProofs (maxSteps := 4000000) only [go_sem, bP, con22, con37, con49, con50, hT, hG, hk, hK, Tryz.results22] at hwf ⊢); (try simp (disch := decide +kernel) only [drawn, true_and, and_true])
  clear hwf; have hn1 : 1 ≤ ns.length := hg.n1; have h40 : l.length ≤ 40 := hb.n40; have hen := hg.en; dsimp only at hen; have en0 : ∀ z, ns.getD 0 z = ns.getD 0 nd0 := fun z => by simp [show 0 < ns.length by omega]
  have hok := wC3 hg hb (bag := bag); have hsb : ebB (u, l) bag = endV (u, ebH (u, l) bag l.length) := rfl; simp only [en0]; refine fun _ => ⟨fun h => absurd h (by omega), fun _ => ⟨⟨by omega, by omega⟩, fun _ _ => ⟨fun h => absurd hen h, fun _ => ?_⟩⟩⟩; refine cA0 ⟨{ i : Nat // i ≤ l.length }, 1000, fun i => [(2, .one (.int .i64 0)), (3, .one (.int .i64 bag)), (4, .one (.loc 64 0)), (5, .one (.loc 65 0)), (8, .one (.loc 66 0)), (10, .one (.loc 67 0)), (11, .one (.int .i64 (i.1 : Int)))], fun i => [(64, .cells 30 [.sl yNO ns false, .sl yPL ds false]), (65, .cells 34 [.int .i64 u, .sl yHY l false]), (66, .cells 34 [.undef, .undef]), (67, .cells 34 [.int .i64 u, .row 68]), (68, .row 50 yHY (ebH (u, l) bag i.1))], fun i => l.length - i.1⟩ ⟨0, Nat.zero_le _⟩ ?_ ?_
  · simp only [go_sem]; simp only [ebH]
    try first | rfl | (and_intros <;> first | trivial | rfl | omega)
  · rintro ⟨i, (hi : i ≤ l.length)⟩; obtain ⟨o1, o2⟩ := hok i hi; have hst : ebH (u, l) bag (i + 1) = if (enterV (l.getD i hy0).2 bag).2 = 0 then addV (ebH (u, l) bag i) ((l.getD i hy0).1, (enterV (l.getD i hy0).2 bag).1) else ebH (u, l) bag i := rfl
    obtain ⟨L, hL⟩ : ∃ L, ebH (u, l) bag i = L := ⟨_, rfl⟩; rw [hL] at o1 o2 hst
    (simp -implicitDefEqProofs (maxSteps := 4000000) only [go_sem, bP, con22, con37, con49, con50, hT, hG, hk, hK, Tryz.results22]); (try simp (disch := decide +kernel) only [drawn, true_and, and_true])
    simp only [hL]; refine fun _ => ⟨fun hlt => ?_, fun hge => ?_⟩
    · have hi' : i < l.length := by omega
      have eii : (i : Int).toNat = i := Int.toNat_natCast i; obtain ⟨h, eh⟩ : ∃ h, l.getD i hy0 = h := ⟨_, rfl⟩; have ek : ∀ z, l.getD i z = h := fun z => by rw [← eh]; simp [hi']
      have hh : HyOk ns u 900000 h := hb.ok h (by rw [← eh]; exact xA4 hi'); have hMc : ∀ y ∈ L, cpyP y.2.1 y.2.2 := fun y hy => (o1 y hy).cpy hg (by decide); rw [eh] at hst; obtain ⟨hu, ⟨hs, hbn⟩⟩ := h; have hpc : (enterV (hs, hbn) bag).2 = 0 → cpyP (enterV (hs, hbn) bag).1.1 (enterV (hs, hbn) bag).1.2 := fun q => by
       have := iB7 hg hh.ft hh.bk q; exact this.1.cpy hg (this.2.B (by decide))
      have hft := hh.ft; have hbk : BinB (hs, hbn) := hh.bk.B (by decide); have hLl : L.length ≤ 100000000 := by omega
      dsimp only at hst; simp only [eii, ek]
      (repeat' with_reducible first | refine And.intro ?_ ?_ | intro _) <;> try first | with_reducible (first | assumption | omega | contradiction) | decide
      all_goals first
       | omega
       | exact hg
       | exact hpc (by assumption)
       | exact hMc _ (by assumption)
       | (rw [if_pos (by assumption)] at hst
          refine dA0 ⟨i + 1, by omega⟩ ?_ (by dsimp only; omega); simp only [go_sem]; rw [hst]
          try first | rfl | (and_intros <;> first | trivial | rfl | omega)
          done)
       | (rw [if_neg (by assumption)] at hst
          refine dA0 ⟨i + 1, by omega⟩ ?_ (by dsimp only; omega); simp only [go_sem]; rw [hst]
          try first | rfl | (and_intros <;> first | trivial | rfl | omega)
          done)
    · obtain rfl : i = l.length := by omega
      rw [hsb, hL]; exact fun _ => ⟨rfl, rfl, rfl⟩)
def p0V (ns : List Nd) : Pl := (ns.map (fun y => List.replicate y.2.2.1.toNat 0), ns.map (fun _ => []))
def newB (ns : List Nd) (bud : Int) : Be := (bud, [(0, p0V ns)])
theorem eD5 {ds : List Dv} {ns : List Nd} (hg : GoodL (ns, ds)) : FitP ns (p0V ns) ∧ BinK 0 (p0V ns) := by
 refine ⟨⟨by simp [p0V], by simp [p0V], fun i hi => ?_⟩, fun b hb => ?_⟩
 · have h8 := hg.le8 ns[i] (List.getElem_mem hi); have e : (p0V ns).1.getD i [] = List.replicate (ns[i]).2.2.1.toNat 0 := by simp [p0V, hi]
   rw [e, List.length_replicate, show ns.getD i nd0 = ns[i] by simp [hi]]; omega
 · obtain ⟨y, _, rfl⟩ := List.mem_map.1 hb; exact Nat.le_refl _
theorem bC5 {ds : List Dv} {ns : List Nd} (hg : GoodL (ns, ds)) {bud : Int} (h0 : 0 ≤ bud) (h2 : bud ≤ 2) : BeOk ns 0 (newB ns bud) := ⟨h0, h2, by simp [newB], fun h hh => by
 rw [newB, List.mem_singleton] at hh; subst hh; exact ⟨Int.le_refl _, h0, (eD5 hg).1, (eD5 hg).2⟩⟩
def con21 : Con := { ps := [.d true yLY, .d false yI], rs := [.d true yBE, .d false yI], pre := fun (x : Ly × Int × Unit) => GoodL x.1 ∧ 0 ≤ x.2.1 ∧ x.2.1 ≤ 2, out := fun (x : Ly × Int × Unit) => (newB x.1.1 x.2.1, 0, ()), nw := id }
theorem c21 : CtrOk Tryz.prog 21 con21.ctr :=
 aA0 eA0 (eC c34 has34 eN) rfl Tryz.func21 rfl con21 4210935 (by kernel_rfl) (by decide) (by decide) rfl (by decide) rfl (by
  rintro ⟨⟨(ns : List Nd), (ds : List Dv)⟩, (u : Int), _⟩ hpre hwf X hT hG hk hK; obtain ⟨hg, h1, h2⟩ : GoodL (ns, ds) ∧ 0 ≤ u ∧ u ≤ 2 := hpre
  (simp -implicitDefEqProofs (maxSteps := 4000000) only [go_sem, bP, con21, con34, hT, hG, hk, hK, Tryz.results21] at hwf ⊢)
  clear hwf; exact ⟨hg, fun _ => ⟨False.elim, fun h => absurd h (by omega), fun _ => ⟨rfl, rfl⟩⟩⟩)
attribute [local go_sem] List.set_cons_succ List.set_cons_zero List.getD_cons_succ List.getD_cons_zero List.set_nil
def binL (ns : List Nd) : Nat → List Int
 | 0 => []
 | i + 1 => if strN (ns.getD i nd0).2.1 = true then binL ns i else binL ns i ++ [(i : Int)]
theorem tB8 (ns : List Nd) : ∀ i, (binL ns i).length ≤ i
 | 0 => Nat.le_refl _
 | i + 1 => by
   have := tB8 ns i; unfold binL; split
   · omega
   · rw [List.length_append, List.length_singleton]; omega
def tgS (s : Src) : Nat → Src
 | 0 => s
 | k + 1 => (tgS s k).step.step
def tgC (ns : List Nd) (s : Src) : List Int := binL ns ns.length ++ [-1, 0 + goMod s.raw ((ns.length : Int) - 0 + 1)]
def tgL (ns : List Nd) (s : Src) : Nat → List Int
 | 0 => []
 | k + 1 => tgL ns s k ++ [(tgC ns (tgS s k)).getD (goMod (tgS s k).step.raw (tgC ns (tgS s k)).length).toNat 0]
theorem bB7 (ns : List Nd) (s : Src) : ∀ k, (tgL ns s k).length = k
 | 0 => rfl
 | k + 1 => by simp [tgL, bB7 ns s k]
theorem mC1 {s : Src} (h : 0 ≤ s.2) : ∀ k, 0 ≤ (tgS s k).2
 | 0 => h
 | k + 1 => Src.step_pos' (Src.step_pos' (mC1 h k))
def con11 : Con := { ps := [.p 75 ySR, .d true yLY, .d false yI], rs := [.d false (.sl yI)], pre := fun (x : Src × Ly × Int × Unit) => 0 ≤ x.1.2 ∧ x.2.1.1.length ≤ 1000 ∧ 0 ≤ x.2.2.1 ∧ x.2.2.1 ≤ 1000, out := fun (x : Src × Ly × Int × Unit) => (tgL x.2.1.1 x.1 x.2.2.1.toNat, ()), nw := fun (x : Src × Ly × Int × Unit) => (tgS x.1 x.2.2.1.toNat, x.2) }
theorem c11 : CtrOk Tryz.prog 11 con11.ctr :=
 aA0 eA0 (eC c23 has23 (eC c29 has29 (eC c38 has38 eN))) rfl Tryz.func11 rfl con11 4328556503 (by kernel_rfl) (by decide) (by decide) rfl (by decide) rfl (by
  rintro ⟨⟨(s : List Int), (a : Int)⟩, ⟨(ns : List Nd), (ds : List Dv)⟩, (n' : Int), _⟩ hpre hwf X hT hG hk hK; obtain ⟨h1, h2, h3, h4⟩ : 0 ≤ a ∧ ns.length ≤ 1000 ∧ 0 ≤ n' ∧ n' ≤ 1000 := hpre; obtain ⟨n, rfl⟩ : ∃ n : Nat, n' = n := ⟨n'.toNat, by omega⟩
  (simp -implicitDefEqProofs (maxSteps := 4000000) only [go_sem, bP, con11, con23, con29, con38, hT, hG, hk, hK, Tryz.results11] at hwf ⊢); (try simp (disch := decide +kernel) only [drawn, true_and, and_true])
  clear hwf; refine cA0 ⟨{ i : Nat // i ≤ ns.length }, 1000, fun i => [(0, .one (.loc 0 0)), (2, .one (.int .i64 (n : Int))), (4, .one (.loc 64 0)), (7, .one (.row 65)), (8, .one (.row 66)), (9, .one (.int .i64 (i.1 : Int)))], fun i => [(0, .cells 75 [.sl yI s false, .int .i64 a]), (64, .cells 30 [.sl yNO ns false, .sl yPL ds false]), (65, .row 3 yI (binL ns i.1)), (66, .row 3 yI [])], fun i => ns.length - i.1⟩ ⟨0, Nat.zero_le _⟩ ?_ ?_
  · simp only [go_sem]; simp only [binL]
    try first | rfl | (and_intros <;> first | trivial | rfl | omega)
  · rintro ⟨i, (hi : i ≤ ns.length)⟩; have hbl := tB8 ns i
    (simp -implicitDefEqProofs (maxSteps := 4000000) only [go_sem, bP, con11, con23, con29, con38, hT, hG, hk, hK, Tryz.results11]); (try simp (disch := decide +kernel) only [drawn, true_and, and_true])
    refine fun _ => ⟨fun hlt => ?_, fun hge => ?_⟩
    · have hi' : i < ns.length := by omega
      have eii : (i : Int).toNat = i := Int.toNat_natCast i; obtain ⟨y, ey⟩ : ∃ y, ns.getD i nd0 = y := ⟨_, rfl⟩; have ek : ∀ z, ns.getD i z = y := fun z => by rw [← ey]; simp [hi']
      have hst : binL ns (i + 1) = if strN y.2.1 = true then binL ns i else binL ns i ++ [(i : Int)] := by rw [binL, ey]
      simp only [eii, ek]
      (repeat' with_reducible first | refine And.intro ?_ ?_ | intro _) <;> try first | with_reducible (first | assumption | omega | contradiction) | decide
      all_goals first
       | omega
       | (rw [if_pos (by assumption)] at hst
          refine dA0 ⟨i + 1, by omega⟩ ?_ (by dsimp only; omega); simp only [go_sem]; rw [hst]
          try first | rfl | (and_intros <;> first | trivial | rfl | omega)
          done)
       | (have h : strN y.2.1 = false := by assumption
          rw [if_neg (by rw [h]; decide)] at hst; refine dA0 ⟨i + 1, by omega⟩ ?_ (by dsimp only; omega); simp only [go_sem]; rw [hst]
          try first | rfl | (and_intros <;> first | trivial | rfl | omega)
          done)
    · obtain rfl : i = ns.length := by omega
      refine cA0 ⟨{ k : Nat // k ≤ n }, 2000, fun k => [(0, .one (.loc 0 0)), (2, .one (.int .i64 (n : Int))), (4, .one (.loc 64 0)), (7, .one (.row 65)), (8, .one (.row 66)), (10, .one (.int .i64 (k.1 : Int)))], fun k => [(0, .cells 75 [.sl yI (tgS (s, a) k.1).1 false, .int .i64 (tgS (s, a) k.1).2]), (64, .cells 30 [.sl yNO ns false, .sl yPL ds false]), (65, .row 3 yI (binL ns ns.length)), (66, .row 3 yI (tgL ns (s, a) k.1))], fun k => n - k.1⟩ ⟨0, Nat.zero_le _⟩ ?_ ?_
      · simp only [go_sem]; simp only [tgS, tgL]
        try first | rfl | (and_intros <;> first | trivial | rfl | omega)
      · rintro ⟨k, (hk1 : k ≤ n)⟩; have hps := mC1 (s := (s, a)) h1 k; have hps2 := Src.step_pos' hps; have hll := bB7 ns (s, a) k; have hsS : tgS (s, a) (k + 1) = (tgS (s, a) k).step.step := rfl; have hsL : tgL ns (s, a) (k + 1) = tgL ns (s, a) k ++ [(tgC ns (tgS (s, a) k)).getD (goMod (tgS (s, a) k).step.raw (tgC ns (tgS (s, a) k)).length).toNat 0] := rfl; unfold tgC at hsL
        (simp -implicitDefEqProofs (maxSteps := 4000000) only [go_sem, bP, con11, con23, con29, con38, hT, hG, hk, hK, Tryz.results11]); (try simp (disch := decide +kernel) only [drawn, true_and, and_true])
        refine ⟨fun hlt => ?_, fun hge2 => ?_⟩
        · generalize tgS (s, a) k = S at *; generalize tgL ns (s, a) k = L at *; obtain ⟨S1, S2⟩ := S; have hcl : 0 < (binL ns ns.length ++ [-1, 0 + goMod (Src.raw (S1, S2)) ((ns.length : Int) - 0 + 1)]).length := by
           rw [List.length_append]; show 0 < _ + 2; omega
          (repeat' with_reducible first | refine And.intro ?_ ?_ | intro _) <;> try first | with_reducible (first | assumption | omega | contradiction) | decide
          all_goals first
           | omega
           | exact Int.natCast_nonneg _
           | (show ((ns.length : Nat) : Int) ≤ 1000000; omega)
           | (refine dA0 ⟨k + 1, by omega⟩ ?_ (by dsimp only; omega)
              simp only [go_sem]; rw [hsS, hsL]
              try first | rfl | (and_intros <;> first | trivial | rfl | omega)
              done)
        · obtain rfl : k = n := by omega
          rw [Int.toNat_natCast]; exact ⟨rfl, rfl, rfl⟩)
end Go.Proofs.YtabadacjbkhmkaaGreatDoor

set_option maxRecDepth 100000
set_option maxHeartbeats 8000000
namespace Go.Proofs.YtabadacjbkhmkaaGreatDoor
open Go.Ev
attribute [local go_sem] List.set_cons_succ List.set_cons_zero List.getD_cons_succ List.getD_cons_zero List.set_nil
end Go.Proofs.YtabadacjbkhmkaaGreatDoor

set_option maxRecDepth 100000
set_option maxHeartbeats 8000000
namespace Go.Proofs.YtabadacjbkhmkaaGreatDoor
open Go.Ev
theorem kA7 (ns : List Nd) (l : List Hy) (ts : List Int) (cl rs br : List Bool) {i : Nat} : ∀ n, i < n → (decL ns l ts cl rs br n).getD i 0 = cmdV ns l i ts cl rs br
 | 0, h => by omega
 | n + 1, h => by
   have hl := jA7 ns l ts cl rs br n; rw [decL]; by_cases e : i = n
   · subst e; rw [gdE, List.getElem?_append_right (by omega), hl, Nat.sub_self]; rfl
   · rw [gdE, List.getElem?_append_left (by omega), ← gdE]; exact kA7 ns l ts cl rs br n (by omega)
theorem qB6 (kd : Int) (cs : List Int) (w o : Int → Bool) : (exN kd = 2 → decC kd cs w o = 0 ∨ decC kd cs w o = 1) ∧ (¬ exN kd = 2 → decC kd cs w o = 0 ∨ (kd = 3 ∧ decC kd cs w o = -1)) := by
 unfold decC; refine ⟨fun h => ?_, fun h => ?_⟩
 · rw [if_pos h]; split
   · exact .inr rfl
   · exact .inl rfl
 · rw [if_neg h]; split
   · rename_i q; exact .inr ⟨q.1, rfl⟩
   · exact .inl rfl
theorem kD0 {ds : List Dv} {ns : List Nd} (hg : GoodL (ns, ds)) (l : List Hy) (ts : List Int) (cl rs br : List Bool) : CmdOk ns (decL ns l ts cl rs br ns.length) := by
 refine ⟨jA7 _ _ _ _ _ _ _, fun i hi => ?_⟩; rw [kA7 ns l ts cl rs br ns.length hi]; have hnd := hg.nd i hi; have hkd := hnd.kd; have hex := hnd.ex; have eii : (i : Int).toNat = i := Int.toNat_natCast i; dsimp only at hkd hex; unfold cmdV; rw [eii]; generalize ns.getD i nd0 = y at *; obtain ⟨h1, h2⟩ := qB6 y.2.1 (othF (atS l i l.length) 0) (fun b => wntV ns i b ts cl br) (isV rs); generalize decC y.2.1 (othF (atS l i l.length) 0) (fun b => wntV ns i b ts cl br) (isV rs) = v at *; obtain ⟨x1, x2, x3, x4, x5⟩ := y; dsimp only at *; unfold cmdOk; dsimp only; have hk : x2 = 1 ∨ x2 = 2 ∨ x2 = 3 ∨ x2 = 4 ∨ x2 = 5 ∨ x2 = 6 ∨ x2 = 7 ∨ x2 = 8 ∨ x2 = 9 := by omega
 rcases hk with rfl | rfl | rfl | rfl | rfl | rfl | rfl | rfl | rfl
 · rcases h2 (by decide) with rfl | ⟨q, _⟩
   · simp [strN, hex, exN]
   · omega
 · rcases h2 (by decide) with rfl | ⟨q, _⟩
   · simp [strN, hex, exN]
   · omega
 · rcases h2 (by decide) with rfl | ⟨_, rfl⟩
   · simp [strN, hex, exN]
   · simp [strN]
 · rcases h1 rfl with rfl | rfl <;> simp [strN, hex, exN]
 · rcases h1 rfl with rfl | rfl <;> simp [strN, hex, exN]
 · rcases h1 rfl with rfl | rfl <;> simp [strN, hex, exN]
 · rcases h2 (by decide) with rfl | ⟨q, _⟩
   · simp
   · omega
 · rcases h2 (by decide) with rfl | ⟨q, _⟩
   · simp [strN]
   · omega
 · rcases h2 (by decide) with rfl | ⟨q, _⟩
   · simp [strN]
   · omega
end Go.Proofs.YtabadacjbkhmkaaGreatDoor
