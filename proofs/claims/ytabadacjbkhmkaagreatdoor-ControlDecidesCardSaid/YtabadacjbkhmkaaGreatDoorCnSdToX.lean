/- Part. -/
import Derived.Test.YtabadacjbkhmkaaGreatDoorEvSortToSc
import Derived.Test.YtabadacjbkhmkaaGreatDoorCnTToRb
set_option linter.all false
set_option maxRecDepth 100000
set_option maxHeartbeats 8000000
namespace Go.Proofs.YtabadacjbkhmkaaGreatDoor
open Go.Ev
theorem tB9 {l : List Int} {i : Nat} (h : i < l.length) (h0 : l[i] = 0) : othF (l.take (i + 1)) 0 = othF (l.take i) 0 := by
 rw [pA3 h, if_neg (fun q => q h0)]
theorem rB8 {l : List Int} {i : Nat} (h : i < l.length) (h0 : ¬ l[i] = 0) : othF (l.take (i + 1)) 0 = othF (l.take i) 0 ++ [l[i]] := by
 rw [pA3 h, if_pos h0]
def con15 : Con := { ps := [.d true yLY, .d true yBE, .d false (.sl yI), .d false (.sl .bool), .d false (.sl .bool), .d false (.sl .bool)], rs := [.d false (.sl yI)], pre := fun (x : Ly × Be × List Int × List Bool × List Bool × List Bool × Unit) => GoodL x.1 ∧ x.2.1.2.length ≤ 1000000 ∧ x.2.2.1.length ≤ 1000000, out := fun (x : Ly × Be × List Int × List Bool × List Bool × List Bool × Unit) => (decL x.1.1 x.2.1.2 x.2.2.1 x.2.2.2.1 x.2.2.2.2.1 x.2.2.2.2.2.1 x.1.1.length, ()), nw := id }
theorem c15 : CtrOk Tryz.prog 15 con15.ctr :=
 aA0 eA0 (eC c18 has18 (eC c19 has19 (eC c20 has20 (eC c41 has41 eN)))) rfl Tryz.func15 rfl con15 2475955636434488680360440063 (by kernel_rfl) (by decide) (by decide) rfl (by decide) rfl (by
  rintro ⟨⟨(ns : List Nd), (ds : List Dv)⟩, ⟨(u : Int), (l : List Hy)⟩, (ts : List Int), (cl : List Bool), (rs : List Bool), (br : List Bool), _⟩ hpre hwf X hT hG hk hK; obtain ⟨hg, hl, h3⟩ : GoodL (ns, ds) ∧ l.length ≤ 1000000 ∧ ts.length ≤ 1000000 := hpre; have hn24 : ns.length ≤ 24 := hg.n24
  (simp -implicitDefEqProofs (maxSteps := 4000000) only [go_sem, bP, con15, con18, con19, con20, con41, hT, hG, hk, hK, Tryz.results15] at hwf ⊢); (try simp (disch := decide +kernel) only [drawn, true_and, and_true])
  clear hwf; refine cA0 ⟨{ i : Nat // i ≤ ns.length }, 1000, fun i => [(2, .one (.sl yI ts false)), (3, .one (.sl .bool cl false)), (4, .one (.sl .bool rs false)), (5, .one (.sl .bool br false)), (6, .one (.loc 64 0)), (7, .one (.loc 65 0)), (13, .one (.row 66)), (14, .one (.int .i64 (i.1 : Int)))], fun i => [(64, .cells 30 [.sl yNO ns false, .sl yPL ds false]), (65, .cells 34 [.int .i64 u, .sl yHY l false]), (66, .row 3 yI (decL ns l ts cl rs br i.1))], fun i => ns.length - i.1⟩ ⟨0, Nat.zero_le _⟩ ?_ ?_
  · simp only [go_sem]; simp only [decL]
    try first | rfl | (and_intros <;> first | trivial | rfl | omega)
  · rintro ⟨n, (hi : n ≤ ns.length)⟩; have hll := uB0 ns l ts cl rs br n
    (simp -implicitDefEqProofs (maxSteps := 4000000) only [go_sem, bP, con15, con18, con19, con20, con41, hT, hG, hk, hK, Tryz.results15]); (try simp (disch := decide +kernel) only [drawn, true_and, and_true])
    refine fun _ => ⟨fun hlt => ?_, fun hge => ?_⟩
    · have hn : n < ns.length := by omega
      have enn : (n : Int).toNat = n := Int.toNat_natCast n; have hal := iB1 l n l.length; obtain ⟨y, ey⟩ : ∃ y, ns.getD n nd0 = y := ⟨_, rfl⟩; have ek : ∀ z, ns.getD n z = y := fun z => by rw [← ey]; simp [hn]
      have hcv : cmdV ns l n ts cl rs br = decC y.2.1 (othF (atS l n l.length) 0) (fun b => wntV ns n b ts cl br) (isV rs) := by unfold cmdV; rw [enn, ey]
      have hst : decL ns l ts cl rs br (n + 1) = decL ns l ts cl rs br n ++ [cmdV ns l n ts cl rs br] := rfl; rw [hcv] at hst; generalize atS l n l.length = A at *; generalize decL ns l ts cl rs br n = L at *; refine ⟨hl, fun _ => ?_⟩; refine cA0 ⟨{ i : Nat // i ≤ A.length }, 2000, fun i => [(2, .one (.sl yI ts false)), (3, .one (.sl .bool cl false)), (4, .one (.sl .bool rs false)), (5, .one (.sl .bool br false)), (6, .one (.loc 64 0)), (7, .one (.loc 65 0)), (13, .one (.row 66)), (14, .one (.int .i64 (n : Int))), (15, .one (.int .i64 0)), (16, .one (.row 67)), (17, .one (.bool (decide (0 < (othF (A.take i.1) 0).length)))), (18, .one (.bool (!(othF (A.take i.1) 0).any (fun b => !(decide ((exN y.2.1 : Int) = 2) && wntV ns n b ts cl br))))), (19, .one (.bool ((othF (A.take i.1) 0).any (fun b => !isV rs b)))), (20, .one (.int .i64 (i.1 : Int)))], fun i => [(64, .cells 30 [.sl yNO ns false, .sl yPL ds false]), (65, .cells 34 [.int .i64 u, .sl yHY l false]), (66, .row 3 yI L), (67, .row 3 yI A)], fun i => A.length - i.1⟩ ⟨0, Nat.zero_le _⟩ ?_ ?_
      · simp only [go_sem]; simp only [List.take_zero, othF, List.filter_nil, List.any_nil, List.length_nil]
        try first | rfl | (and_intros <;> first | trivial | rfl | omega)
      · rintro ⟨i, (hi2 : i ≤ A.length)⟩
        (simp -implicitDefEqProofs (maxSteps := 4000000) only [go_sem, bP, con15, con18, con19, con20, con41, hT, hG, hk, hK, Tryz.results15]); (try simp (disch := decide +kernel) only [drawn, true_and, and_true])
        simp only [enn, ek]; refine fun _ => ⟨fun hlt2 => ?_, fun hge2 => ?_⟩
        · have hi3 : i < A.length := by omega
          have eii : (i : Int).toNat = i := Int.toNat_natCast i; have eik : ∀ z, A.getD i z = A[i] := fun z => by simp [hi3]
          have t0 := tB9 hi3; have t1 := rB8 hi3; simp only [eii, eik]; generalize A[i] = b at *; generalize othF (A.take i) 0 = T at *; by_cases h0 : b = 0
          · have t2 := t0 h0; simp only [h0]
            (repeat' with_reducible first | refine And.intro ?_ ?_ | intro _) <;> try first | with_reducible (first | assumption | omega | contradiction) | decide
            all_goals first
             | omega
             | exact hg
             | (refine dA0 ⟨i + 1, by omega⟩ ?_ (by dsimp only; omega)
                simp only [go_sem]; simp only [t2]
                try first | rfl | (and_intros <;> first | trivial | rfl | omega)
                done)
          · have t2 := t1 h0; have u17 : decide (0 < (T ++ [b]).length) = true := decide_eq_true (by rw [List.length_append, List.length_singleton]; omega); have u18 : (T ++ [b]).any (fun b => !(decide ((exN y.2.1 : Int) = 2) && wntV ns n b ts cl br)) = (T.any (fun b => !(decide ((exN y.2.1 : Int) = 2) && wntV ns n b ts cl br)) || !(decide ((exN y.2.1 : Int) = 2) && decide (refW ns n b ts cl br = 1))) := by
             rw [List.any_append]; simp [wntV]
            have u19 : (T ++ [b]).any (fun b => !isV rs b) = (T.any (fun b => !isV rs b) || !isV rs b) := by
             rw [List.any_append]; simp
            generalize T.any (fun b => !(decide ((exN y.2.1 : Int) = 2) && wntV ns n b ts cl br)) = E1 at *; generalize T.any (fun b => !isV rs b) = E2 at *; generalize refW ns n b ts cl br = r at *; generalize isV rs b = o at *; generalize exN y.2.1 = x at *
            (repeat' with_reducible first | refine And.intro ?_ ?_ | intro _) <;> try first | with_reducible (first | assumption | omega | contradiction) | decide
            all_goals first
             | omega
             | exact hg
             | (refine dA0 ⟨i + 1, by omega⟩ ?_ (by dsimp only; omega)
                simp only [go_sem]; simp only [t2, u17, u18, u19]
                and_intros <;> first | trivial | omega | (cases E1 <;> cases decide ((x : Int) = 2) <;> cases decide (r = 1) <;> rfl)
                done)
        · have hiA : i = A.length := by omega
          subst hiA; rw [List.take_length]; generalize othF A 0 = T at *; have e2 : y.2.1 = 3 → exN y.2.1 = 1 := fun h => by rw [h]; rfl
          have c1 : exN y.2.1 = 2 → 0 < T.length → (T.any fun b => !(decide ((exN y.2.1 : Int) = 2) && wntV ns n b ts cl br)) = false → decC y.2.1 T (fun b => wntV ns n b ts cl br) (isV rs) = 1 := fun h h4 h5 => by
           have h6 : (T.any fun b => !wntV ns n b ts cl br) = false := by
            rw [h] at h5; simpa using h5
           unfold decC; rw [if_pos h, if_pos ⟨h4, h6⟩]
          have c2 : (¬ exN y.2.1 = 2 ∨ ¬ 0 < T.length) ∨ (T.any fun b => !(decide ((exN y.2.1 : Int) = 2) && wntV ns n b ts cl br)) = true → y.2.1 = 3 → (T.any fun b => !isV rs b) = true → decC y.2.1 T (fun b => wntV ns n b ts cl br) (isV rs) = -1 := fun _ h h5 => by
           unfold decC; rw [if_neg (by rw [e2 h]; decide), if_pos ⟨h, h5⟩]
          have c3 : (¬ exN y.2.1 = 2 ∨ ¬ 0 < T.length) ∨ (T.any fun b => !(decide ((exN y.2.1 : Int) = 2) && wntV ns n b ts cl br)) = true → (¬ y.2.1 = 3 ∨ (T.any fun b => !isV rs b) = false) → decC y.2.1 T (fun b => wntV ns n b ts cl br) (isV rs) = 0 := fun h h5 => by
           unfold decC; by_cases h6 : exN y.2.1 = 2
           · rw [if_pos h6, if_neg]; rintro ⟨q1, q2⟩
             rcases h with (h | h) | h
             · exact h h6
             · exact h q1
             · have q3 : (T.any fun b => !wntV ns n b ts cl br) = false := q2; have q4 : (T.any fun b => !(decide ((exN y.2.1 : Int) = 2) && wntV ns n b ts cl br)) = (T.any fun b => !wntV ns n b ts cl br) := by
                first
                 | (rw [h6]; done)
                 | (rw [h6]; simp)
               rw [q4, q3] at h; cases h
           · rw [if_neg h6, if_neg]; rintro ⟨q1, q2⟩
             rcases h5 with h5 | h5
             · exact h5 q1
             · rw [h5] at q2; cases q2
          generalize (T.any fun b => !(decide ((exN y.2.1 : Int) = 2) && wntV ns n b ts cl br)) = E1 at *; generalize (T.any fun b => !isV rs b) = E2 at *; generalize exN y.2.1 = x at *; generalize decC y.2.1 T (fun b => wntV ns n b ts cl br) (isV rs) = v at *
          (repeat' with_reducible first | refine And.intro ?_ ?_ | intro _) <;> try first | with_reducible (first | assumption | omega | contradiction) | decide
          all_goals first
           | omega
           | (have h : ((x : Int) = 2 ∧ 0 < T.length) ∧ E1 = false := by assumption
              rw [c1 (by omega) h.1.2 h.2] at hst; refine dA0 ⟨n + 1, by omega⟩ ?_ (by dsimp only; omega); simp only [go_sem]; rw [hst]
              try first | rfl | (and_intros <;> first | trivial | rfl | omega)
              done)
           | (have h : (¬ (x : Int) = 2 ∨ ¬ 0 < T.length) ∨ E1 = true := by assumption
              have h' : (¬ x = 2 ∨ ¬ 0 < T.length) ∨ E1 = true := h.imp (fun q => q.imp (fun e f => e (by omega)) id) id; have k : y.2.1 = 3 ∧ E2 = true := by assumption
              rw [c2 h' k.1 k.2] at hst; refine dA0 ⟨n + 1, by omega⟩ ?_ (by dsimp only; omega); simp only [go_sem]; rw [hst]
              try first | rfl | (and_intros <;> first | trivial | rfl | omega)
              done)
           | (have h : (¬ (x : Int) = 2 ∨ ¬ 0 < T.length) ∨ E1 = true := by assumption
              have h' : (¬ x = 2 ∨ ¬ 0 < T.length) ∨ E1 = true := h.imp (fun q => q.imp (fun e f => e (by omega)) id) id; rw [c3 h' (by assumption)] at hst; refine dA0 ⟨n + 1, by omega⟩ ?_ (by dsimp only; omega); simp only [go_sem]; rw [hst]
              try first | rfl | (and_intros <;> first | trivial | rfl | omega)
              done)
    · rw [show n = ns.length by omega])
attribute [local go_sem] List.set_cons_succ List.set_cons_zero List.getD_cons_succ List.getD_cons_zero List.set_nil
def accK (g : Nat → List (List Dv)) : Nat → List (List Dv)
 | 0 => []
 | k + 1 => accK g k ++ g k
theorem eB1 {g : Nat → List (List Dv)} {s : List Dv} : ∀ {n : Nat}, s ∈ accK g n → ∃ k, k < n ∧ s ∈ g k
 | 0, h => by cases h
 | n + 1, h => by
   rcases List.mem_append.1 h with h | h
   · obtain ⟨k, h1, h2⟩ := eB1 h; exact ⟨k, by omega, h2⟩
   · exact ⟨n, by omega, h⟩
theorem fA4 {g : Nat → List (List Dv)} {B : Nat} : ∀ {n : Nat}, (∀ k, k < n → (g k).length ≤ B) → (accK g n).length ≤ B * n
 | 0, _ => by simp [accK]
 | n + 1, h => by
   have h1 := fA4 (n := n) fun k hk => h k (by omega); have h2 := h n (by omega); unfold accK; rw [List.length_append, Nat.mul_add]; omega
def conK (i k : Nat) (kind : Int) (R : List (List Dv)) : List (List Dv) := R.map (fun r => ((kind, (i : Int), (k : Int)) : Dv) :: r)
def ctrW (sl : List (List Int)) (node window : Int) (R : Nat → Nat → List (List Dv)) (i k : Nat) : List (List Dv) :=
 if (sl.getD i []).getD k 0 = 0 ∨ ((i : Int) = node ∧ (k : Int) < window) then [] else conK i k 1 (R i (k + 1)) ++ conK i k 2 (R i (k + 1))
def rowW (ns : List Nd) (sl : List (List Int)) (node window : Int) (R : Nat → Nat → List (List Dv)) (i : Nat) : List (List Dv) :=
 accK (ctrW sl node window R i) (ns.getD i nd0).2.2.1.toNat
def setsV (ns : List Nd) (sl : List (List Int)) : Nat → Nat → Nat → List (List Dv)
 | 0 => fun _ _ => [[]]
 | n + 1 => fun node window => [] :: accK (fun d => rowW ns sl node window (setsV ns sl n) (node + d)) (ns.length - node)
theorem mA7 {ds : List Dv} {ns : List Nd} (hg : GoodL (ns, ds)) (sl : List (List Int)) : ∀ n node window, (setsV ns sl n node window).length ≤ 385 ^ n
 | 0, _, _ => by simp [setsV]
 | n + 1, node, window => by
   have ih := mA7 hg sl n; have hn24 : ns.length ≤ 24 := hg.n24; have hpos : 1 ≤ 385 ^ n := Nat.one_le_pow _ _ (by decide); have hrow : ∀ d, d < ns.length - node → (rowW ns sl node window (setsV ns sl n) (node + d)).length ≤ 16 * 385 ^ n := fun d hd => by
    have hlt : node + d < ns.length := by omega
    have h8 := hg.le8 ns[node + d] (List.getElem_mem hlt); have := fA4 (g := ctrW sl node window (setsV ns sl n) (node + d)) (B := 2 * 385 ^ n) (n := (ns.getD (node + d) nd0).2.2.1.toNat) fun k _ => by
     unfold ctrW; split
     · simp
     · rw [List.length_append]; unfold conK; rw [List.length_map, List.length_map]; have := ih (node + d) (k + 1); omega
    unfold rowW; have e : ns.getD (node + d) nd0 = ns[node + d] := by simp [hlt]
    have h8' : (ns.getD (node + d) nd0).2.2.1.toNat ≤ 8 := by rw [e]; omega
    calc _ ≤ _ := this
     _ ≤ 2 * 385 ^ n * 8 := Nat.mul_le_mul_left _ h8'
     _ = 16 * 385 ^ n := by omega
   have h1 := fA4 hrow; have h2 : 16 * 385 ^ n * (ns.length - node) ≤ 16 * 385 ^ n * 24 := Nat.mul_le_mul_left _ (by omega); unfold setsV; rw [List.length_cons, Nat.pow_succ]; omega
structure SetOk (ns : List Nd) (node window : Int) (f : List Dv) : Prop where
 fl : FltOk ns f
 fr : ∀ y ∈ f, node < y.2.1 ∨ (node = y.2.1 ∧ window ≤ y.2.2)
 nd : ∀ i j (hi : i < j) (hj : j < f.length), ¬ ((f[i]).2.1 = (f[j]).2.1 ∧ (f[i]).2.2 = (f[j]).2.2)
theorem SetOk.nil (ns : List Nd) (node window : Int) : SetOk ns node window [] := ⟨fun y hy => (by cases hy), fun y hy => (by cases hy), fun i j _ hj => absurd hj (by simp)⟩
theorem qB0 {ds : List Dv} {ns : List Nd} (hg : GoodL (ns, ds)) (sl : List (List Int)) : ∀ (n node window : Nat) s, s ∈ setsV ns sl n node window → s.length ≤ n ∧ SetOk ns node window s
 | 0, node, window, s, h => by
   simp only [setsV, List.mem_singleton] at h; subst h
   exact ⟨Nat.le_refl _, SetOk.nil _ _ _⟩
 | n + 1, node, window, s, h => by
   unfold setsV at h
   rcases List.mem_cons.1 h with rfl | h
   · exact ⟨Nat.zero_le _, SetOk.nil _ _ _⟩
   · obtain ⟨d, hd, h⟩ := eB1 h; obtain ⟨k, hk, h⟩ := eB1 h; unfold ctrW at h; split at h
     · cases h
     · rename_i hc; have key : ∀ (kind : Int), (kind = 1 ∨ kind = 2) → s ∈ conK (node + d) k kind (setsV ns sl n (node + d) (k + 1)) → s.length ≤ n + 1 ∧ SetOk ns node window s := by
        intro kind hkd hs; obtain ⟨r, hr, rfl⟩ := List.mem_map.1 hs; obtain ⟨h1, h2⟩ := qB0 hg sl n (node + d) (k + 1) r hr; refine ⟨by rw [List.length_cons]; omega, ?_, ?_, ?_⟩
        · intro y hy
          rcases List.mem_cons.1 hy with rfl | hy
          · have : ((node + d : Nat) : Int).toNat = node + d := Int.toNat_natCast _; refine ⟨hkd, by dsimp only; omega, by dsimp only; omega, by dsimp only; omega, ?_⟩; dsimp only; rw [this]; omega
          · exact h2.fl y hy
        · intro y hy
          rcases List.mem_cons.1 hy with rfl | hy
          · dsimp only; omega
          · have := h2.fr y hy; omega
        · intro i j hi hj
          match i, j, hi with
          | 0, j + 1, _ =>
            simp only [List.getElem_cons_zero, List.getElem_cons_succ]; have := h2.fr _ (List.getElem_mem (show j < r.length by rw [List.length_cons] at hj; omega))
            omega
          | i + 1, j + 1, hi =>
            simp only [List.getElem_cons_succ]; exact h2.nd i j (by omega) (by rw [List.length_cons] at hj; omega)
       rcases List.mem_append.1 h with h | h
       · exact key 1 (.inl rfl) h
       · exact key 2 (.inr rfl) h
theorem SetOk.poss {ns : List Nd} {node window : Int} {f : List Dv} (h : SetOk ns node window f) {c : List Int} (hl : c.length = ns.length) (hc : ∀ i, i < ns.length → cmdOk (ns.getD i nd0) (c.getD i 0) = true) (h4 : f.length ≤ 4) : Poss ns c f := ⟨hl, hc, h.fl, h4, h.nd⟩
theorem dB4 : ∀ (yss : List (List Dv)), putSls yPL (.sl yPL) (List.replicate yss.length []) yss = yss
 | [] => rfl
 | y :: yss => by
   have ih := dB4 yss; unfold putSls at ih ⊢; rw [List.length_cons, List.replicate_succ, List.zip_cons_cons, List.map_cons, ih]; rfl
theorem kB0 {n : Nat} {yss : List (List Dv)} (h : yss.length = n) : putSls yPL (.sl yPL) (List.replicate n []) yss = yss := by
 subst h; exact dB4 yss
theorem fC1 {i k : Nat} {kind : Int} {R : List (List Dv)} {j : Nat} (h : j < R.length) : conK i k kind (R.take (j + 1)) = conK i k kind (R.take j) ++ [((kind, (i : Int), (k : Int)) : Dv) :: R[j]] := by
 unfold conK; rw [tsE h, List.map_append]; rfl
def kndK (i k : Nat) (R : List (List Dv)) (q : Nat) : List (List Dv) := accK (fun q => conK i k ((q : Int) + 1) R) q
theorem zC6 (i k : Nat) (R : List (List Dv)) : kndK i k R 2 = conK i k 1 R ++ conK i k 2 R := by
 unfold kndK; simp [accK]
theorem hA7 (i k : Nat) (kind : Int) (R : List (List Dv)) : (conK i k kind R).length = R.length := List.length_map ..
def con94 (B : Nat) : Con := { ps := [.d true yLY, .d true yP2, .d false yI, .d false yI, .d false yI], rs := [.d false (.sl (.sl yPL))], pre := fun (x : Ly × Pl × Int × Int × Int × Unit) => 0 < B ∧ GoodL x.1 ∧ FitP x.1.1 x.2.1 ∧ x.2.2.1 < (B : Nat) ∧ x.2.2.1 ≤ 2 ∧ (0 ≤ x.2.2.2.1 ∧ x.2.2.2.1 ≤ x.1.1.length) ∧ 0 ≤ x.2.2.2.2.1 ∧ x.2.2.2.2.1 ≤ 1000, out := fun (x : Ly × Pl × Int × Int × Int × Unit) => (setsV x.1.1 x.2.1.1 x.2.2.1.toNat x.2.2.2.1.toNat x.2.2.2.2.1.toNat, ()), nw := id }
theorem z94 : CtrOk Tryz.prog 94 (con94 0).ctr :=
 aA0 eA0 eN rfl Tryz.func94 rfl (con94 0) 9592451033585829936255 (by kernel_rfl) (show pcOk (con94 0).ps = true by decide) (show (con94 0).ps.length ≤ Tryz.f94.ntmps by decide) rfl (by decide) rfl (by
  intro x hpre; have h2 : (0 : Nat) < 0 := And.left hpre; exact absurd h2 (Nat.lt_irrefl 0))
theorem s94 (k : Nat) (ih : CtrOk Tryz.prog 94 (con94 k).ctr) : CtrOk Tryz.prog 94 (con94 (k + 1)).ctr :=
 aA0 (G := ⟨[(94, (con94 k).ctr)], [], [(17, 107), (87, 107), (20, 1), (89, 1)], [], []⟩) eA0 (EnvOk.cons ih has94 EnvOk.nil) rfl Tryz.func94 rfl (con94 (k + 1)) 9592451033585829936255 (by kernel_rfl) (show pcOk (con94 0).ps = true by decide) (show (con94 0).ps.length ≤ Tryz.f94.ntmps by decide) rfl (by decide) rfl (by
  rintro ⟨⟨(ns : List Nd), (ds : List Dv)⟩, ⟨(sl : List (List Int)), (bn : List (List Int))⟩, (b : Int), (node' : Int), (window' : Int), _⟩ hpre hwf X hT hG hk hK; obtain ⟨_, hg, hp, hb, hb2, ⟨h1, h2⟩, h3, h4⟩ : 0 < k + 1 ∧ GoodL (ns, ds) ∧ FitP ns (sl, bn) ∧ b < ((k + 1 : Nat) : Int) ∧ b ≤ 2 ∧ (0 ≤ node' ∧ node' ≤ ns.length) ∧ 0 ≤ window' ∧ window' ≤ 1000 := hpre; obtain ⟨node, rfl⟩ : ∃ n : Nat, node' = n := ⟨node'.toNat, by omega⟩; obtain ⟨window, rfl⟩ : ∃ n : Nat, window' = n := ⟨window'.toNat, by omega⟩
  (simp -implicitDefEqProofs (maxSteps := 4000000) only [go_sem, bP, con94, hT, hG, hk, hK, Tryz.results94] at hwf ⊢)
  clear hwf; have hn24 : ns.length ≤ 24 := hg.n24; have hsl : sl.length = ns.length := hp.sl; have en0 : ((node : Nat) : Int).toNat = node := Int.toNat_natCast _; have en1 : ((window : Nat) : Int).toNat = window := Int.toNat_natCast _
  try simp only [en0, en1]
  have e0 : b ≤ 0 → setsV ns sl b.toNat node window = [[]] := fun h => by rw [show b.toNat = 0 by omega]; rfl
  refine ⟨fun h => ?_, fun h => ?_⟩
  · rw [e0 h]
    first
     | rfl
     | exact kB0 rfl
  · obtain ⟨n, rfl⟩ : ∃ n : Nat, b = (n : Int) + 1 := ⟨(b - 1).toNat, by omega⟩; have e1 : (((n : Nat) : Int) + 1).toNat = n + 1 := by omega
    have e2 : ((n : Int) + 1 - 1).toNat = n := by omega
    have e3 : ((n : Int) + 1 - 1) = n := by omega
    obtain ⟨g, hgd⟩ : ∃ g, g = fun d => rowW ns sl node window (setsV ns sl n) (node + d) := ⟨_, rfl⟩; have hV : setsV ns sl (n + 1) node window = [] :: accK g (ns.length - node) := by rw [hgd]; rfl
    have hM : ∀ i k, (setsV ns sl n i k).length ≤ 385 := fun i k => Nat.le_trans (mA7 hg sl n i k) (by
     have : n ≤ 1 := by omega
     calc 385 ^ n ≤ 385 ^ 1 := Nat.pow_le_pow_right (by decide) this
      _ = 385 := rfl)
    have hctr : ∀ i k, (ctrW sl node window (setsV ns sl n) i k).length ≤ 770 := fun i k => by
     unfold ctrW; split
     · simp
     · rw [List.length_append, hA7, hA7]; have := hM i (k + 1); omega
    have hrow : ∀ i q, (accK (ctrW sl node window (setsV ns sl n) i) q).length ≤ 770 * q := fun i q => fA4 fun k _ => hctr i k; have hgl : ∀ d, d < ns.length - node → (g d).length ≤ 6160 := fun d hd => by
     rw [hgd]; have h8 := hg.le8 ns[node + d] (List.getElem_mem (show node + d < ns.length by omega)); unfold rowW; dsimp only; rw [show ns.getD (node + d) nd0 = ns[node + d] by simp [show node + d < ns.length by omega]]; have := hrow (node + d) (ns[node + d]).2.2.1.toNat; omega
    refine cA0 ⟨{ d : Nat // node + d ≤ ns.length }, 1000, fun d => [(2, .one (.int .i64 ((n : Int) + 1))), (3, .one (.int .i64 node)), (4, .one (.int .i64 window)), (5, .one (.loc 64 0)), (6, .one (.loc 65 0)), (11, .one (.row 66)), (12, .one (.int .i64 ((node + d.1 : Nat) : Int)))], fun d => [(64, .cells 30 [.sl yNO ns false, .sl yPL ds false]), (65, .cells 37 [.sl (.sl yI) sl false, .sl (.sl yI) bn false]), (66, .rowg 51 (.sl yPL) 0 67 (List.replicate ((accK g d.1).length + 1) []) none), (67, .fam 99 yPL ([] :: accK g d.1))], fun d => ns.length - (node + d.1)⟩ ⟨0, by omega⟩ ?_ ?_
    · simp only [go_sem]
      try first | rfl | (and_intros <;> first | trivial | rfl | omega)
    · rintro ⟨d, (hd : node + d ≤ ns.length)⟩; obtain ⟨i, hi⟩ : ∃ i, i = node + d := ⟨_, rfl⟩; obtain ⟨O, hO⟩ : ∃ O : List (List Dv), O = [] :: accK g d := ⟨_, rfl⟩; have hOl : O.length ≤ 1 + 6160 * d := by
       have := fA4 (g := g) (n := d) (B := 6160) fun k hk => hgl k (by omega); rw [hO, List.length_cons]; omega
      have hOn : (accK g d).length + 1 = O.length := by rw [hO]; rfl
      rw [← hi] at hd
      (simp -implicitDefEqProofs (maxSteps := 4000000) only [go_sem, bP, con94, hT, hG, hk, hK, Tryz.results94])
      simp only [← hi, ← hO, hOn]; refine fun _ => ⟨fun hlt => ?_, fun hge => ?_⟩
      · have hin : i < ns.length := by omega
        obtain ⟨y, ey⟩ : ∃ y, ns.getD i nd0 = y := ⟨_, rfl⟩; have ek : ∀ z, ns.getD i z = y := fun z => by rw [← ey]; simp [hin]
        have eii : (i : Int).toNat = i := Int.toNat_natCast i; have h8 := hg.le8 ns[i] (List.getElem_mem hin); rw [show ns[i] = y by rw [← ey]; simp [hin]] at h8; have hln := hp.ln i hin; rw [ey] at hln; obtain ⟨s, es⟩ : ∃ s, sl.getD i [] = s := ⟨_, rfl⟩; have esk : ∀ z, sl.getD i z = s := fun z => by rw [← es]; simp [show i < sl.length by omega]
        have hsl2 : (s.length : Int) = y.2.2.1 := by rw [← es]; exact hln
        obtain ⟨C, hC⟩ : ∃ C, C = ctrW sl node window (setsV ns sl n) i := ⟨_, rfl⟩; refine cA0 ⟨{ w : Nat // (w : Int) ≤ y.2.2.1 }, 2000, fun w => [(2, .one (.int .i64 ((n : Int) + 1))), (3, .one (.int .i64 node)), (4, .one (.int .i64 window)), (5, .one (.loc 64 0)), (6, .one (.loc 65 0)), (11, .one (.row 66)), (12, .one (.int .i64 (i : Int))), (13, .one (.int .i64 (w.1 : Int)))], fun w => [(64, .cells 30 [.sl yNO ns false, .sl yPL ds false]), (65, .cells 37 [.sl (.sl yI) sl false, .sl (.sl yI) bn false]), (66, .rowg 51 (.sl yPL) 0 67 (List.replicate (O ++ accK C w.1).length []) none), (67, .fam 99 yPL (O ++ accK C w.1))], fun w => s.length - w.1⟩ ⟨0, by omega⟩ ?_ ?_
        · simp only [go_sem]; simp only [accK, List.append_nil]
          try first | rfl | (and_intros <;> first | trivial | rfl | omega)
        · rintro ⟨w, (hw : (w : Int) ≤ y.2.2.1)⟩; have hPl := fA4 (g := C) (n := w) (B := 770) fun k _ => by rw [hC]; exact hctr i k
          obtain ⟨P, hP⟩ : ∃ P : List (List Dv), P = O ++ accK C w := ⟨_, rfl⟩; have hPl2 : P.length ≤ 200000 := by rw [hP, List.length_append]; omega
          (simp -implicitDefEqProofs (maxSteps := 4000000) only [go_sem, bP, con94, hT, hG, hk, hK, Tryz.results94])
          simp only [eii, ek, esk, ← hP]; by_cases hwy : (w : Int) < y.2.2.1
          · have eww : (w : Int).toNat = w := Int.toNat_natCast w; have hst : C w = if s.getD w 0 = 0 ∨ ((i : Int) = node ∧ (w : Int) < window) then [] else kndK i w (setsV ns sl n i (w + 1)) 2 := by
             rw [hC, zC6, ctrW, es]
            have eR : ((i : Int) : Int).toNat = i := eii; have eR1 : ((w : Int) + 1).toNat = w + 1 := by omega
            have hRl := hM i (w + 1); have hRm : ∀ x ∈ setsV ns sl n i (w + 1), x.length ≤ 1 := fun x hx => Nat.le_trans (qB0 hg sl n i (w + 1) x hx).1 (by omega); simp only [eww, e2, eR1]; obtain ⟨R, hR⟩ : ∃ R, setsV ns sl n i (w + 1) = R := ⟨_, rfl⟩; rw [hR] at hst hRl hRm; obtain ⟨v, ev⟩ : ∃ v, s.getD w 0 = v := ⟨_, rfl⟩; rw [ev] at hst; simp only [ev, hR]; refine ⟨⟨by omega, by omega⟩, fun _ _ => ⟨fun _ => ⟨⟨by omega, by omega⟩, fun _ _ => ⟨⟨by omega, by omega⟩, fun _ _ => ⟨fun h => ⟨h, fun h2 => ⟨h, h2⟩⟩, fun h => ⟨⟨by omega, by omega⟩, ?_⟩, fun h => ⟨⟨by omega, by omega⟩, ⟨by omega, by omega⟩, ⟨by omega, hg, hp, by omega, by omega, ⟨by omega, by omega⟩, by omega, by omega⟩, fun _ => ?_⟩⟩⟩⟩, fun h => absurd hwy h⟩⟩
            · rw [if_pos h] at hst; refine dA0 ⟨w + 1, by omega⟩ ?_ (by dsimp only; omega); simp only [go_sem]; simp only [accK, hst, List.append_nil, ← hP]
              try first | rfl | (and_intros <;> first | trivial | rfl | omega)
            · rw [if_neg (fun q => q.elim h.1 (fun q => h.2.elim (fun e => e q.1) (fun e => e q.2)))] at hst; refine cA0 ⟨{ q : Nat // q ≤ 2 }, 3000, fun q => [(2, .one (.int .i64 ((n : Int) + 1))), (3, .one (.int .i64 node)), (4, .one (.int .i64 window)), (5, .one (.loc 64 0)), (6, .one (.loc 65 0)), (11, .one (.row 66)), (12, .one (.int .i64 (i : Int))), (13, .one (.int .i64 (w : Int))), (14, .one (.sl (.sl yPL) R false)), (15, .one (.int .i64 ((q.1 : Int) + 1)))], fun q => [(64, .cells 30 [.sl yNO ns false, .sl yPL ds false]), (65, .cells 37 [.sl (.sl yI) sl false, .sl (.sl yI) bn false]), (66, .rowg 51 (.sl yPL) 0 67 (List.replicate (P ++ kndK i w R q.1).length []) none), (67, .fam 99 yPL (P ++ kndK i w R q.1))], fun q => 2 - q.1⟩ ⟨0, by omega⟩ ?_ ?_
              · simp only [go_sem]; simp only [kndK, accK, List.append_nil]
                try first | rfl | (and_intros <;> first | trivial | rfl | omega)
              · rintro ⟨q, (hq : q ≤ 2)⟩; have hQl := fA4 (g := fun q => conK i w ((q : Int) + 1) R) (n := q) (B := 385) fun k _ => by rw [hA7]; exact hRl
                obtain ⟨Q, hQ⟩ : ∃ Q : List (List Dv), Q = P ++ kndK i w R q := ⟨_, rfl⟩; have hQl2 : Q.length ≤ 300000 := by rw [hQ, List.length_append]; unfold kndK; omega
                (simp -implicitDefEqProofs (maxSteps := 4000000) only [go_sem, bP, con94, hT, hG, hk, hK, Tryz.results94])
                simp only [← hQ]; refine ⟨fun hq1 => ?_, fun hq1 => ?_⟩
                · refine cA0 ⟨{ j : Nat // j ≤ R.length }, 4000, fun j => [(2, .one (.int .i64 ((n : Int) + 1))), (3, .one (.int .i64 node)), (4, .one (.int .i64 window)), (5, .one (.loc 64 0)), (6, .one (.loc 65 0)), (11, .one (.row 66)), (12, .one (.int .i64 (i : Int))), (13, .one (.int .i64 (w : Int))), (14, .one (.sl (.sl yPL) R false)), (15, .one (.int .i64 ((q : Int) + 1))), (16, .one (.int .i64 (j.1 : Int)))], fun j => [(64, .cells 30 [.sl yNO ns false, .sl yPL ds false]), (65, .cells 37 [.sl (.sl yI) sl false, .sl (.sl yI) bn false]), (66, .rowg 51 (.sl yPL) 0 67 (List.replicate (Q ++ conK i w ((q : Int) + 1) (R.take j.1)).length []) none), (67, .fam 99 yPL (Q ++ conK i w ((q : Int) + 1) (R.take j.1)))], fun j => R.length - j.1⟩ ⟨0, Nat.zero_le _⟩ ?_ ?_
                  · simp only [go_sem]; simp only [List.take_zero, conK, List.map_nil, List.append_nil]
                    try first | rfl | (and_intros <;> first | trivial | rfl | omega)
                  · rintro ⟨j, (hj : j ≤ R.length)⟩; obtain ⟨S, hS⟩ : ∃ S : List (List Dv), S = Q ++ conK i w ((q : Int) + 1) (R.take j) := ⟨_, rfl⟩; have hSl2 : S.length ≤ 400000 := by rw [hS, List.length_append, hA7, List.length_take]; omega
                    (simp -implicitDefEqProofs (maxSteps := 4000000) only [go_sem, bP, con94, hT, hG, hk, hK, Tryz.results94])
                    simp only [← hS]; refine fun _ => ⟨fun hj1 => ?_, fun hj1 => ?_⟩
                    · have hj2 : j < R.length := by omega
                      have ejj : (j : Int).toNat = j := Int.toNat_natCast j; have ejk : ∀ z, R.getD j z = R[j] := fun z => by simp [hj2]
                      have hx1 := hRm _ (List.getElem_mem hj2); have hst2 := fC1 (i := i) (k := w) (kind := (q : Int) + 1) hj2; simp only [ejj, ejk]; generalize R[j] = x at *; refine ⟨⟨by omega, by omega⟩, fun _ _ => ⟨by omega, by rw [List.length_replicate]; omega, ⟨by omega, by omega⟩, ?_⟩⟩; refine dA0 ⟨j + 1, by omega⟩ ?_ (by dsimp only; omega); simp only [go_sem]; simp only [hst2, ← List.append_assoc, ← hS, List.length_append, List.length_cons, List.length_nil, List.replicate_succ', List.replicate_zero, List.nil_append, List.cons_append]
                      first
                       | (try first | rfl | (and_intros <;> first | trivial | rfl | omega); done)
                    · have hjR : j = R.length := by omega
                      have hSQ : P ++ kndK i w R (q + 1) = S := by
                       rw [hS, hQ, hjR, List.take_length, List.append_assoc]; rfl
                      refine ⟨⟨by omega, by omega⟩, ?_⟩; refine dA0 ⟨q + 1, by omega⟩ ?_ (by dsimp only; omega); simp only [go_sem]; simp only [hSQ]
                      first
                       | (try first | rfl | (and_intros <;> first | trivial | rfl | omega); done)
                · have hq2 : q = 2 := by omega
                  have hQC : O ++ accK C (w + 1) = Q := by
                   rw [accK, hst, hQ, hP, hq2, List.append_assoc]
                  refine ⟨⟨by omega, by omega⟩, ?_⟩; refine dA0 ⟨w + 1, by omega⟩ ?_ (by dsimp only; omega); simp only [go_sem]; simp only [hQC]
                  first
                   | (try first | rfl | (and_intros <;> first | trivial | rfl | omega); done)
          · have hwL : w = y.2.2.1.toNat := by omega
            have hPO : [] :: accK g (d + 1) = P := by
             rw [hP, hO, accK, hwL, hC]; rw [hgd]; show _ = [] :: (_ ++ _); dsimp only; rw [← hi, rowW, ey]
            have hPl3 : (accK g (d + 1)).length + 1 = P.length := by rw [← hPO]; rfl
            refine ⟨⟨by omega, by omega⟩, fun _ _ => ⟨fun h => absurd h hwy, fun _ => ⟨⟨by omega, by omega⟩, ?_⟩⟩⟩; refine dA0 ⟨d + 1, by omega⟩ ?_ (by dsimp only; omega); simp only [go_sem]; simp only [hPO, hPl3]
            first
             | (try first | rfl | (and_intros <;> first | trivial | rfl | omega); done)
      · rw [kB0 rfl, e1, en0, en1, hV, hO, show d = ns.length - node by omega])
theorem cSets : ∀ n, CtrOk Tryz.prog 94 (con94 n).ctr
 | 0 => z94
 | n + 1 => s94 n (cSets n)
end Go.Proofs.YtabadacjbkhmkaaGreatDoor

set_option maxRecDepth 100000
set_option maxHeartbeats 8000000
namespace Go.Proofs.YtabadacjbkhmkaaGreatDoor
open Go.Ev
def plantV (ns : List Nd) (p : Pl) (c : List Int) (f : List Dv) : Pl := ((stepV ns p c f).1, (stepV ns p c f).2.1)
def stpS (ns : List Nd) (bud : Int) (c : List Int) (h : Hy) (S : List (List Dv)) (L : List Hy) : Nat → List Hy
 | 0 => L
 | k + 1 => if h.1 + ((S.getD k []).length : Int) ≤ bud then addV (stpS ns bud c h S L k) (h.1 + ((S.getD k []).length : Int), plantV ns h.2 c (S.getD k [])) else stpS ns bud c h S L k
def setN (ns : List Nd) (bud : Int) (h : Hy) : List (List Dv) := setsV ns h.2.1 (bud - h.1).toNat 0 0
def stpL (ns : List Nd) (c : List Int) (b : Be) : Nat → List Hy
 | 0 => []
 | i + 1 => stpS ns b.1 c (b.2.getD i hy0) (setN ns b.1 (b.2.getD i hy0)) (stpL ns c b i) (setN ns b.1 (b.2.getD i hy0)).length
def stepB (ns : List Nd) (c : List Int) (b : Be) : Be × Int := endV (b.1, stpL ns c b b.2.length)
structure HyOk (ns : List Nd) (bud : Int) (K : Nat) (h : Hy) : Prop where
 u0 : 0 ≤ h.1
 u1 : h.1 ≤ bud
 ft : FitP ns h.2
 bk : BinK K h.2
structure BeOk (ns : List Nd) (K : Nat) (b : Be) : Prop where
 u0 : 0 ≤ b.1
 u2 : b.1 ≤ 2
 n40 : b.2.length ≤ 40
 ok : ∀ h ∈ b.2, HyOk ns b.1 K h
theorem HyOk.mono {ns : List Nd} {bud : Int} {K J : Nat} {h : Hy} (k : HyOk ns bud K h) (hKJ : K ≤ J) : HyOk ns bud J h := ⟨k.u0, k.u1, k.ft, fun b hb => Nat.le_trans (k.bk b hb) hKJ⟩
theorem BeOk.mono {ns : List Nd} {K J : Nat} {b : Be} (h : BeOk ns K b) (hKJ : K ≤ J) : BeOk ns J b := ⟨h.u0, h.u2, h.n40, fun x hx => (h.ok x hx).mono hKJ⟩
theorem lC7 {l : List Hy} {h y : Hy} (hy : y ∈ addV l h) : y ∈ l ∨ y.2 = h.2 ∧ (y.1 = h.1 ∨ ∃ z ∈ l, y.1 = z.1) := by
 unfold addV at hy; split at hy
 · rename_i hc
   rcases List.mem_append.1 hy with hy | hy
   · rcases List.mem_append.1 hy with hy | hy
     · exact .inl (List.mem_of_mem_take hy)
     · rw [List.mem_singleton] at hy; subst hy; refine .inr ⟨rfl, ?_⟩; dsimp only; split
       · exact .inr ⟨l.getD (addN l h) hy0, by
          rw [gdE, List.getElem?_eq_getElem hc.1]; exact List.getElem_mem _, rfl⟩
       · exact .inl rfl
   · exact .inl (List.mem_of_mem_drop hy)
 · rcases List.mem_append.1 hy with hy | hy
   · rcases List.mem_append.1 hy with hy | hy
     · exact .inl (List.mem_of_mem_take hy)
     · rw [List.mem_singleton] at hy; subst hy; exact .inr ⟨rfl, .inl rfl⟩
   · exact .inl (List.mem_of_mem_drop hy)
theorem tD0 (l : List Hy) (h : Hy) : addN l h ≤ l.length := by
 unfold addN; have : ∀ (q : List Hy) (p : Hy → Bool), (q.takeWhile p).length ≤ q.length := fun q p => by
  induction q with
  | nil => simp
  | cons a q ih =>
    rw [List.takeWhile_cons]; split
    · simpa using ih
    · simp
 exact this _ _
theorem oB6 (l : List Hy) (h : Hy) : (addV l h).length ≤ l.length + 1 := by
 have := tD0 l h; unfold addV; split
 · rw [List.length_append, List.length_append, List.length_take, List.length_drop, List.length_singleton]; omega
 · rw [List.length_append, List.length_append, List.length_take, List.length_drop, List.length_singleton]; omega
theorem xC1 {ns : List Nd} {bud : Int} {K : Nat} {l : List Hy} {h : Hy} (hl : ∀ x ∈ l, HyOk ns bud K x) (hh : HyOk ns bud K h) : ∀ x ∈ addV l h, HyOk ns bud K x := fun x hx => by
 rcases lC7 hx with hx | ⟨e, hu⟩
 · exact hl x hx
 · refine ⟨?_, ?_, by rw [e]; exact hh.ft, by rw [e]; exact hh.bk⟩
   · rcases hu with hu | ⟨z, hz, hu⟩
     · rw [hu]; exact hh.u0
     · rw [hu]; exact (hl z hz).u0
   · rcases hu with hu | ⟨z, hz, hu⟩
     · rw [hu]; exact hh.u1
     · rw [hu]; exact (hl z hz).u1
theorem eB2 {ds : List Dv} {ns : List Nd} (hg : GoodL (ns, ds)) {p : Pl} (hp : FitP ns p) {K : Nat} (hb : BinK K p) {c : List Int} {f : List Dv} (hpo : Poss ns c f) : FitP ns (plantV ns p c f) ∧ BinK (K + 24) (plantV ns p c f) ∧ (stepV ns p c f).2.2.length ≤ ns.length := by
 have hn24 : ns.length ≤ 24 := hg.n24; have hto := fun k (hk : k < ns.length) h => tD3 hg hpo (p := p) hk h; have hinv := jB6 (ns := ns) (fl := flowV ns p c f) (L := leftV ns p c f (flowV ns p c f)) (K := K) (s := ((List.range ns.length).map (sl1 ns p f (flowV ns p c f)), (List.range ns.length).map (bn1 ns p c (flowV ns p c f)), [])) (fun k hk h => (hto k hk h).2) ⟨by simp, by simp, fun _ => rfl, fun b hbm => by
  obtain ⟨i, hi, rfl⟩ := List.mem_map.1 hbm; rw [List.mem_range] at hi; have hbi : (p.2.getD i []).length ≤ K := hb _ (by
   have := hp.bl; rw [gdE, List.getElem?_eq_getElem (show i < p.2.length by omega)]; exact List.getElem_mem _)
  unfold bn1; split
  · exact Nat.le_trans (jA7 _ _) (by first | omega | (dsimp only; omega))
  · first | omega | (dsimp only; omega), Nat.le_refl _⟩ ns.length (Nat.le_refl _)
 refine ⟨⟨hinv.a, hinv.b, fun i hi => ?_⟩, fun b hbm => Nat.le_trans (hinv.d b hbm) (by omega), hinv.e⟩; have h3 := hinv.c i; have e1 : ((List.range ns.length).map (sl1 ns p f (flowV ns p c f))).getD i [] = sl1 ns p f (flowV ns p c f) i := by simp [hi]
 dsimp only at h3; rw [e1] at h3; have h4 := hp.ln i hi; rw [← h4]; have h5 : (sl1 ns p f (flowV ns p c f) i).length = (p.1.getD i []).length := by
  unfold sl1; split
  · unfold advV; exact uA3 _ _ _ _
  · rfl
 exact_mod_cast h3.trans h5
def CmdOk (ns : List Nd) (c : List Int) : Prop := c.length = ns.length ∧ ∀ i, i < ns.length → cmdOk (ns.getD i nd0) (c.getD i 0) = true
theorem eB3 {ds : List Dv} {ns : List Nd} (hg : GoodL (ns, ds)) {bud : Int} {h : Hy} {c : List Int} (hc : CmdOk ns c) (hb : bud ≤ 2) (hu : 0 ≤ h.1) {s : List Dv} (hs : s ∈ setN ns bud h) : s.length ≤ 2 ∧ Poss ns c s := by
 obtain ⟨h1, h2⟩ := qB0 hg h.2.1 _ _ _ s hs; exact ⟨by omega, h2.poss hc.1 hc.2 (by omega)⟩
theorem mB7 {ds : List Dv} {ns : List Nd} (hg : GoodL (ns, ds)) {bud : Int} {h : Hy} (hb : bud ≤ 2) (hu : 0 ≤ h.1) : (setN ns bud h).length ≤ 148225 := by
 refine Nat.le_trans (mA7 hg _ _ _ _) ?_
 calc 385 ^ (bud - h.1).toNat ≤ 385 ^ 2 := Nat.pow_le_pow_right (by decide) (by omega)
  _ = 148225 := rfl
theorem yA4 {α : Type} {l : List α} {i : Nat} {d : α} (h : i < l.length) : l.getD i d ∈ l := by
 rw [gdE, List.getElem?_eq_getElem h]; exact List.getElem_mem h
theorem nB5 {ds : List Dv} {ns : List Nd} (hg : GoodL (ns, ds)) {bud : Int} {c : List Int} (hc : CmdOk ns c) (hb : bud ≤ 2) {K : Nat} {h : Hy} (hh : HyOk ns bud K h) {L : List Hy} (hL : ∀ x ∈ L, HyOk ns bud (K + 24) x) : ∀ k, k ≤ (setN ns bud h).length → (∀ x ∈ stpS ns bud c h (setN ns bud h) L k, HyOk ns bud (K + 24) x) ∧ (stpS ns bud c h (setN ns bud h) L k).length ≤ L.length + k
 | 0, _ => ⟨hL, Nat.le_refl _⟩
 | k + 1, hk => by
   have ih := nB5 hg hc hb hh hL k (by omega); unfold stpS; split
   · rename_i hle; have hp := eB3 hg hc hb hh.u0 (yA4 (d := []) (show k < (setN ns bud h).length by omega)); have h1 := eB2 hg hh.ft hh.bk hp.2; refine ⟨xC1 ih.1 ⟨?_, hle, h1.1, h1.2.1⟩, ?_⟩
     · have := hh.u0; dsimp only; omega
     · have := oB6 (stpS ns bud c h (setN ns bud h) L k) (h.1 + (((setN ns bud h).getD k []).length : Int), plantV ns h.2 c ((setN ns bud h).getD k [])); omega
   · exact ⟨ih.1, by omega⟩
theorem bB6 {ds : List Dv} {ns : List Nd} (hg : GoodL (ns, ds)) {c : List Int} (hc : CmdOk ns c) {K : Nat} {b : Be} (hb : BeOk ns K b) : ∀ i, i ≤ b.2.length → (∀ x ∈ stpL ns c b i, HyOk ns b.1 (K + 24) x) ∧ (stpL ns c b i).length ≤ 148225 * i
 | 0, _ => ⟨fun x hx => (by cases hx), by simp [stpL]⟩
 | i + 1, hi => by
   have ih := bB6 hg hc hb i (by omega); have hh := hb.ok _ (yA4 (d := hy0) (show i < b.2.length by omega)); have h1 := nB5 hg hc hb.u2 hh ih.1 _ (Nat.le_refl _); have h2 := mB7 (h := b.2.getD i hy0) hg hb.u2 hh.u0; unfold stpL; exact ⟨h1.1, by omega⟩
theorem rC6 {ds : List Dv} {ns : List Nd} (hg : GoodL (ns, ds)) {c : List Int} (hc : CmdOk ns c) {K : Nat} {b : Be} (hb : BeOk ns K b) : BeOk ns (K + 24) (stepB ns c b).1 := by
 have h := bB6 hg hc hb _ (Nat.le_refl _); unfold stepB endV; split
 · exact ⟨Int.le_refl _, by decide, Nat.zero_le _, fun x hx => by cases hx⟩
 · split
   · exact ⟨Int.le_refl _, by decide, Nat.zero_le _, fun x hx => by cases hx⟩
   · rename_i h1 h2; exact ⟨hb.u0, hb.u2, Nat.le_of_not_lt h2, h.1⟩
theorem HyOk.cpy {ds : List Dv} {ns : List Nd} (hg : GoodL (ns, ds)) {bud : Int} {K : Nat} {h : Hy} (k : HyOk ns bud K h) (hK : K ≤ 1000000) : cpyP h.2.1 h.2.2 := k.ft.cpy hg (k.bk.B hK)
def conSets3 : Con := con94 3
theorem cSets3 : CtrOk Tryz.prog 94 conSets3.ctr := cSets 3
def con54 : Con := { ps := [.d true yLY, .d true yBE, .d false (.sl yI), .nl, .nl], rs := [.d true yBE, .d false yI], pre := fun (x : Ly × Be × List Int × Unit × Unit × Unit) => GoodL x.1 ∧ BeOk x.1.1 800000 x.2.1 ∧ CmdOk x.1.1 x.2.2.1, out := fun (x : Ly × Be × List Int × Unit × Unit × Unit) => ((stepB x.1.1 x.2.2.1 x.2.1).1, (stepB x.1.1 x.2.2.1 x.2.1).2, ()), nw := id }
theorem c54 : CtrOk Tryz.prog 54 con54.ctr :=
 aA0 eA0 (eC c16 has16 (eC c49 has49 (eC c50 has50 (eC cSets3 has94 (eC c95 has95 eN))))) rfl Tryz.func54 rfl con54 1237940039286506175887309951 (by kernel_rfl) (by decide) (by decide) rfl (by decide) rfl (by
  rintro ⟨⟨(ns : List Nd), (ds : List Dv)⟩, ⟨(u : Int), (l : List Hy)⟩, (c : List Int), _⟩ hpre hwf X hT hG hk hK; obtain ⟨hg, hb, hc⟩ : GoodL (ns, ds) ∧ BeOk ns 800000 (u, l) ∧ CmdOk ns c := hpre
  (simp -implicitDefEqProofs (maxSteps := 4000000) only [go_sem, bP, con54, con16, con49, con50, conSets3, con95, hT, hG, hk, hK, Tryz.results54, con94] at hwf ⊢); (try simp (disch := decide +kernel) only [drawn, true_and, and_true])
  clear hwf; have h40 : l.length ≤ 40 := hb.n40; have hu2 : u ≤ 2 := hb.u2; have hu0 : 0 ≤ u := hb.u0; have hok := bB6 hg hc hb; have hsb : stepB ns c (u, l) = endV (u, stpL ns c (u, l) l.length) := rfl; refine cA0 ⟨{ i : Nat // i ≤ l.length }, 1000, fun i => [(2, .one (.sl yI c false)), (3, .one .nilsl), (4, .one .nilsl), (5, .one (.loc 64 0)), (6, .one (.loc 65 0)), (10, .one (.loc 66 0)), (12, .one (.loc 67 0)), (13, .one (.int .i64 (i.1 : Int)))], fun i => [(64, .cells 30 [.sl yNO ns false, .sl yPL ds false]), (65, .cells 34 [.int .i64 u, .sl yHY l false]), (66, .cells 34 [.undef, .undef]), (67, .cells 34 [.int .i64 u, .row 68]), (68, .row 50 yHY (stpL ns c (u, l) i.1))], fun i => l.length - i.1⟩ ⟨0, Nat.zero_le _⟩ ?_ ?_
  · simp only [go_sem]; simp only [stpL]
    try first | rfl | (and_intros <;> first | trivial | rfl | omega)
  · rintro ⟨i, (hi : i ≤ l.length)⟩; have hoki := hok i hi; obtain ⟨L, hL⟩ : ∃ L, stpL ns c (u, l) i = L := ⟨_, rfl⟩; rw [hL] at hoki
    (simp -implicitDefEqProofs (maxSteps := 4000000) only [go_sem, bP, con54, con16, con49, con50, conSets3, con95, hT, hG, hk, hK, Tryz.results54, con94]); (try simp (disch := decide +kernel) only [drawn, true_and, and_true])
    simp only [hL]; refine fun _ => ⟨fun hlt => ?_, fun hge => ?_⟩
    · have hi' : i < l.length := by omega
      have eii : (i : Int).toNat = i := Int.toNat_natCast i; obtain ⟨h, eh⟩ : ∃ h, l.getD i hy0 = h := ⟨_, rfl⟩; have ek : ∀ z, l.getD i z = h := fun z => by rw [← eh]; simp [hi']
      have hh : HyOk ns u 800000 h := hb.ok h (by rw [← eh]; exact yA4 hi'); have hst : stpL ns c (u, l) (i + 1) = stpS ns u c h (setN ns u h) L (setN ns u h).length := by rw [stpL, hL]; dsimp only; rw [eh]
      obtain ⟨hu, ⟨hs, hbn⟩⟩ := h; have hsN : setN ns u (hu, (hs, hbn)) = setsV ns hs (u - hu).toNat 0 0 := rfl; simp only [eii, ek]; have q0 : 0 ≤ hu := hh.u0; have q1 : hu ≤ u := hh.u1; obtain ⟨S, hS⟩ : ∃ S, setsV ns hs (u - hu).toNat 0 0 = S := ⟨_, rfl⟩; have hS2 : setN ns u (hu, (hs, hbn)) = S := hsN.trans hS; have hSp : ∀ s ∈ S, s.length ≤ 2 ∧ Poss ns c s := fun s h => eB3 hg hc hu2 q0 (by rw [hS2]; exact h); have hSl : S.length ≤ 148225 := by rw [← hS2]; exact mB7 hg hu2 q0
      have hok2 := nB5 hg hc hu2 hh hoki.1; rw [hS2] at hok2 hst; have hLl := hoki.2; simp only [hS]; refine ⟨⟨by omega, by omega⟩, fun _ _ => ⟨⟨by omega, by omega⟩, ⟨hg, hh.ft, by omega, by omega, ⟨by omega, by omega⟩, by omega, by omega⟩, fun _ => ?_⟩⟩; refine cA0 ⟨{ k : Nat // k ≤ S.length }, 2000, fun k => [(2, .one (.sl yI c false)), (3, .one .nilsl), (4, .one .nilsl), (5, .one (.loc 64 0)), (6, .one (.loc 65 0)), (10, .one (.loc 66 0)), (12, .one (.loc 67 0)), (13, .one (.int .i64 (i : Int))), (14, .one (.loc 69 0)), (15, .one (.sl (.sl yPL) S false)), (16, .one (.int .i64 (k.1 : Int)))], fun k => [(64, .cells 30 [.sl yNO ns false, .sl yPL ds false]), (65, .cells 34 [.int .i64 u, .sl yHY l false]), (66, .cells 34 [.undef, .undef]), (67, .cells 34 [.int .i64 u, .row 68]), (68, .row 50 yHY (stpS ns u c (hu, (hs, hbn)) S L k.1)), (69, .cells 50 [.int .i64 hu, .sl (.sl yI) hs false, .sl (.sl yI) hbn false])], fun k => S.length - k.1⟩ ⟨0, Nat.zero_le _⟩ ?_ ?_
      · simp only [go_sem]; simp only [stpS]
        try first | rfl | (and_intros <;> first | trivial | rfl | omega)
      · rintro ⟨k, (hk1 : k ≤ S.length)⟩; obtain ⟨o1, o2⟩ := hok2 k hk1; have hstk : stpS ns u c (hu, (hs, hbn)) S L (k + 1) = if hu + ((S.getD k []).length : Int) ≤ u then addV (stpS ns u c (hu, (hs, hbn)) S L k) (hu + ((S.getD k []).length : Int), plantV ns (hs, hbn) c (S.getD k [])) else stpS ns u c (hu, (hs, hbn)) S L k := rfl
        obtain ⟨M, hM⟩ : ∃ M, stpS ns u c (hu, (hs, hbn)) S L k = M := ⟨_, rfl⟩; rw [hM] at o1 o2 hstk
        (simp -implicitDefEqProofs (maxSteps := 4000000) only [go_sem, bP, con54, con16, con49, con50, conSets3, con95, hT, hG, hk, hK, Tryz.results54, con94]); (try simp (disch := decide +kernel) only [drawn, true_and, and_true])
        simp only [hM]; refine fun _ => ⟨fun hlt2 => ?_, fun hge2 => ?_⟩
        · have hk2 : k < S.length := by omega
          have ekk : (k : Int).toNat = k := Int.toNat_natCast k; obtain ⟨s, es⟩ : ∃ s, S.getD k [] = s := ⟨_, rfl⟩; have esk : ∀ z, S.getD k z = s := fun z => by rw [← es]; simp [hk2]
          obtain ⟨p1, p2⟩ := hSp s (by rw [← es]; exact yA4 hk2); rw [es] at hstk; have hpl := eB2 hg hh.ft hh.bk p2; have hplc : cpyP (stepV ns (hs, hbn) c s).1 (stepV ns (hs, hbn) c s).2.1 := hpl.1.cpy hg (hpl.2.1.B (by decide)); have hMc : ∀ y ∈ M, cpyP y.2.1 y.2.2 := fun y hy => (o1 y hy).cpy hg (by decide); have hbk9 : BinK 900000 (hs, hbn) := fun b hb => Nat.le_trans (hh.bk b hb) (by decide); have hfp := hh.ft; have hMl : M.length ≤ 100000000 := by omega
          simp only [ekk, esk, Int.add_zero]
          (repeat' with_reducible first | refine And.intro ?_ ?_ | intro _) <;> try first | with_reducible (first | assumption | omega | contradiction) | decide
          all_goals first
           | omega
           | exact hg
           | exact p2
           | exact hplc
           | exact hMc _ (by assumption)
           | (rw [if_pos (by assumption)] at hstk
              refine dA0 ⟨k + 1, by omega⟩ ?_ (by dsimp only; omega); simp only [go_sem]; rw [hstk]
              try first | rfl | (and_intros <;> first | trivial | rfl | omega)
              done)
           | (rw [if_neg (by assumption)] at hstk
              refine dA0 ⟨k + 1, by omega⟩ ?_ (by dsimp only; omega); simp only [go_sem]; rw [hstk]
              try first | rfl | (and_intros <;> first | trivial | rfl | omega)
              done)
        · obtain rfl : k = S.length := by omega
          rw [hM] at hst; refine ⟨⟨by omega, by omega⟩, ?_⟩; refine dA0 ⟨i + 1, by omega⟩ ?_ (by dsimp only; omega); simp only [go_sem]; rw [hst]
          try first | rfl | (and_intros <;> first | trivial | rfl | omega)
    · obtain rfl : i = l.length := by omega
      rw [hsb, hL]; exact fun _ => ⟨rfl, rfl, rfl⟩)
end Go.Proofs.YtabadacjbkhmkaaGreatDoor
