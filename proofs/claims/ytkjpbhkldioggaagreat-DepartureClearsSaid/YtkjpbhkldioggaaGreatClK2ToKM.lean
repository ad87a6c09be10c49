/- Part. -/
import Derived.Test.YtkjpbhkldioggaaGreatClK1
import Derived.Test.YtkjpbhkldioggaaGreatClKPToKE
set_option linter.all false
set_option maxRecDepth 100000
set_option maxHeartbeats 8000000
namespace Go.Proofs.YtkjpbhkldioggaaGreat
open Go.Ev
instance decPce : DecidableEq Pce := instDecidableEqProd
instance dec1 : DecidableEq (Int × Pce) := instDecidableEqProd
instance dec2 : DecidableEq (Int × Int × Pce) := instDecidableEqProd
instance dec3 : DecidableEq (Int × Int × Int × Pce) := instDecidableEqProd
instance dec4 : DecidableEq (Int × Int × Int × Int × Pce) := instDecidableEqProd
instance decOpn : DecidableEq Opn := instDecidableEqProd
def mg : List Opn → List Opn → List Opn
 | [], b => b
 | a, [] => a
 | x :: a, y :: b => if x = y then mg (x :: a) b else if bfV y x = true then y :: mg (x :: a) b else x :: mg a (y :: b)
termination_by a b => a.length + b.length
def dupBm (a b : List Opn) : Bool := decide (∃ x ∈ a, ∃ y ∈ b, x.2.1 = y.2.1 ∧ x.2.2.1 = y.2.2.1 ∧ x ≠ y)
def mergeV (a b : List Opn) : List Opn × Int :=
 if valV a ≠ 0 then ([], valV a) else if valV b ≠ 0 then ([], valV b) else if dupBm a b = true then ([], 5)
 else if valV (mg a b) ≠ 0 then ([], valV (mg a b)) else (mg a b, 0)
theorem valV_zero {l : List Opn} (h : valV l = 0) : l.length ≤ 360 ∧ ∀ k, k < l.length → stepErr l k = 0 := by
 have hl : ¬ 360 < l.length := fun q => by unfold valV at h; rw [if_pos q] at h; cases h
 refine ⟨by omega, fun k => ?_⟩
 induction k using Nat.strongRecOn with
 | _ k ih =>
   intro hk; by_cases e : stepErr l k = 0
   · exact e
   · rw [← valV_err hl (fun j hj => ih j hj (by omega)) hk e]; exact h
theorem uniq_name {l : List Opn} (h : valV l = 0) {x y : Opn} (hx : x ∈ l) (hy : y ∈ l) (h1 : x.2.1 = y.2.1) (h2 : x.2.2.1 = y.2.2.1) : x = y := by
 obtain ⟨_, hz⟩ := valV_zero h; obtain ⟨i, hi, rfl⟩ := List.getElem_of_mem hx; obtain ⟨j, hj, rfl⟩ := List.getElem_of_mem hy; have gi : l.getD i o0 = l[i] := by simp [hi]
 have gj : l.getD j o0 = l[j] := by simp [hj]
 rcases Nat.lt_trichotomy i j with e | e | e
 · have := (stepErr_zero (hz j hj)).2.2 i e; rw [gi, gj] at this; have := this h1; omega
 · subst e; rfl
 · have := (stepErr_zero (hz i hi)).2.2 j e; rw [gi, gj] at this; have := this h1.symm; omega
abbrev KT : Ty := .pair yI yI
def knS (m : List ((Int × Int) × Opn)) (o : Opn) : List ((Int × Int) × Opn) := mset (kt := KT) m (o.2.1, o.2.2.1) o
def knM (l : List Opn) : List ((Int × Int) × Opn) := l.foldl knS []
theorem knS_get (m : List ((Int × Int) × Opn)) (o : Opn) (k : Int × Int) : mget (kt := KT) (knS m o) k = if k = (o.2.1, o.2.2.1) then some o else mget (kt := KT) m k := by
 have ke : ∀ p q : Int × Int, keyEq KT p q = decide (p = q) := fun p q => by
  obtain ⟨p1, p2⟩ := p; obtain ⟨q1, q2⟩ := q; rw [Bool.eq_iff_iff]; simp [keyEq]
 unfold knS
 induction m with
 | nil => simp [mset, mget, ke]
 | cons p m ih =>
   obtain ⟨j, v⟩ := p; simp only [mset, ke, decide_eq_true_eq]; by_cases h1 : (o.2.1, o.2.2.1) = j
   · subst h1; simp only [if_true, mget, ke, decide_eq_true_eq]; by_cases h2 : k = (o.2.1, o.2.2.1) <;> simp [h2]
   · simp only [if_neg h1, mget, ke, decide_eq_true_eq, ih]; by_cases h2 : k = j
     · subst h2; rw [if_pos rfl, if_neg (fun q => h1 q.symm), if_pos rfl]
     · simp [h2]
theorem knM_snoc (l : List Opn) (o : Opn) : knM (l ++ [o]) = knS (knM l) o := by simp [knM]
theorem knM_some (l : List Opn) (k : Int × Int) (o : Opn) : mget (kt := KT) (knM l) k = some o → o ∈ l ∧ o.2.1 = k.1 ∧ o.2.2.1 = k.2 := by
 refine snoc_ind (P := fun l => mget (kt := KT) (knM l) k = some o → o ∈ l ∧ o.2.1 = k.1 ∧ o.2.2.1 = k.2) ?_ ?_ l
 · intro h; simp [knM, mget] at h
 · intro l x ih h; rw [knM_snoc, knS_get] at h; split at h
   · rename_i e; cases h; subst e; exact ⟨by simp, rfl, rfl⟩
   · obtain ⟨h1, h2⟩ := ih h; exact ⟨by simp [h1], h2⟩
theorem knM_none (l : List Opn) (k : Int × Int) : mget (kt := KT) (knM l) k = none → ∀ o ∈ l, ¬ (o.2.1 = k.1 ∧ o.2.2.1 = k.2) := by
 refine snoc_ind (P := fun l => mget (kt := KT) (knM l) k = none → ∀ o ∈ l, ¬ (o.2.1 = k.1 ∧ o.2.2.1 = k.2)) ?_ ?_ l
 · intro h o ho; cases ho
 · intro l x ih h o ho hq; rw [knM_snoc, knS_get] at h; split at h
   · cases h
   · rename_i e
     rcases List.mem_append.1 ho with h1 | h1
     · exact ih h o h1 hq
     · rw [List.mem_singleton] at h1; subst h1; exact e (by obtain ⟨k1, k2⟩ := k; simp only at hq; rw [hq.1, hq.2])
theorem ne_comp (x o : Opn) : (¬x.1 = o.1 ∨ ¬x.2.1 = o.2.1 ∨ ¬x.2.2.1 = o.2.2.1 ∨ ¬x.2.2.2.1 = o.2.2.2.1 ∨ ¬x.2.2.2.2.1 = o.2.2.2.2.1 ∨ ¬x.2.2.2.2.2.1.1 = o.2.2.2.2.2.1.1 ∨ ¬x.2.2.2.2.2.1.2.1 = o.2.2.2.2.2.1.2.1 ∨ ¬x.2.2.2.2.2.1.2.2 = o.2.2.2.2.2.1.2.2 ∨ ¬x.2.2.2.2.2.2.1 = o.2.2.2.2.2.2.1 ∨ ¬x.2.2.2.2.2.2.2 = o.2.2.2.2.2.2.2) ↔ x ≠ o := by
 obtain ⟨a, b, c, d, e, ⟨f1, f2, f3⟩, f4, f5⟩ := x; obtain ⟨a', b', c', d', e', ⟨f1', f2', f3'⟩, f4', f5'⟩ := o; simp only [ne_eq, Prod.mk.injEq]; omega
theorem eq_comp (x o : Opn) : (x.1 = o.1 ∧ x.2.1 = o.2.1 ∧ x.2.2.1 = o.2.2.1 ∧ x.2.2.2.1 = o.2.2.2.1 ∧ x.2.2.2.2.1 = o.2.2.2.2.1 ∧ x.2.2.2.2.2.1.1 = o.2.2.2.2.2.1.1 ∧ x.2.2.2.2.2.1.2.1 = o.2.2.2.2.2.1.2.1 ∧ x.2.2.2.2.2.1.2.2 = o.2.2.2.2.2.1.2.2 ∧ x.2.2.2.2.2.2.1 = o.2.2.2.2.2.2.1 ∧ x.2.2.2.2.2.2.2 = o.2.2.2.2.2.2.2) ↔ x = o := by
 obtain ⟨a, b, c, d, e, ⟨f1, f2, f3⟩, f4, f5⟩ := x; obtain ⟨a', b', c', d', e', ⟨f1', f2', f3'⟩, f4', f5'⟩ := o; simp only [Prod.mk.injEq]; omega
theorem mg_nil_l {u v : List Opn} (h : u.length = 0) : mg u v = v := by
 rw [List.eq_nil_of_length_eq_zero h]; simp [mg]
theorem mg_nil_r {u v : List Opn} (h : v.length = 0) : mg u v = u := by
 rw [List.eq_nil_of_length_eq_zero h]; cases u <;> simp [mg]
theorem mg_cons {u v : List Opn} {x y z : Opn} (h1 : ¬ u.length = 0) (h2 : ¬ v.length = 0) (hx : u.getD 0 z = x) (hy : v.getD 0 z = y) :
 mg u v = (if x = y then mg u v.tail else if bfV y x = true then y :: mg u v.tail else x :: mg u.tail v) ∧ u.length = u.tail.length + 1 ∧ v.length = v.tail.length + 1 := by
 match u, v, h1, h2 with
 | a :: u, b :: v, _, _ =>
   simp at hx hy; subst hx; subst hy; refine ⟨?_, by simp, by simp⟩
   conv => lhs; unfold mg
   rfl
def con16 : Con := { ps := [.d false (.sl yOP), .d false (.sl yOP)], rs := [.d false (.sl yOP), .d false yI], pre := fun _ => True, out := fun (x : List Opn × List Opn × Unit) => ((mergeV x.1 x.2.1).1, (mergeV x.1 x.2.1).2, ()), nw := id }
theorem c16 : CtrOk Tryz.prog 16 con16.ctr :=
 con_sound (G := ⟨[(23, con23.ctr), (52, con52.ctr)], [], [], [], []⟩) tab_ok (EnvOk.cons c23 has23 (EnvOk.cons c52 has52 EnvOk.nil)) rfl Tryz.func16 rfl con16 680566033193723203839501595650422991795 (by kernel_rfl) (by decide) (by decide) rfl (by decide) rfl (by
  rintro ⟨(a : List Opn), (b : List Opn), _⟩ hpre hwf X hT hG hk hK
  (simp -implicitDefEqProofs only [go_sem, bP, con16, con23, con52, hT, hG, hk, hK, Tryz.results16] at hwf ⊢); (try simp (disch := decide +kernel) only [drawn, true_and, and_true])
  refine fun _ => ?_; refine evk_loop ⟨{ j : Nat // j ≤ 2 ∧ (1 ≤ j → valV a = 0) ∧ (2 ≤ j → valV b = 0) }, 1000, fun j => [(0, .one (.sl yOP a false)), (1, .one (.sl yOP b false)), (20, .one (.row 70)), (21, .one (.int .i64 2)), (22, .one (.int .i64 j.1))], fun j => [(70, .row 28 (.sl yOP) [a, b])], fun j => 2 - j.1⟩ ⟨0, by omega, fun h => by omega, fun h => by omega⟩ ?_ ?_
  · simp only [go_sem]; exact ⟨rfl, rfl⟩
  · rintro ⟨j, (hj : j ≤ 2), (hva : 1 ≤ j → valV a = 0), (hvb : 2 ≤ j → valV b = 0)⟩
    (simp -implicitDefEqProofs only [go_sem, bP, con16, con23, con52, hT, hG, hk, hK, Tryz.results16]); (try simp (disch := decide +kernel) only [drawn, true_and, and_true])
    refine ⟨fun hlt => ?_, fun hge => ?_⟩
    · obtain ⟨M, eM, eV⟩ : ∃ M, [a, b].getD (j : Int).toNat [] = M ∧ ((j = 0 ∧ M = a) ∨ (j = 1 ∧ M = b)) := by
       rcases (by omega : j = 0 ∨ j = 1) with rfl | rfl
       · exact ⟨a, rfl, .inl ⟨rfl, rfl⟩⟩
       · exact ⟨b, rfl, .inr ⟨rfl, rfl⟩⟩
      rw [eM]
      (repeat' with_reducible first | refine And.intro ?_ ?_ | intro _) <;> try first | with_reducible (first | assumption | omega | contradiction) | decide
      · have hne : ¬ valV M = 0 := by assumption
        unfold mergeV
        rcases eV with ⟨_, rfl⟩ | ⟨rfl, rfl⟩
        · rw [if_pos hne]
        · rw [if_neg (by simp [hva]), if_pos hne]
      · have hne : ¬ valV M = 0 := by assumption
        unfold mergeV
        rcases eV with ⟨_, rfl⟩ | ⟨rfl, rfl⟩
        · rw [if_pos hne]
        · rw [if_neg (by simp [hva]), if_pos hne]
      · have hz : valV M = 0 := by assumption
        refine fin_lp ⟨j + 1, by omega, fun h => ?_, fun h => ?_⟩ ?_ (by dsimp only; omega)
        · rcases eV with ⟨_, rfl⟩ | ⟨rfl, rfl⟩
          · exact hz
          · exact hva (by omega)
        · rcases eV with ⟨rfl, rfl⟩ | ⟨rfl, rfl⟩
          · omega
          · exact hz
        · simp only [go_sem]
          and_intros <;> first | rfl | omega
    · have va := hva (by omega); have vb := hvb (by omega); obtain ⟨la, _⟩ := valV_zero va; obtain ⟨lb, _⟩ := valV_zero vb; refine fun _ => ?_; refine evk_loop ⟨{ i : Nat // i ≤ a.length }, 2000, fun i => [(0, .one (.sl yOP a false)), (1, .one (.sl yOP b false)), (9, .one (.map 71)), (33, .one (.sl yOP a false)), (34, .one (.int .i64 a.length)), (35, .one (.int .i64 i.1))], fun i => [(71, .mapb KT yOP true true (knM (a.take i.1)))], fun i => a.length - i.1⟩ ⟨0, by omega⟩ ?_ ?_
      · simp only [go_sem]; exact ⟨rfl, rfl⟩
      · rintro ⟨i, (hi : i ≤ a.length)⟩
        (simp -implicitDefEqProofs only [go_sem, bP, con16, con23, con52, hT, hG, hk, hK, Tryz.results16]); (try simp (disch := decide +kernel) only [drawn, true_and, and_true])
        refine ⟨fun hlt => ?_, fun hge => ?_⟩
        · have hil : i < a.length := by omega
          obtain ⟨o, ho⟩ : ∃ o, a[i] = o := ⟨_, rfl⟩; have eo : a.getD (i : Int).toNat (0, 0, 0, 0, 0, (0, 0, 0), 0, 0) = o := by rw [← ho]; simp [hil]
          have hst : knM (a.take (i + 1)) = knS (knM (a.take i)) o := by rw [tsE hil, knM_snoc, ho]
          rw [eo]; refine ⟨⟨by omega, by omega⟩, fun _ _ => ⟨⟨by omega, by omega⟩, ?_⟩⟩; refine fin_lp ⟨i + 1, by omega⟩ ?_ (by dsimp only; omega); simp only [go_sem]; rw [hst]; exact ⟨rfl, by omega⟩
        · rw [List.take_of_length_le (by omega)]; refine fun _ => ?_; refine evk_loop ⟨{ i : Nat // i ≤ b.length ∧ ∀ q, q < i → ∀ x ∈ a, x.2.1 = (b.getD q o0).2.1 → x.2.2.1 = (b.getD q o0).2.2.1 → x = b.getD q o0 }, 3000, fun i => [(0, .one (.sl yOP a false)), (1, .one (.sl yOP b false)), (9, .one (.map 71)), (47, .one (.sl yOP b false)), (48, .one (.int .i64 b.length)), (49, .one (.int .i64 i.1))], fun i => [(71, .mapb KT yOP true true (knM a))], fun i => b.length - i.1⟩ ⟨0, by omega, fun q hq => by omega⟩ ?_ ?_
          · simp only [go_sem]; rfl
          · rintro ⟨i, (hi : i ≤ b.length), (hz : ∀ q, q < i → ∀ x ∈ a, x.2.1 = (b.getD q o0).2.1 → x.2.2.1 = (b.getD q o0).2.2.1 → x = b.getD q o0)⟩
            (simp -implicitDefEqProofs only [go_sem, bP, con16, con23, con52, hT, hG, hk, hK, Tryz.results16]); (try simp (disch := decide +kernel) only [drawn, true_and, and_true])
            refine ⟨fun hlt => ?_, fun hge => ?_⟩
            · obtain ⟨o, ho⟩ : ∃ o, b.getD i o0 = o := ⟨_, rfl⟩; have eo : b.getD (i : Int).toNat (0, 0, 0, 0, 0, (0, 0, 0), 0, 0) = o := ho; rw [eo]; obtain ⟨g, hg⟩ : ∃ g, mget (kt := KT) (knM a) (o.2.1, o.2.2.1) = g := ⟨_, rfl⟩; rw [hg]; obtain ⟨x, hx⟩ : ∃ x, g.getD (0, 0, 0, 0, 0, (0, 0, 0), 0, 0) = x := ⟨_, rfl⟩; rw [hx]; simp only [ne_comp, eq_comp]; have hob : o ∈ b := by rw [← ho]; simp only [gdE]; rw [List.getElem?_eq_getElem (by omega)]; exact List.getElem_mem _
              refine ⟨⟨by omega, by omega⟩, fun _ _ _ => ⟨fun hd => ?_, fun hd => ?_⟩⟩
              · obtain ⟨hd1, hd2⟩ := hd
                have hgx : g = some x := by cases g with | none => cases hd1 | some y => cases hx; rfl
                obtain ⟨hm, h1, h2⟩ := knM_some a _ x (hg.trans hgx); have hdup : dupBm a b = true := by
                 unfold dupBm; rw [decide_eq_true_eq]; exact ⟨x, hm, o, hob, h1, h2, hd2⟩
                unfold mergeV; rw [if_neg (by simp [va]), if_neg (by simp [vb]), if_pos hdup]; exact ⟨rfl, rfl⟩
              · have hnx : ∀ x ∈ a, x.2.1 = o.2.1 → x.2.2.1 = o.2.2.1 → x = o := fun y hy h1 h2 => by
                 cases hgc : g with
                 | none => exact absurd ⟨h1, h2⟩ (knM_none a _ (hg.trans hgc) y hy)
                 | some u =>
                   rw [hgc] at hx hd; cases hx; obtain ⟨hm, k1, k2⟩ := knM_some a _ _ (hg.trans hgc); have := uniq_name va hy hm (h1.trans k1.symm) (h2.trans k2.symm)
                   rcases hd with hd | hd
                   · cases hd
                   · exact this.trans hd
                refine ⟨⟨by omega, by omega⟩, ?_⟩; refine fin_lp ⟨i + 1, by omega, fun q hq => ?_⟩ ?_ (by dsimp only; omega)
                · by_cases e : q = i
                  · subst e; rw [ho]; exact hnx
                  · exact hz q (by omega)
                · simp only [go_sem]
                  and_intros <;> first | rfl | omega
            · have hdup : dupBm a b = false := by
               unfold dupBm; rw [decide_eq_false_iff_not]; rintro ⟨x, hx, y, hy, h1, h2, h3⟩; obtain ⟨q, hq, rfl⟩ := List.getElem_of_mem hy; have gq : b.getD q o0 = b[q] := by simp [hq]
               have := hz q (by omega) x hx; rw [gq] at this; exact h3 (this h1 h2)
              have hmv : mergeV a b = if valV (mg a b) ≠ 0 then ([], valV (mg a b)) else (mg a b, 0) := by
               unfold mergeV; rw [if_neg (by simp [va]), if_neg (by simp [vb]), if_neg (by simp [hdup])]
              refine evk_loop ⟨{ q : List Opn × List Opn × List Opn // q.1 ++ mg q.2.1 q.2.2 = mg a b ∧ q.1.length + q.2.1.length + q.2.2.length ≤ a.length + b.length }, 4000, fun q => [(0, .one (.sl yOP q.1.2.1 false)), (1, .one (.sl yOP q.1.2.2 false)), (16, .one (.row 72))], fun q => [(72, .row 61 yOP q.1.1)], fun q => q.1.2.1.length + q.1.2.2.length⟩ ⟨([], a, b), rfl, by simp⟩ ?_ ?_
              · simp only [go_sem]
              · rintro ⟨⟨out, u, v⟩, (c1 : out ++ mg u v = mg a b), (c2 : out.length + u.length + v.length ≤ a.length + b.length)⟩
                (simp -implicitDefEqProofs only [go_sem, bP, con16, con23, con52, hT, hG, hk, hK, Tryz.results16]); (try simp (disch := decide +kernel) only [drawn, true_and, and_true])
                obtain ⟨x, hx⟩ : ∃ x, u.getD 0 (0, 0, 0, 0, 0, (0, 0, 0), 0, 0) = x := ⟨_, rfl⟩; obtain ⟨y, hy⟩ : ∃ y, v.getD 0 (0, 0, 0, 0, 0, (0, 0, 0), 0, 0) = y := ⟨_, rfl⟩; have d1 : List.drop (Int.toNat 1) (List.take ((u.length : Int)).toNat u) = u.tail := by simp
                have d2 : List.drop (Int.toNat 1) (List.take ((v.length : Int)).toNat v) = v.tail := by simp
                rw [hx, hy, d1, d2]; simp only [eq_comp, ne_comp]; rw [hmv]
                (repeat' with_reducible first | refine And.intro ?_ ?_ | intro _) <;> try first | with_reducible (first | assumption | omega | contradiction) | decide
                · have e : out ++ v = mg a b := by rw [← c1, mg_nil_l (by omega)]
                  have hq : ¬ valV (out ++ v) = 0 := by assumption
                  rw [← e, if_pos hq]
                · have e : out ++ v = mg a b := by rw [← c1, mg_nil_l (by omega)]
                  have hq : ¬ valV (out ++ v) = 0 := by assumption
                  rw [← e, if_pos hq]
                · have e : out ++ v = mg a b := by rw [← c1, mg_nil_l (by omega)]
                  have hq : valV (out ++ v) = 0 := by assumption
                  rw [← e, if_neg (fun q => q hq)]
                · have e : out ++ v = mg a b := by rw [← c1, mg_nil_l (by omega)]
                  have hq : valV (out ++ v) = 0 := by assumption
                  rw [← e, if_neg (fun q => q hq)]
                · have e : out ++ u = mg a b := by rw [← c1, mg_nil_r (by omega)]
                  have hq : ¬ valV (out ++ u) = 0 := by assumption
                  rw [← e, if_pos hq]
                · have e : out ++ u = mg a b := by rw [← c1, mg_nil_r (by omega)]
                  have hq : ¬ valV (out ++ u) = 0 := by assumption
                  rw [← e, if_pos hq]
                · have e : out ++ u = mg a b := by rw [← c1, mg_nil_r (by omega)]
                  have hq : valV (out ++ u) = 0 := by assumption
                  rw [← e, if_neg (fun q => q hq)]
                · have e : out ++ u = mg a b := by rw [← c1, mg_nil_r (by omega)]
                  have hq : valV (out ++ u) = 0 := by assumption
                  rw [← e, if_neg (fun q => q hq)]
                · obtain ⟨hm, hlu, hlv⟩ := mg_cons (by omega) (by omega) hx hy; have hxy : x = y := by assumption
                  refine fin_lp ⟨(out, u, v.tail), ?_, by simp <;> omega⟩ ?_ (by dsimp only; omega)
                  · dsimp only; rw [← c1, hm, if_pos hxy]
                  · simp only [go_sem]
                    try first | rfl | (and_intros <;> first | rfl | omega)
                · obtain ⟨hm, hlu, hlv⟩ := mg_cons (by omega) (by omega) hx hy; have hxy : x ≠ y := by assumption
                  have hb : bfV y x = true := by assumption
                  refine fin_lp ⟨(out ++ [y], u, v.tail), ?_, by simp <;> omega⟩ ?_ (by dsimp only; omega)
                  · dsimp only; rw [← c1, hm, if_neg hxy, if_pos hb]; simp
                  · simp only [go_sem]
                    try first | rfl | (and_intros <;> first | rfl | omega)
                · obtain ⟨hm, hlu, hlv⟩ := mg_cons (by omega) (by omega) hx hy; have hxy : x ≠ y := by assumption
                  have hb0 : bfV y x = false := by assumption
                  have hb : ¬ bfV y x = true := by rw [hb0]; exact fun q => by cases q
                  refine fin_lp ⟨(out ++ [x], u.tail, v), ?_, by simp <;> omega⟩ ?_ (by dsimp only; omega)
                  · dsimp only; rw [← c1, hm, if_neg hxy, if_neg hb]; simp
                  · simp only [go_sem]
                    try first | rfl | (and_intros <;> first | rfl | omega)
                · have e : out = mg a b := by rw [← c1, mg_nil_l (by omega), List.eq_nil_of_length_eq_zero (l := v) (by omega), List.append_nil]
                  have hq : ¬ valV (out) = 0 := by assumption
                  rw [← e, if_pos hq]
                · have e : out = mg a b := by rw [← c1, mg_nil_l (by omega), List.eq_nil_of_length_eq_zero (l := v) (by omega), List.append_nil]
                  have hq : ¬ valV (out) = 0 := by assumption
                  rw [← e, if_pos hq]
                · have e : out = mg a b := by rw [← c1, mg_nil_l (by omega), List.eq_nil_of_length_eq_zero (l := v) (by omega), List.append_nil]
                  have hq : valV (out) = 0 := by assumption
                  rw [← e, if_neg (fun q => q hq)]
                · have e : out = mg a b := by rw [← c1, mg_nil_l (by omega), List.eq_nil_of_length_eq_zero (l := v) (by omega), List.append_nil]
                  have hq : valV (out) = 0 := by assumption
                  rw [← e, if_neg (fun q => q hq)])
def aboutP (l : List Opn) (p : Plt) : List Opn := l.filter (fun o => decide (o.plate = p))
def placesV (l : List Opn) : List Plc := if valV l ≠ 0 then [] else (sortBy pltC (abK l)).map (fun p => placeV (aboutP l p))
theorem mget_zip (k : Plt) : ∀ (ks : List Plt) (vs : List (List Opn)), ks.length = vs.length → k ∈ ks → mget (kt := yPL) (ks.zip vs) k = some (vs.getD (kidx (kt := yPL) k ks) [])
 | [], _, _, h => by cases h
 | a :: ks, [], h, _ => by simp at h
 | a :: ks, v :: vs, h, hm => by
   simp only [List.zip_cons_cons, mget, kidx]; by_cases e : k = a
   · rw [if_pos (by rw [pl_eq]; simpa using e), if_pos (by rw [pl_eq]; simpa using e)]; rfl
   · rw [if_neg (by rw [pl_eq]; simpa using e), if_neg (by rw [pl_eq]; simpa using e)]; rw [mget_zip k ks vs (by simpa using h) ((List.mem_cons.1 hm).resolve_left e)]; rfl
theorem about_get {l : List Opn} {p : Plt} (h : p ∈ sortBy pltC (abK l)) : mget (kt := yPL) ((abK l).zip (abG l)) p = some (aboutP l p) := by
 have hm := (sortBy_perm pltC (abK l)).mem_iff.1 h; rw [mget_zip p _ _ (abG_len l).symm hm, abG_at hm]; rfl
theorem about_ne {l : List Opn} {p : Plt} (h : p ∈ sortBy pltC (abK l)) : aboutP l p ≠ [] := by
 have hm := (sortBy_perm pltC (abK l)).mem_iff.1 h; obtain ⟨o, ho, e⟩ := (abK_mem p l).1 hm; exact List.ne_nil_of_mem (List.mem_filter.2 ⟨ho, by simpa using e⟩)
theorem about_len (l : List Opn) (p : Plt) : (aboutP l p).length ≤ l.length := List.length_filter_le _ _
theorem sortBy_len (l : List Opn) : (sortBy pltC (abK l)).length ≤ l.length := by rw [(sortBy_perm _ _).length_eq]; exact abK_len l
def con10 : Con := { ps := [.d false (.sl yOP)], rs := [.d false (.sl yPM)], pre := fun _ => True, out := fun (x : List Opn × Unit) => (placesV x.1, ()), nw := id }
theorem c10 : CtrOk Tryz.prog 10 con10.ctr :=
 con_sound (G := ⟨[(23, con23.ctr), (30, con30.ctr), (31, con31.ctr)], [], [], [], []⟩) tab_ok (EnvOk.cons c23 has23 (EnvOk.cons c30 has30 (EnvOk.cons c31 has31 EnvOk.nil))) rfl Tryz.func10 rfl con10 984253 (by kernel_rfl) (by decide) (by decide) rfl (by decide) rfl (by
  rintro ⟨(l : List Opn), _⟩ hpre hwf X hT hG hk hK
  (simp -implicitDefEqProofs only [go_sem, bP, con10, con23, con30, con31, hT, hG, hk, hK, Tryz.results10] at hwf ⊢)
  refine fun _ => ⟨fun h => ?_, fun h => ?_⟩
  · unfold placesV; rw [if_pos h]
  · obtain ⟨hl, _⟩ := valV_zero h; have hsl := sortBy_len l; refine ⟨by omega, fun _ _ => ?_⟩; refine evk_loop ⟨{ i : Nat // i ≤ (sortBy pltC (abK l)).length }, 1000, fun i => [(3, .one (.map 70)), (5, .one (.row 71)), (16, .one (.sl yPL (sortBy pltC (abK l)) false)), (17, .one (.int .i64 (sortBy pltC (abK l)).length)), (18, .one (.int .i64 i.1))], fun i => [(70, .mapb yPL (.sl yOP) true false ((abK l).zip (abG l))), (71, .row 81 yPM (((sortBy pltC (abK l)).take i.1).map (fun p => placeV (aboutP l p))))], fun i => (sortBy pltC (abK l)).length - i.1⟩ ⟨0, by omega⟩ ?_ ?_
    · simp only [go_sem]
      try (first | rfl | exact ⟨rfl, rfl⟩)
    · rintro ⟨i, (hi : i ≤ (sortBy pltC (abK l)).length)⟩
      (simp -implicitDefEqProofs only [go_sem, bP, con10, con23, con30, con31, hT, hG, hk, hK, Tryz.results10])
      refine ⟨fun hlt => ?_, fun hge => ?_⟩
      · have hil : i < (sortBy pltC (abK l)).length := by omega
        obtain ⟨p, hp⟩ : ∃ p, (sortBy pltC (abK l))[i] = p := ⟨_, rfl⟩; have ep : (sortBy pltC (abK l)).getD (i : Int).toNat (0, 0, 0) = p := by rw [← hp]; simp [hil]
        have hpm : p ∈ sortBy pltC (abK l) := hp ▸ List.getElem_mem hil; have hlen := about_len l p; rw [ep]; have eg : ((mget (kt := yPL) ((abK l).zip (abG l)) (p.1, p.2.1, p.2.2)).getD []) = aboutP l p := by
         rw [show (p.1, p.2.1, p.2.2) = p from rfl, about_get hpm]; rfl
        rw [eg]; have hst : ((sortBy pltC (abK l)).take (i + 1)).map (fun p => placeV (aboutP l p)) = ((sortBy pltC (abK l)).take i).map (fun p => placeV (aboutP l p)) ++ [placeV (aboutP l p)] := by
         rw [tsE hil, List.map_append, hp]; rfl
        have hml : (((sortBy pltC (abK l)).take i).map (fun p => placeV (aboutP l p))).length ≤ 360 := by simp; omega
        (repeat' with_reducible first | refine And.intro ?_ ?_ | intro _) <;> try first | with_reducible (first | assumption | omega | contradiction) | decide
        · exact about_ne hpm
        · refine fin_lp ⟨i + 1, by omega⟩ ?_ (by dsimp only; omega); simp only [go_sem]; rw [hst]
          try first | rfl | (and_intros <;> first | rfl | omega)
      · unfold placesV; rw [if_neg (by simp [h]), List.take_of_length_le (by omega)])
theorem placesV_len (l : List Opn) : (placesV l).length ≤ 360 := by
 unfold placesV; split
 · simp
 · rename_i h; obtain ⟨hl, _⟩ := valV_zero (l := l) (by simpa using h); have := sortBy_len l; simp; omega
theorem sortI_perm (l : List Int) : (sortI l).Perm l := List.mergeSort_perm l _
theorem sortI_sorted (l : List Int) : (sortI l).Pairwise (· ≤ ·) := by
 have h := List.pairwise_mergeSort (le := fun x y : Int => decide (x ≤ y)) (fun a b c => by simp; omega) (fun a b => by simp; omega) l; exact h.imp (fun h => by simpa using h)
def Rl (a b : Opn) : Prop := bfV a b = true ∧ (a.2.1 = b.2.1 → a.2.2.1 < b.2.2.1)
structure OkL (l : List Opn) : Prop where
 ok : ∀ o ∈ l, okOp o = true
 pw : l.Pairwise Rl
theorem getD_at {l : List Opn} {i : Nat} (h : i < l.length) : l.getD i o0 = l[i] := by simp [h]
theorem OkL.val {l : List Opn} (h : OkL l) (hl : l.length ≤ 360) : valV l = 0 := by
 refine valV_ok (by omega) fun k hk => stepErr_0 ?_ (fun h0 => ?_) ?_
 · rw [getD_at hk]; exact h.ok _ (List.getElem_mem hk)
 · rw [getD_at hk, getD_at (by omega : k - 1 < l.length)]; exact (List.pairwise_iff_getElem.1 h.pw (k - 1) k (by omega) hk (by omega)).1
 · rintro ⟨j, hj, h1, h2⟩; rw [getD_at hk, getD_at (by omega : j < l.length)] at h1 h2; have := (List.pairwise_iff_getElem.1 h.pw j k (by omega) hk hj).2 h1; omega
structure Gn (l : List Opn) (t : Int) (sq : List Int) : Prop where
 ok : ∀ o ∈ l, okOp o = true
 tm : ∀ o ∈ l, o.1 ≤ t
 dv : ∀ o ∈ l, 1 ≤ o.2.1 ∧ o.2.1 ≤ 4
 sn : ∀ o ∈ l, o.2.2.1 ≤ sq.getD o.2.1.toNat 0
 pw : l.Pairwise Rl
theorem Gn.nil (t : Int) (sq : List Int) : Gn [] t sq := ⟨fun _ h => (by cases h), fun _ h => (by cases h), fun _ h => (by cases h), fun _ h => (by cases h), List.Pairwise.nil⟩
theorem Gn.okl {l : List Opn} {t : Int} {sq : List Int} (h : Gn l t sq) : OkL l := ⟨h.ok, h.pw⟩
theorem set_at {sq : List Int} {i : Nat} {x : Int} (h : i < sq.length) (j : Nat) : (sq.set i x).getD j 0 = if i = j then x else sq.getD j 0 := by
 rw [gdE, List.getElem?_set]; by_cases e : i = j
 · subst e; simp [h]
 · simp [e, gdE]
theorem Gn.ins {l : List Opn} {t : Int} {sq : List Int} (h : Gn l t sq) {o : Opn} {i : Nat} (ho : okOp o = true) (hd : 1 ≤ o.2.1 ∧ o.2.1 ≤ 4) (ht : t ≤ o.1) (hq : sq.length = 5) (hs : sq.getD o.2.1.toNat 0 < o.2.2.1) (hi : i ≤ l.length)
 (aft : ∀ z ∈ l.drop i, z.1 = o.1 ∧ o.2.1 < z.2.1) (bef : 0 < i → ¬ ((l.getD (i - 1) o0).1 = o.1 ∧ o.2.1 < (l.getD (i - 1) o0).2.1)) : Gn (l.take i ++ o :: l.drop i) o.1 (sq.set o.2.1.toNat o.2.2.1) := by
 have hm : ∀ z, z ∈ l.take i ++ o :: l.drop i → z = o ∨ z ∈ l := fun z hz => by
  rcases List.mem_append.1 hz with k | k
  · exact .inr (List.mem_of_mem_take k)
  · rcases List.mem_cons.1 k with k | k
    · exact .inl k
    · exact .inr (List.mem_of_mem_drop k)
 refine ⟨fun z hz => ?_, fun z hz => ?_, fun z hz => ?_, fun z hz => ?_, ?_⟩
 · rcases hm z hz with rfl | k
   · exact ho
   · exact h.ok z k
 · rcases hm z hz with rfl | k
   · exact Int.le_refl _
   · exact Int.le_trans (h.tm z k) ht
 · rcases hm z hz with rfl | k
   · exact hd
   · exact h.dv z k
 · rw [set_at (by omega)]
   rcases hm z hz with rfl | k
   · rw [if_pos rfl]; exact Int.le_refl _
   · have h1 := h.sn z k; have h2 := h.dv z k; split
     · rename_i e; have e2 : z.2.1 = o.2.1 := by omega
       rw [e2] at h1; omega
     · exact h1
 · have hp : (l.take i ++ l.drop i).Pairwise Rl := by rw [List.take_append_drop]; exact h.pw
   rw [List.pairwise_append] at hp; refine List.pairwise_append.2 ⟨hp.1, List.pairwise_cons.2 ⟨fun z hz => ?_, hp.2.1⟩, fun x hx z hz => ?_⟩
   · obtain ⟨a1, a2⟩ := aft z hz; refine ⟨?_, fun q => by omega⟩; unfold bfV; rw [decide_eq_true_eq]; omega
   · rcases List.mem_cons.1 hz with rfl | hz
     · have hx' := List.mem_of_mem_take hx; have hs1 := h.sn x hx'; have hd1 := h.dv x hx'; have ht1 := h.tm x hx'; obtain ⟨j, hj, rfl⟩ := List.getElem_of_mem hx; have hj2 : j < i := by simp at hj; omega
       have hjl : j < l.length := by omega
       rw [List.getElem_take] at *; have hb := bef (by omega); rw [getD_at (by omega : i - 1 < l.length)] at hb; have hlast := h.tm _ (List.getElem_mem (by omega : i - 1 < l.length)); have hseq : (l[j]).2.1 = z.2.1 → (l[j]).2.2.1 < z.2.2.1 := fun e => by rw [e] at hs1; omega
       refine ⟨?_, hseq⟩; unfold bfV; rw [decide_eq_true_eq]; by_cases e1 : (l[j]).1 < z.1
       · exact .inl e1
       · refine .inr ⟨by omega, ?_⟩; have hle : (l[j]).2.1 ≤ z.2.1 := by
          by_cases e2 : j = i - 1
          · subst e2; omega
          · have hr := (List.pairwise_iff_getElem.1 h.pw j (i - 1) hjl (by omega) (by omega)).1; unfold bfV at hr; rw [decide_eq_true_eq] at hr; omega
         by_cases e3 : (l[j]).2.1 < z.2.1
         · exact .inl e3
         · have e4 : (l[j]).2.1 = z.2.1 := by omega
           exact .inr ⟨e4, hseq e4⟩
     · exact hp.2.2 x hx z hz
theorem rep_at (d : Nat) : (List.replicate 5 (0 : Int)).getD d 0 = 0 := by
 rw [gdE, List.getElem?_replicate]; split <;> rfl
theorem tdiv_bd (x m n : Int) (h0 : 0 ≤ x) (h1 : x ≤ m) (h : 0 < n) : 0 ≤ x.tdiv n ∧ x.tdiv n ≤ m.tdiv n := by
 rw [Int.tdiv_eq_ediv_of_nonneg h0, Int.tdiv_eq_ediv_of_nonneg (by omega)]; exact ⟨Int.ediv_nonneg h0 (by omega), Int.ediv_le_ediv h h1⟩
theorem ins_shift (l : List Opn) (z o : Opn) (i : Nat) (hi : i ≤ l.length) :
 (List.take (i + 1) (l ++ [z]) ++ (List.take (min (l.length - i) (List.drop i (List.take (i + (l.length + 1 - i)) (l ++ [z]))).length) (List.drop i (List.take (i + (l.length + 1 - i)) (l ++ [z]))) ++ List.drop (i + 1 + min (l.length - i) (List.drop i (List.take (i + (l.length + 1 - i)) (l ++ [z]))).length) (l ++ [z]))).length = l.length + 1
 ∧ (List.take (i + 1) (l ++ [z]) ++ (List.take (min (l.length - i) (List.drop i (List.take (i + (l.length + 1 - i)) (l ++ [z]))).length) (List.drop i (List.take (i + (l.length + 1 - i)) (l ++ [z]))) ++ List.drop (i + 1 + min (l.length - i) (List.drop i (List.take (i + (l.length + 1 - i)) (l ++ [z]))).length) (l ++ [z]))).set i o = l.take i ++ o :: l.drop i := by
 have h1 : List.take (i + (l.length + 1 - i)) (l ++ [z]) = l ++ [z] := List.take_of_length_le (by simp; omega); have h2 : List.drop i (l ++ [z]) = List.drop i l ++ [z] := List.drop_append_of_le_length hi; have h3 : (List.drop i l ++ [z]).length = l.length - i + 1 := by simp
 have hl : i < (l ++ [z]).length := by simp; omega
 have h4 : List.take (i + 1) (l ++ [z]) = List.take i l ++ [(l ++ [z])[i]] := by rw [tsE hl, List.take_append_of_le_length hi]
 have h5 : min (l.length - i) (l.length - i + 1) = l.length - i := by omega
 have h6 : List.drop (i + 1 + (l.length - i)) (l ++ [z]) = [] := List.drop_of_length_le (by simp; omega); have h7 : List.take (l.length - i) (List.drop i l ++ [z]) = List.drop i l := by
  rw [List.take_append_of_le_length (by simp), List.take_of_length_le (by simp)]
 have h8 : (List.take i l).length = i := by simp; omega
 rw [h1, h2, h3, h5, h6, h4, h7, List.append_nil, List.append_assoc]; constructor
 · simp; omega
 · rw [List.set_append_right _ _ (by omega), h8, Nat.sub_self]; rfl
structure OpsR (c : Int) (l : List Opn) : Prop where
 okl : OkL l
 len : l.length ≤ 30
 dv : ∀ o ∈ l, 1 ≤ o.2.1 ∧ o.2.1 ≤ 4
 tm : ∀ o ∈ l, o.1 ≤ 100
 bx : ∀ o ∈ l, 1 ≤ o.2.2.2.2.1 ∧ o.2.2.2.2.1 ≤ c
structure OInv (c t : Int) (k : Int) (sq : List Int) (l : List Opn) : Prop where
 gn : Gn l t sq
 kl : (l.length : Int) + k ≤ 30
 t0 : 0 ≤ t
 t1 : t ≤ 2 * l.length
 sl : sq.length = 5
 s0 : ∀ d, 0 ≤ sq.getD d 0
 s1 : ∀ d, sq.getD d 0 ≤ 2 * l.length
 bx : ∀ o ∈ l, 1 ≤ o.2.2.2.2.1 ∧ o.2.2.2.2.1 ≤ c
def con6 : RCon := { ps := [.p 65 ySR, .d false yI, .d false yI, .d false yI], rs := [.d false (.sl yOP)], pre := fun (x : Src × Int × Int × Int × Unit) => 0 ≤ x.1.2 ∧ x.2.1 ≤ 30 ∧ 0 ≤ x.2.1 ∧ 1 ≤ x.2.2.2.1 ∧ x.2.2.2.1 ≤ 900, rel := fun (x : Src × Int × Int × Int × Unit) (y : List Opn × Unit) (z : Src × Int × Int × Int × Unit) => 0 ≤ z.1.2 ∧ OpsR x.2.2.2.1 y.1 }
theorem c6 : RCtrOk Tryz.prog 6 con6.rctr :=
 rcon_sound (G := ⟨[(19, con19.ctr), (20, con20.ctr)], [], [(92, 1), (95, 1)], [], []⟩) tab_ok (EnvOk.cons c19 has19 (EnvOk.cons c20 has20 EnvOk.nil)) rfl Tryz.func6 rfl con6 4835703278458516700987151 (by kernel_rfl) (by decide) (by decide) rfl (by decide) rfl (by
  rintro ⟨⟨(s : List Int), (a : Int)⟩, (most : Int), (n : Int), (c : Int), _⟩ hpre hwf X hT hG hk hK
  (simp -implicitDefEqProofs only [go_sem, bP, con6, con19, con20, hT, hG, hk, hK, Tryz.results6] at hwf ⊢); (try simp (disch := decide +kernel) only [drawn, true_and, and_true])
  obtain ⟨h1, h2, h3, h4, h5⟩ : 0 ≤ a ∧ most ≤ 30 ∧ 0 ≤ most ∧ 1 ≤ c ∧ c ≤ 900 := hpre; have hs1 : 0 ≤ (Src.step (s, a)).snd := step_pos h1; have hkb := goMod_bd (Src.raw (s, a)) (most + 1) (by omega); generalize goMod (Src.raw (s, a)) (most + 1) = K at hkb ⊢; generalize Src.step (s, a) = S1 at hs1 ⊢; obtain ⟨s1, a1⟩ := S1; refine ⟨by omega, h1, fun _ => ?_⟩; refine evk_loop ⟨{ q : Src × List Opn × List Int × Int × Int // 0 ≤ q.1.2 ∧ OInv c q.2.2.2.1 q.2.2.2.2 q.2.2.1 q.2.1 ∧ 0 ≤ q.2.2.2.2 }, 1000, fun q => [(0, .one (.loc 0 0)), (2, .one (.int .i64 n)), (3, .one (.int .i64 c)), (9, .one (.row 64)), (10, .one (.ep 65 1 0 0)), (11, .one (.int .i64 q.1.2.2.2.1)), (12, .one (.int .i64 q.1.2.2.2.2))],
   fun q => [(0, .cells 65 [.sl yI q.1.1.1 false, .int .i64 q.1.1.2]), (64, .row 61 yOP q.1.2.1), (65, .row 68 yI q.1.2.2.1)], fun q => q.1.2.2.2.2.toNat⟩ ⟨((s1, a1), [], List.replicate 5 0, 0, K), hs1, ⟨Gn.nil _ _, by simp only [List.length_nil]; omega, Int.le_refl _, by simp, by simp, fun d => (by rw [rep_at]; exact Int.le_refl _), fun d => (by rw [rep_at]; simp), fun o h => (by cases h)⟩, by simp only; omega⟩ ?_ ?_
  · simp only [go_sem]
    try (first | rfl | exact ⟨rfl, rfl⟩)
  · rintro ⟨⟨⟨s, a⟩, l, sq, t, k⟩, (h1 : 0 ≤ a), (hI : OInv c t k sq l), (hk0 : 0 ≤ k)⟩
    (simp -implicitDefEqProofs only [go_sem, bP, con6, con19, con20, hT, hG, hk, hK, Tryz.results6]); (try simp (disch := decide +kernel) only [drawn, true_and, and_true])
    obtain ⟨gn, kl, t0, t1, sl, s0, sb1, bx⟩ := hI; have p1 : 0 ≤ (Src.step (s, a)).snd := step_pos h1; have p2 : 0 ≤ (Src.step (s, a)).step.snd := step_pos p1; have p3 : 0 ≤ (Src.step (s, a)).step.step.snd := step_pos p2; have p4 : 0 ≤ (Src.step (s, a)).step.step.step.snd := step_pos p3; have p5 : 0 ≤ (Src.step (s, a)).step.step.step.step.snd := step_pos p4; have r1 := goMod_bd (Src.raw (s, a)) 3 (by omega); have r2 := goMod_bd (Src.step (s, a)).raw 4 (by omega); have r3 := goMod_bd (Src.step (s, a)).step.raw 8 (by omega); have r4 := goMod_bd (Src.step (s, a)).step.step.raw 4 (by omega); have r5 := goMod_bd (Src.step (s, a)).step.step.step.raw c (by omega); have r6 := tdiv_bd (goMod (Src.step (s, a)).step.raw 8) 7 7 (by omega) (by omega) (by omega); have r7 := tdiv_bd (goMod (Src.step (s, a)).step.step.raw 4) 3 3 (by omega) (by omega) (by omega); generalize (goMod (Src.step (s, a)).step.raw 8).tdiv 7 = V at r6 ⊢; generalize (goMod (Src.step (s, a)).step.step.raw 4).tdiv 3 = W at r7 ⊢; generalize goMod (Src.raw (s, a)) 3 = T at r1 ⊢; generalize goMod (Src.step (s, a)).raw 4 = D at r2 ⊢; generalize goMod (Src.step (s, a)).step.step.step.raw c = B at r5 ⊢; have p8 : 0 ≤ (Src.step (s, a)).step.step.step.step.step.step.step.snd := step_pos (step_pos (step_pos p5)); have hpc := pieceV_ok (Src.step (s, a)).step.step.step.step n; generalize (Src.step (s, a)).step.step.step.step.step.step.step = S8 at p8 ⊢; generalize (Src.step (s, a)).step.step.step.step = S5 at p5 hpc ⊢; generalize pieceV S5 n = P at hpc ⊢; obtain ⟨⟨P1, P2, P3⟩, P4, P5⟩ := P; obtain ⟨s8, a8⟩ := S8; have p8 : 0 ≤ a8 := p8; have q0 := s0 (1 + D).toNat; have q1 := sb1 (1 + D).toNat; have st := set_at (sq := sq) (i := (1 + D).toNat) (x := sq.getD (1 + D).toNat 0 + (1 + V)) (by omega) (1 + D).toNat; rw [if_pos rfl] at st; have e6 : (7 : Int).tdiv 7 = 1 := by decide
    have e7 : (3 : Int).tdiv 3 = 1 := by decide
    rw [e6] at r6; rw [e7] at r7; simp only [st, List.length_set, sl]; generalize hQ : sq.getD (1 + D).toNat 0 = Q at q0 q1 st ⊢
    (repeat' with_reducible first | refine And.intro ?_ ?_ | intro _) <;> try first | with_reducible (first | assumption | omega | contradiction) | decide
    · refine evk_loop ⟨{ i : Nat // i ≤ l.length ∧ ∀ z ∈ l.drop i, z.1 = t + T ∧ 1 + D < z.2.1 }, 1000, fun q => [(0, .one (.loc 0 0)), (2, .one (.int .i64 n)), (3, .one (.int .i64 c)), (9, .one (.row 64)), (10, .one (.ep 65 1 0 0)), (11, .one (.int .i64 (t + T))), (12, .one (.int .i64 k)), (14, .one (.loc 71 0)), (15, .one (.int .i64 q.1))],
       fun q => [(0, .cells 65 [.sl yI s8 false, .int .i64 a8]), (64, .row 61 yOP l), (65, .row 68 yI (sq.set (1 + D).toNat (Q + (1 + V)))), (71, .cells 61 [.int .i64 (t + T), .int .i64 (1 + D), .int .i64 (Q + (1 + V)), .int .i64 (1 + W), .int .i64 (1 + B), .int .i64 P1, .int .i64 P2, .int .i64 P3, .int .i64 P4, .int .i64 P5])], fun q => q.1⟩ ⟨l.length, Nat.le_refl _, by simp⟩ ?_ ?_
      · simp only [go_sem]
        try (first | rfl | exact ⟨rfl, rfl⟩)
      · rintro ⟨i, (hi : i ≤ l.length), (hd : ∀ z ∈ l.drop i, z.1 = t + T ∧ 1 + D < z.2.1)⟩
        (simp -implicitDefEqProofs only [go_sem, bP, con6, con19, con20, hT, hG, hk, hK, Tryz.results6]); (try simp (disch := decide +kernel) only [drawn, true_and, and_true])
        obtain ⟨u, hu⟩ : ∃ u, l.getD ((i : Int) - 1).toNat (0, 0, 0, 0, 0, (0, 0, 0), 0, 0) = u := ⟨_, rfl⟩; have hu2 : l.getD (i - 1) o0 = u := by rw [← hu]; congr 1; omega
        simp only [hu]; refine ⟨by omega, by omega, fun _ => ⟨by omega, fun _ => ⟨by omega, by omega, fun _ => ⟨by omega, fun _ => ⟨fun hc => ⟨by omega, ?_⟩, fun hc => ?_⟩⟩⟩⟩⟩
        · refine fin_lp ⟨i - 1, by omega, fun z hz => ?_⟩ ?_ (by dsimp only; omega)
          · rw [List.drop_eq_getElem_cons (by omega : i - 1 < l.length), show i - 1 + 1 = i by omega] at hz
            rcases List.mem_cons.1 hz with rfl | hz
            · rw [getD_at (by omega : i - 1 < l.length)] at hu2; rw [hu2]; exact ⟨hc.1.2, by omega⟩
            · exact hd z hz
          · simp only [go_sem]
            try first | rfl | (and_intros <;> first | rfl | omega)
        · have ll : (l ++ [((0, 0, 0, 0, 0, (0, 0, 0), 0, 0) : Opn)]).length = l.length + 1 := by simp
          have ln := gn.okl; have lb : l.length ≤ 30 := by omega
          have e1 : ((i : Int) + 1).toNat = i + 1 := by omega
          have e2 : ((l.length + 1 : Nat) - ((i : Int) + 1)).toNat = l.length - i := by omega
          have e3 : ((l.length + 1 : Nat) - (i : Int)).toNat = l.length + 1 - i := by omega
          have e4 : (i : Int).toNat = i := by omega
          have w1 : (i + 1) + (l.length - i) ≤ l.length + 1 := by omega
          have w2 : i + (l.length + 1 - i) ≤ l.length + 1 := by omega
          simp only [ll, e1, e2, e3, e4]; refine ⟨by omega, by omega, by omega, by omega, ?_⟩
          (simp -implicitDefEqProofs only [go_sem, bP, con6, con19, con20, hT, hG, hk, hK, Tryz.results6, w1, w2, ll]); (try simp (disch := decide +kernel) only [drawn, true_and, and_true])
          obtain ⟨i1, i2⟩ := ins_shift l ((0, 0, 0, 0, 0, (0, 0, 0), 0, 0) : Opn) (t + T, 1 + D, Q + (1 + V), 1 + W, 1 + B, (P1, P2, P3), P4, P5) i hi; rw [e4]; rw [i1, i2]; refine ⟨by omega, fun _ => ⟨by omega, by omega, ?_⟩⟩; have ok : okOp (t + T, 1 + D, Q + (1 + V), 1 + W, 1 + B, (P1, P2, P3), P4, P5) = true := by
           unfold okOp inV; simp only [hpc, Bool.and_eq_true, Bool.or_eq_true, decide_eq_true_eq, and_true]; omega
          have hmm : ∀ z ∈ l.take i ++ (t + T, 1 + D, Q + (1 + V), 1 + W, 1 + B, (P1, P2, P3), P4, P5) :: l.drop i, 1 ≤ z.2.2.2.2.1 ∧ z.2.2.2.2.1 ≤ c := fun z hz => by
           rcases List.mem_append.1 hz with h | h
           · exact bx z (List.mem_of_mem_take h)
           · rcases List.mem_cons.1 h with rfl | h
             · exact ⟨by dsimp only; omega, by dsimp only; omega⟩
             · exact bx z (List.mem_of_mem_drop h)
          have hgn := gn.ins (o := (t + T, 1 + D, Q + (1 + V), 1 + W, 1 + B, (P1, P2, P3), P4, P5)) (i := i) ok ⟨by dsimp only; omega, by dsimp only; omega⟩ (by dsimp only; omega) sl (by dsimp only; rw [hQ]; omega) hi hd (fun h0 q => by rw [hu2] at q; have q1 : u.1 = t + T := q.1; have q2 : 1 + D < u.2.1 := q.2; omega); have hlen : (l.take i ++ (t + T, 1 + D, Q + (1 + V), 1 + W, 1 + B, (P1, P2, P3), P4, P5) :: l.drop i).length = l.length + 1 := by simp; omega
          have sg : ∀ d, (sq.set (1 + D).toNat (Q + (1 + V))).getD d 0 = if (1 + D).toNat = d then Q + (1 + V) else sq.getD d 0 := fun d => set_at (by omega) d
          refine fin_lp ⟨((s8, a8), l.take i ++ (t + T, 1 + D, Q + (1 + V), 1 + W, 1 + B, (P1, P2, P3), P4, P5) :: l.drop i, sq.set (1 + D).toNat (Q + (1 + V)), t + T, k - 1), p8, ⟨hgn, ?_, ?_, ?_, ?_, fun d => ?_, fun d => ?_, hmm⟩, ?_⟩ ?_ ?_
          · rw [hlen]; dsimp only; omega
          · dsimp only; omega
          · rw [hlen]; dsimp only; omega
          · simp only [List.length_set]; exact sl
          · rw [sg]; have := s0 d; split <;> omega
          · rw [sg, hlen]; have := sb1 d; split <;> omega
          · dsimp only; omega
          · simp only [go_sem]
            try first | rfl | (and_intros <;> first | rfl | omega)
          · dsimp only; omega
    · exact ⟨(l, ()), ((s, a), most, n, c, ()), ⟨h1, ⟨gn.okl, (show l.length ≤ 30 by omega), gn.dv, fun o ho => by have := gn.tm o ho; omega, bx⟩⟩, rfl, rfl, rfl⟩)
theorem ddU_spec (xs : List Int) (hs : xs.Pairwise (· ≤ ·)) : ∀ i, i ≤ xs.length → (ddU xs i).Pairwise (fun a b => cmpV a b < 0) ∧ ∀ x, x ∈ ddU xs i ↔ x ∈ xs.take i
 | 0, _ => by simp [ddU]
 | i + 1, h => by
   obtain ⟨ih1, ih2⟩ := ddU_spec xs hs i (by omega); have hi : i < xs.length := by omega
   have g1 : xs.getD i 0 = xs[i] := by simp [hi]
   have ht : xs.take (i + 1) = xs.take i ++ [xs[i]] := tsE hi; have hle : ∀ x ∈ xs.take i, x ≤ xs.getD (i - 1) 0 ∧ xs.getD (i - 1) 0 ∈ xs.take i := fun x hx => by
    obtain ⟨j, hj, rfl⟩ := List.getElem_of_mem hx; have hj2 : j < i := by simp at hj; omega
    have g2 : xs.getD (i - 1) 0 = xs[i - 1] := by simp [show i - 1 < xs.length by omega]
    rw [g2, List.getElem_take]; refine ⟨?_, ?_⟩
    · by_cases e : j = i - 1
      · subst e; exact Int.le_refl _
      · exact List.pairwise_iff_getElem.1 hs j (i - 1) (by omega) (by omega) (by omega)
    · have : (xs.take i)[i - 1]'(by simp; omega) = xs[i - 1] := List.getElem_take; rw [← this]; exact List.getElem_mem _
   rw [ddU, ht, g1]; split
   · rename_i e; rw [List.append_nil]; refine ⟨ih1, fun x => ?_⟩; rw [ih2, List.mem_append]; refine ⟨.inl, fun k => k.elim id fun k => ?_⟩; have k : x = xs[i] := by simpa using k
     rw [k, e.2]; have h0 : xs[0]'(by omega) ∈ xs.take i := by
      have : (xs.take i)[0]'(by simp; omega) = xs[0]'(by omega) := List.getElem_take; rw [← this]; exact List.getElem_mem _
     exact (hle _ h0).2
   · rename_i e; refine ⟨List.pairwise_append.2 ⟨ih1, by simp, fun x hx y hy => ?_⟩, fun x => by simp only [List.mem_append, ih2]⟩; have hy : y = xs[i] := by simpa using hy
     subst hy; have hx2 := (ih2 x).1 hx; have h3 := hle x hx2; have hi0 : i ≠ 0 := fun q => by subst q; simp at hx2
     have h4 : xs.getD (i - 1) 0 ≤ xs[i] := by
      have g2 : xs.getD (i - 1) 0 = xs[i - 1] := by simp [show i - 1 < xs.length by omega]
      rw [g2]; exact List.pairwise_iff_getElem.1 hs (i - 1) i (by omega) (by omega) (by omega)
     have h5 : xs[i] ≠ xs.getD (i - 1) 0 := fun q => e ⟨hi0, q⟩; rw [cmpV_lt]; omega
theorem compV_spec (t : List Int) : (compV (sortI t)).Pairwise (fun a b => cmpV a b < 0) ∧ ∀ x, x ∈ compV (sortI t) ↔ x ∈ t := by
 obtain ⟨h1, h2⟩ := ddU_spec (sortI t) (sortI_sorted t) (sortI t).length (Nat.le_refl _); refine ⟨h1, fun x => ?_⟩; unfold compV; rw [h2, List.take_length]; exact (sortI_perm t).mem_iff
theorem trail_snoc (m : List Opn) (o : Opn) : trail (m ++ [o]) = if o.kind = 1 then o.box :: trail m else [] := by
 unfold trail; rw [List.reverse_append, List.reverse_singleton, List.singleton_append, List.takeWhile_cons]; by_cases h : o.kind = 1
 · simp [h]
 · simp [h]
theorem db_cand {l : List Plm} {z : Plm} (hz : z ∈ l) (h1 : ∀ y ∈ l, y.1.1 = z.1.1 → y = z) (c : List Cnt) : candV c l z.1.1 = z.2.2 := by
 unfold candV; split
 · rename_i y hy; have h2 := List.find?_some hy; rw [h1 y (List.mem_of_find?_eq_some hy) (of_decide_eq_true h2)]
 · rename_i hy; exact absurd (decide_eq_true rfl) (List.find?_eq_none.1 hy z hz)
theorem db_plm {k : Int} {l : List Opn} (hO : OpsR k l) {z : Plm} (hz : z ∈ placesV l) : (∀ y ∈ placesV l, y.1.1 = z.1.1 → y = z) ∧ okPc z.1 = true ∧ z.2.2.Nodup ∧ ∀ m ∈ z.2.2, 1 ≤ m ∧ m ≤ k := by
 have key : ∀ p, p ∈ sortBy pltC (abK l) → (placeV (aboutP l p)).1.1 = p ∧ ∃ o ∈ l, o.2.2.2.2.2 = (placeV (aboutP l p)).1 := fun p hp => by
  have hne := about_ne hp; unfold placeV; have hl : 0 < (aboutP l p).length := List.length_pos_iff.2 hne; have hm : (aboutP l p).getD ((aboutP l p).length - 1) o0 ∈ aboutP l p := getD_mem (by omega); have := (List.mem_filter.1 hm).2; exact ⟨of_decide_eq_true this, _, (List.mem_filter.1 hm).1, rfl⟩
 unfold placesV at hz ⊢; split at hz
 · cases hz
 · rename_i h; rw [if_neg h]; obtain ⟨p, hp, rfl⟩ := List.mem_map.1 hz; obtain ⟨k1, o, ho, ke⟩ := key p hp; refine ⟨fun y hy e => ?_, ?_, ?_, ?_⟩
   · obtain ⟨q, hq, rfl⟩ := List.mem_map.1 hy; rw [k1, (key q hq).1] at e; rw [e]
   · have := hO.okl.ok o ho; unfold okOp at this; rw [← ke]; simp only [Bool.and_eq_true] at this; exact this.2
   · show (compV (sortI (trail (aboutP l p)))).Nodup; refine (compV_spec _).1.imp fun {a b} h e => ?_; rw [cmpV_lt] at h; omega
   · intro m hm; have hm : m ∈ compV (sortI (trail (aboutP l p))) := hm; rw [(compV_spec _).2] at hm; unfold trail at hm; obtain ⟨u, hu, e⟩ := List.mem_map.1 hm; have h1 := (List.takeWhile_sublist _).subset hu; rw [List.mem_reverse] at h1; have := hO.bx u (List.mem_filter.1 h1).1; rw [← e]; exact this
end Go.Proofs.YtkjpbhkldioggaaGreat
