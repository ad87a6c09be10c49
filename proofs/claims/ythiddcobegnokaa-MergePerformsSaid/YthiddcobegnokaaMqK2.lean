/- Operations: merging. -/
import Derived.Test.YthiddcobegnokaaMqK1
set_option linter.unusedSimpArgs false
set_option linter.unusedVariables false
set_option maxRecDepth 100000
set_option maxHeartbeats 8000000
namespace Go.Proofs.Ythiddcobegnokaa
open Go.Ev

instance decPce : DecidableEq Pce := instDecidableEqProd
instance dec1 : DecidableEq (Int × Pce) := instDecidableEqProd
instance dec2 : DecidableEq (Int × Int × Pce) := instDecidableEqProd
instance dec3 : DecidableEq (Int × Int × Int × Pce) := instDecidableEqProd
instance dec4 : DecidableEq (Int × Int × Int × Int × Pce) := instDecidableEqProd
instance decOpn : DecidableEq Opn := instDecidableEqProd
/-- Two lists of operations, united. -/
def mg : List Opn → List Opn → List Opn
 | [], b => b
 | a, [] => a
 | x :: a, y :: b => if x = y then mg (x :: a) b else if bfV y x = true then y :: mg (x :: a) b else x :: mg a (y :: b)
termination_by a b => a.length + b.length
/-- Two different operations with the same name. -/
def dupBm (a b : List Opn) : Bool := decide (∃ x ∈ a, ∃ y ∈ b, x.2.1 = y.2.1 ∧ x.2.2.1 = y.2.2.1 ∧ x ≠ y)
def mergeV (a b : List Opn) : List Opn × Int :=
 if valV a ≠ 0 then ([], valV a) else if valV b ≠ 0 then ([], valV b) else if dupBm a b = true then ([], 5)
 else if valV (mg a b) ≠ 0 then ([], valV (mg a b)) else (mg a b, 0)
theorem valV_zero {l : List Opn} (h : valV l = 0) : l.length ≤ 360 ∧ ∀ k, k < l.length → stepErr l k = 0 := by
 have hl : ¬ 360 < l.length := fun q => by unfold valV at h; rw [if_pos q] at h; cases h
 refine ⟨by omega, fun k => ?_⟩
 induction k using Nat.strongRecOn with
 | _ k ih =>
   intro hk
   by_cases e : stepErr l k = 0
   · exact e
   · rw [← valV_err hl (fun j hj => ih j hj (by omega)) hk e]; exact h
theorem uniq_name {l : List Opn} (h : valV l = 0) {x y : Opn} (hx : x ∈ l) (hy : y ∈ l) (h1 : x.2.1 = y.2.1) (h2 : x.2.2.1 = y.2.2.1) : x = y := by
 obtain ⟨_, hz⟩ := valV_zero h
 obtain ⟨i, hi, rfl⟩ := List.getElem_of_mem hx
 obtain ⟨j, hj, rfl⟩ := List.getElem_of_mem hy
 have gi : l.getD i o0 = l[i] := by simp [hi]
 have gj : l.getD j o0 = l[j] := by simp [hj]
 rcases Nat.lt_trichotomy i j with e | e | e
 · have := (stepErr_zero (hz j hj)).2.2 i e
   rw [gi, gj] at this
   have := this h1
   omega
 · subst e; rfl
 · have := (stepErr_zero (hz i hi)).2.2 j e
   rw [gi, gj] at this
   have := this h1.symm
   omega
/-- The operations by their names. -/
abbrev KT : Ty := .pair (.int .i64) (.int .i64)
def knS (m : List ((Int × Int) × Opn)) (o : Opn) : List ((Int × Int) × Opn) := mset (kt := KT) m (o.2.1, o.2.2.1) o
def knM (l : List Opn) : List ((Int × Int) × Opn) := l.foldl knS []
theorem knS_get (m : List ((Int × Int) × Opn)) (o : Opn) (k : Int × Int) : mget (kt := KT) (knS m o) k = if k = (o.2.1, o.2.2.1) then some o else mget (kt := KT) m k := by
 have ke : ∀ p q : Int × Int, keyEq KT p q = decide (p = q) := fun p q => by
  obtain ⟨p1, p2⟩ := p; obtain ⟨q1, q2⟩ := q
  rw [Bool.eq_iff_iff]; simp [keyEq]
 unfold knS
 induction m with
 | nil => simp [mset, mget, ke]
 | cons p m ih =>
   obtain ⟨j, v⟩ := p
   simp only [mset, ke, decide_eq_true_eq]
   by_cases h1 : (o.2.1, o.2.2.1) = j
   · subst h1
     simp only [if_true, mget, ke, decide_eq_true_eq]
     by_cases h2 : k = (o.2.1, o.2.2.1) <;> simp [h2]
   · simp only [if_neg h1, mget, ke, decide_eq_true_eq, ih]
     by_cases h2 : k = j
     · subst h2
       rw [if_pos rfl, if_neg (fun q => h1 q.symm), if_pos rfl]
     · simp [h2]
theorem knM_snoc (l : List Opn) (o : Opn) : knM (l ++ [o]) = knS (knM l) o := by simp [knM]
theorem knM_some (l : List Opn) (k : Int × Int) (o : Opn) : mget (kt := KT) (knM l) k = some o → o ∈ l ∧ o.2.1 = k.1 ∧ o.2.2.1 = k.2 := by
 refine snoc_ind (P := fun l => mget (kt := KT) (knM l) k = some o → o ∈ l ∧ o.2.1 = k.1 ∧ o.2.2.1 = k.2) ?_ ?_ l
 · intro h; simp [knM, mget] at h
 · intro l x ih h
   rw [knM_snoc, knS_get] at h
   split at h
   · rename_i e
     cases h; subst e
     exact ⟨by simp, rfl, rfl⟩
   · obtain ⟨h1, h2⟩ := ih h
     exact ⟨by simp [h1], h2⟩
theorem knM_none (l : List Opn) (k : Int × Int) : mget (kt := KT) (knM l) k = none → ∀ o ∈ l, ¬ (o.2.1 = k.1 ∧ o.2.2.1 = k.2) := by
 refine snoc_ind (P := fun l => mget (kt := KT) (knM l) k = none → ∀ o ∈ l, ¬ (o.2.1 = k.1 ∧ o.2.2.1 = k.2)) ?_ ?_ l
 · intro h o ho; cases ho
 · intro l x ih h o ho hq
   rw [knM_snoc, knS_get] at h
   split at h
   · cases h
   · rename_i e
     rcases List.mem_append.1 ho with h1 | h1
     · exact ih h o h1 hq
     · rw [List.mem_singleton] at h1
       subst h1
       exact e (by obtain ⟨k1, k2⟩ := k; simp only at hq; rw [hq.1, hq.2])
theorem ne_comp (x o : Opn) : (¬x.1 = o.1 ∨ ¬x.2.1 = o.2.1 ∨ ¬x.2.2.1 = o.2.2.1 ∨ ¬x.2.2.2.1 = o.2.2.2.1 ∨ ¬x.2.2.2.2.1 = o.2.2.2.2.1 ∨ ¬x.2.2.2.2.2.1.1 = o.2.2.2.2.2.1.1 ∨ ¬x.2.2.2.2.2.1.2.1 = o.2.2.2.2.2.1.2.1 ∨ ¬x.2.2.2.2.2.1.2.2 = o.2.2.2.2.2.1.2.2 ∨ ¬x.2.2.2.2.2.2.1 = o.2.2.2.2.2.2.1 ∨ ¬x.2.2.2.2.2.2.2 = o.2.2.2.2.2.2.2) ↔ x ≠ o := by
 obtain ⟨a, b, c, d, e, ⟨f1, f2, f3⟩, f4, f5⟩ := x
 obtain ⟨a', b', c', d', e', ⟨f1', f2', f3'⟩, f4', f5'⟩ := o
 simp only [ne_eq, Prod.mk.injEq]
 omega
theorem eq_comp (x o : Opn) : (x.1 = o.1 ∧ x.2.1 = o.2.1 ∧ x.2.2.1 = o.2.2.1 ∧ x.2.2.2.1 = o.2.2.2.1 ∧ x.2.2.2.2.1 = o.2.2.2.2.1 ∧ x.2.2.2.2.2.1.1 = o.2.2.2.2.2.1.1 ∧ x.2.2.2.2.2.1.2.1 = o.2.2.2.2.2.1.2.1 ∧ x.2.2.2.2.2.1.2.2 = o.2.2.2.2.2.1.2.2 ∧ x.2.2.2.2.2.2.1 = o.2.2.2.2.2.2.1 ∧ x.2.2.2.2.2.2.2 = o.2.2.2.2.2.2.2) ↔ x = o := by
 obtain ⟨a, b, c, d, e, ⟨f1, f2, f3⟩, f4, f5⟩ := x
 obtain ⟨a', b', c', d', e', ⟨f1', f2', f3'⟩, f4', f5'⟩ := o
 simp only [Prod.mk.injEq]
 omega
theorem mg_nil_l {u v : List Opn} (h : u.length = 0) : mg u v = v := by
 rw [List.eq_nil_of_length_eq_zero h]; simp [mg]
theorem mg_nil_r {u v : List Opn} (h : v.length = 0) : mg u v = u := by
 rw [List.eq_nil_of_length_eq_zero h]
 cases u <;> simp [mg]
theorem mg_cons {u v : List Opn} {x y z : Opn} (h1 : ¬ u.length = 0) (h2 : ¬ v.length = 0) (hx : u.getD 0 z = x) (hy : v.getD 0 z = y) :
 mg u v = (if x = y then mg u v.tail else if bfV y x = true then y :: mg u v.tail else x :: mg u.tail v) ∧ u.length = u.tail.length + 1 ∧ v.length = v.tail.length + 1 := by
 match u, v, h1, h2 with
 | a :: u, b :: v, _, _ =>
   simp at hx hy
   subst hx; subst hy
   refine ⟨?_, by simp, by simp⟩
   conv => lhs; unfold mg
   rfl
def con19 : Con := { ps := [.d false (.sl yOP), .d false (.sl yOP)], rs := [.d false (.sl yOP), .d false (.int .i64)], pre := fun _ => True, out := fun (x : List Opn × List Opn × Unit) => ((mergeV x.1 x.2.1).1, (mergeV x.1 x.2.1).2, ()), nw := id }
theorem c19 : CtrOk Try.prog 19 con19.ctr :=
 con_sound (G := ⟨[(13, con13.ctr), (15, con15.ctr)], [], [], []⟩) tab_ok (EnvOk.cons c13 has13 (EnvOk.cons c15 has15 EnvOk.nil)) rfl Try.func19 rfl con19 680566033193723203839501595650422991795 (by kernel_rfl) (by decide) (by decide) rfl (by decide) rfl (by
  rintro ⟨(a : List Opn), (b : List Opn), _⟩ hpre hwf X hT hG hk hK
  (simp -implicitDefEqProofs only [go_sem, Bool.not_eq_true', Bool.not_eq_false', Bool.or_eq_true, Bool.or_eq_false_iff, Bool.and_eq_true, Bool.and_eq_false_iff, decide_eq_true_eq, decide_eq_false_iff_not, Classical.not_not, not_or, maxLen, con19, con13, con15, con16, hT, hG, hk, hK, Try.results19] at hwf ⊢); (try simp (disch := decide +kernel) only [drawn, true_and, and_true])
  refine fun _ => ?_
  refine evk_loop ⟨{ j : Nat // j ≤ 2 ∧ (1 ≤ j → valV a = 0) ∧ (2 ≤ j → valV b = 0) }, 1000, fun j => [(0, .one (.sl yOP a false)), (1, .one (.sl yOP b false)), (20, .one (.row 70)), (21, .one (.int .i64 2)), (22, .one (.int .i64 j.1))], fun j => [(70, .row 22 (.sl yOP) [a, b])], fun j => 2 - j.1⟩ ⟨0, by omega, fun h => by omega, fun h => by omega⟩ ?_ ?_
  · simp only [go_sem]
    exact ⟨rfl, rfl⟩
  · rintro ⟨j, (hj : j ≤ 2), (hva : 1 ≤ j → valV a = 0), (hvb : 2 ≤ j → valV b = 0)⟩
    (simp -implicitDefEqProofs only [go_sem, Bool.not_eq_true', Bool.not_eq_false', Bool.or_eq_true, Bool.or_eq_false_iff, Bool.and_eq_true, Bool.and_eq_false_iff, decide_eq_true_eq, decide_eq_false_iff_not, Classical.not_not, not_or, maxLen, con19, con13, con15, con16, hT, hG, hk, hK, Try.results19]); (try simp (disch := decide +kernel) only [drawn, true_and, and_true])
    refine ⟨fun hlt => ?_, fun hge => ?_⟩
    · obtain ⟨M, eM, eV⟩ : ∃ M, [a, b].getD (j : Int).toNat [] = M ∧ ((j = 0 ∧ M = a) ∨ (j = 1 ∧ M = b)) := by
       rcases (by omega : j = 0 ∨ j = 1) with rfl | rfl
       · exact ⟨a, rfl, .inl ⟨rfl, rfl⟩⟩
       · exact ⟨b, rfl, .inr ⟨rfl, rfl⟩⟩
      rw [eM]
      (repeat' (with_reducible (first | refine And.intro ?_ ?_ | intro _))) <;> (try (first | with_reducible (first | done | assumption | omega | contradiction) | decide))
      · have hne : ¬ valV M = 0 := by assumption
        unfold mergeV
        rcases eV with ⟨_, rfl⟩ | ⟨rfl, rfl⟩
        · rw [if_pos hne]
        · rw [if_neg (by simp [hva]), if_pos hne]
      · have hne : ¬ valV M = 0 := by assumption
        unfold mergeV
        rcases eV with ⟨_, rfl⟩ | ⟨rfl, rfl⟩
        · rw [if_pos hne]
        · rw [if_neg (by simp [hva]), if_pos hne]
      · have hz : valV M = 0 := by assumption
        refine fin_lp ⟨j + 1, by omega, fun h => ?_, fun h => ?_⟩ ?_ (by dsimp only; omega)
        · rcases eV with ⟨_, rfl⟩ | ⟨rfl, rfl⟩
          · exact hz
          · exact hva (by omega)
        · rcases eV with ⟨rfl, rfl⟩ | ⟨rfl, rfl⟩
          · omega
          · exact hz
        · simp only [go_sem]
          and_intros <;> first | rfl | omega
    · have va := hva (by omega)
      have vb := hvb (by omega)
      obtain ⟨la, _⟩ := valV_zero va
      obtain ⟨lb, _⟩ := valV_zero vb
      refine fun _ => ?_
      refine evk_loop ⟨{ i : Nat // i ≤ a.length }, 2000, fun i => [(0, .one (.sl yOP a false)), (1, .one (.sl yOP b false)), (9, .one (.map 71)), (33, .one (.sl yOP a false)), (34, .one (.int .i64 a.length)), (35, .one (.int .i64 i.1))], fun i => [(71, .mapb KT yOP true true (knM (a.take i.1)))], fun i => a.length - i.1⟩ ⟨0, by omega⟩ ?_ ?_
      · simp only [go_sem]
        exact ⟨rfl, rfl⟩
      · rintro ⟨i, (hi : i ≤ a.length)⟩
        (simp -implicitDefEqProofs only [go_sem, Bool.not_eq_true', Bool.not_eq_false', Bool.or_eq_true, Bool.or_eq_false_iff, Bool.and_eq_true, Bool.and_eq_false_iff, decide_eq_true_eq, decide_eq_false_iff_not, Classical.not_not, not_or, maxLen, con19, con13, con15, con16, hT, hG, hk, hK, Try.results19]); (try simp (disch := decide +kernel) only [drawn, true_and, and_true])
        refine ⟨fun hlt => ?_, fun hge => ?_⟩
        · have hil : i < a.length := by omega
          obtain ⟨o, ho⟩ : ∃ o, a[i] = o := ⟨_, rfl⟩
          have eo : a.getD (i : Int).toNat (0, 0, 0, 0, 0, (0, 0, 0), 0, 0) = o := by rw [← ho]; simp [hil]
          have hst : knM (a.take (i + 1)) = knS (knM (a.take i)) o := by rw [List.take_succ_eq_append_getElem hil, knM_snoc, ho]
          rw [eo]
          refine ⟨⟨by omega, by omega⟩, fun _ _ => ⟨⟨by omega, by omega⟩, ?_⟩⟩
          refine fin_lp ⟨i + 1, by omega⟩ ?_ (by dsimp only; omega)
          simp only [go_sem]
          rw [hst]
          exact ⟨rfl, by omega⟩
        · rw [List.take_of_length_le (by omega)]
          refine fun _ => ?_
          refine evk_loop ⟨{ i : Nat // i ≤ b.length ∧ ∀ q, q < i → ∀ x ∈ a, x.2.1 = (b.getD q o0).2.1 → x.2.2.1 = (b.getD q o0).2.2.1 → x = b.getD q o0 }, 3000, fun i => [(0, .one (.sl yOP a false)), (1, .one (.sl yOP b false)), (9, .one (.map 71)), (47, .one (.sl yOP b false)), (48, .one (.int .i64 b.length)), (49, .one (.int .i64 i.1))], fun i => [(71, .mapb KT yOP true true (knM a))], fun i => b.length - i.1⟩ ⟨0, by omega, fun q hq => by omega⟩ ?_ ?_
          · simp only [go_sem]
            rfl
          · rintro ⟨i, (hi : i ≤ b.length), (hz : ∀ q, q < i → ∀ x ∈ a, x.2.1 = (b.getD q o0).2.1 → x.2.2.1 = (b.getD q o0).2.2.1 → x = b.getD q o0)⟩
            (simp -implicitDefEqProofs only [go_sem, Bool.not_eq_true', Bool.not_eq_false', Bool.or_eq_true, Bool.or_eq_false_iff, Bool.and_eq_true, Bool.and_eq_false_iff, decide_eq_true_eq, decide_eq_false_iff_not, Classical.not_not, not_or, maxLen, con19, con13, con15, con16, hT, hG, hk, hK, Try.results19]); (try simp (disch := decide +kernel) only [drawn, true_and, and_true])
            refine ⟨fun hlt => ?_, fun hge => ?_⟩
            · obtain ⟨o, ho⟩ : ∃ o, b.getD i o0 = o := ⟨_, rfl⟩
              have eo : b.getD (i : Int).toNat (0, 0, 0, 0, 0, (0, 0, 0), 0, 0) = o := ho
              rw [eo]
              obtain ⟨g, hg⟩ : ∃ g, mget (kt := KT) (knM a) (o.2.1, o.2.2.1) = g := ⟨_, rfl⟩
              rw [hg]
              obtain ⟨x, hx⟩ : ∃ x, g.getD (0, 0, 0, 0, 0, (0, 0, 0), 0, 0) = x := ⟨_, rfl⟩
              rw [hx]
              simp only [ne_comp, eq_comp]
              have hob : o ∈ b := by rw [← ho]; simp only [List.getD_eq_getElem?_getD]; rw [List.getElem?_eq_getElem (by omega)]; exact List.getElem_mem _
              refine ⟨⟨by omega, by omega⟩, fun _ _ _ => ⟨fun hd => ?_, fun hd => ?_⟩⟩
              · obtain ⟨hd1, hd2⟩ := hd
                have hgx : g = some x := by cases g with | none => cases hd1 | some y => cases hx; rfl
                obtain ⟨hm, h1, h2⟩ := knM_some a _ x (hg.trans hgx)
                have hdup : dupBm a b = true := by
                 unfold dupBm
                 rw [decide_eq_true_eq]
                 exact ⟨x, hm, o, hob, h1, h2, hd2⟩
                unfold mergeV
                rw [if_neg (by simp [va]), if_neg (by simp [vb]), if_pos hdup]
                exact ⟨rfl, rfl⟩
              · have hnx : ∀ x ∈ a, x.2.1 = o.2.1 → x.2.2.1 = o.2.2.1 → x = o := fun y hy h1 h2 => by
                 cases hgc : g with
                 | none => exact absurd ⟨h1, h2⟩ (knM_none a _ (hg.trans hgc) y hy)
                 | some u =>
                   rw [hgc] at hx hd
                   cases hx
                   obtain ⟨hm, k1, k2⟩ := knM_some a _ _ (hg.trans hgc)
                   have := uniq_name va hy hm (h1.trans k1.symm) (h2.trans k2.symm)
                   rcases hd with hd | hd
                   · cases hd
                   · exact this.trans hd
                refine ⟨⟨by omega, by omega⟩, ?_⟩
                refine fin_lp ⟨i + 1, by omega, fun q hq => ?_⟩ ?_ (by dsimp only; omega)
                · by_cases e : q = i
                  · subst e; rw [ho]; exact hnx
                  · exact hz q (by omega)
                · simp only [go_sem]
                  and_intros <;> first | rfl | omega
            · have hdup : dupBm a b = false := by
               unfold dupBm
               rw [decide_eq_false_iff_not]
               rintro ⟨x, hx, y, hy, h1, h2, h3⟩
               obtain ⟨q, hq, rfl⟩ := List.getElem_of_mem hy
               have gq : b.getD q o0 = b[q] := by simp [hq]
               have := hz q (by omega) x hx
               rw [gq] at this
               exact h3 (this h1 h2)
              have hmv : mergeV a b = if valV (mg a b) ≠ 0 then ([], valV (mg a b)) else (mg a b, 0) := by
               unfold mergeV
               rw [if_neg (by simp [va]), if_neg (by simp [vb]), if_neg (by simp [hdup])]
              refine evk_loop ⟨{ q : List Opn × List Opn × List Opn // q.1 ++ mg q.2.1 q.2.2 = mg a b ∧ q.1.length + q.2.1.length + q.2.2.length ≤ a.length + b.length }, 4000, fun q => [(0, .one (.sl yOP q.1.2.1 false)), (1, .one (.sl yOP q.1.2.2 false)), (16, .one (.row 72))], fun q => [(72, .row 37 yOP q.1.1)], fun q => q.1.2.1.length + q.1.2.2.length⟩ ⟨([], a, b), rfl, by simp⟩ ?_ ?_
              · simp only [go_sem]
              · rintro ⟨⟨out, u, v⟩, (c1 : out ++ mg u v = mg a b), (c2 : out.length + u.length + v.length ≤ a.length + b.length)⟩
                (simp -implicitDefEqProofs only [go_sem, Bool.not_eq_true', Bool.not_eq_false', Bool.or_eq_true, Bool.or_eq_false_iff, Bool.and_eq_true, Bool.and_eq_false_iff, decide_eq_true_eq, decide_eq_false_iff_not, Classical.not_not, not_or, maxLen, con19, con13, con15, con16, hT, hG, hk, hK, Try.results19]); (try simp (disch := decide +kernel) only [drawn, true_and, and_true])
                obtain ⟨x, hx⟩ : ∃ x, u.getD 0 (0, 0, 0, 0, 0, (0, 0, 0), 0, 0) = x := ⟨_, rfl⟩
                obtain ⟨y, hy⟩ : ∃ y, v.getD 0 (0, 0, 0, 0, 0, (0, 0, 0), 0, 0) = y := ⟨_, rfl⟩
                have d1 : List.drop (Int.toNat 1) (List.take ((u.length : Int)).toNat u) = u.tail := by simp
                have d2 : List.drop (Int.toNat 1) (List.take ((v.length : Int)).toNat v) = v.tail := by simp
                rw [hx, hy, d1, d2]
                simp only [eq_comp, ne_comp]
                rw [hmv]
                (repeat' (with_reducible (first | refine And.intro ?_ ?_ | intro _))) <;> (try (first | with_reducible (first | done | assumption | omega | contradiction) | decide))
                · have e : out ++ v = mg a b := by rw [← c1, mg_nil_l (by omega)]
                  have hq : ¬ valV (out ++ v) = 0 := by assumption
                  rw [← e, if_pos hq]
                · have e : out ++ v = mg a b := by rw [← c1, mg_nil_l (by omega)]
                  have hq : ¬ valV (out ++ v) = 0 := by assumption
                  rw [← e, if_pos hq]
                · have e : out ++ v = mg a b := by rw [← c1, mg_nil_l (by omega)]
                  have hq : valV (out ++ v) = 0 := by assumption
                  rw [← e, if_neg (fun q => q hq)]
                · have e : out ++ v = mg a b := by rw [← c1, mg_nil_l (by omega)]
                  have hq : valV (out ++ v) = 0 := by assumption
                  rw [← e, if_neg (fun q => q hq)]
                · have e : out ++ u = mg a b := by rw [← c1, mg_nil_r (by omega)]
                  have hq : ¬ valV (out ++ u) = 0 := by assumption
                  rw [← e, if_pos hq]
                · have e : out ++ u = mg a b := by rw [← c1, mg_nil_r (by omega)]
                  have hq : ¬ valV (out ++ u) = 0 := by assumption
                  rw [← e, if_pos hq]
                · have e : out ++ u = mg a b := by rw [← c1, mg_nil_r (by omega)]
                  have hq : valV (out ++ u) = 0 := by assumption
                  rw [← e, if_neg (fun q => q hq)]
                · have e : out ++ u = mg a b := by rw [← c1, mg_nil_r (by omega)]
                  have hq : valV (out ++ u) = 0 := by assumption
                  rw [← e, if_neg (fun q => q hq)]
                · obtain ⟨hm, hlu, hlv⟩ := mg_cons (by omega) (by omega) hx hy
                  have hxy : x = y := by assumption
                  refine fin_lp ⟨(out, u, v.tail), ?_, by simp <;> omega⟩ ?_ (by dsimp only; omega)
                  · dsimp only
                    rw [← c1, hm, if_pos hxy]
                  · simp only [go_sem]
                    try (first | rfl | exact ⟨rfl, rfl⟩ | (and_intros <;> first | rfl | omega))
                · obtain ⟨hm, hlu, hlv⟩ := mg_cons (by omega) (by omega) hx hy
                  have hxy : x ≠ y := by assumption
                  have hb : bfV y x = true := by assumption
                  refine fin_lp ⟨(out ++ [y], u, v.tail), ?_, by simp <;> omega⟩ ?_ (by dsimp only; omega)
                  · dsimp only
                    rw [← c1, hm, if_neg hxy, if_pos hb]
                    simp
                  · simp only [go_sem]
                    try (first | rfl | exact ⟨rfl, rfl⟩ | (and_intros <;> first | rfl | omega))
                · obtain ⟨hm, hlu, hlv⟩ := mg_cons (by omega) (by omega) hx hy
                  have hxy : x ≠ y := by assumption
                  have hb0 : bfV y x = false := by assumption
                  have hb : ¬ bfV y x = true := by rw [hb0]; exact fun q => by cases q
                  refine fin_lp ⟨(out ++ [x], u.tail, v), ?_, by simp <;> omega⟩ ?_ (by dsimp only; omega)
                  · dsimp only
                    rw [← c1, hm, if_neg hxy, if_neg hb]
                    simp
                  · simp only [go_sem]
                    try (first | rfl | exact ⟨rfl, rfl⟩ | (and_intros <;> first | rfl | omega))
                · have e : out = mg a b := by rw [← c1, mg_nil_l (by omega), List.eq_nil_of_length_eq_zero (l := v) (by omega), List.append_nil]
                  have hq : ¬ valV (out) = 0 := by assumption
                  rw [← e, if_pos hq]
                · have e : out = mg a b := by rw [← c1, mg_nil_l (by omega), List.eq_nil_of_length_eq_zero (l := v) (by omega), List.append_nil]
                  have hq : ¬ valV (out) = 0 := by assumption
                  rw [← e, if_pos hq]
                · have e : out = mg a b := by rw [← c1, mg_nil_l (by omega), List.eq_nil_of_length_eq_zero (l := v) (by omega), List.append_nil]
                  have hq : valV (out) = 0 := by assumption
                  rw [← e, if_neg (fun q => q hq)]
                · have e : out = mg a b := by rw [← c1, mg_nil_l (by omega), List.eq_nil_of_length_eq_zero (l := v) (by omega), List.append_nil]
                  have hq : valV (out) = 0 := by assumption
                  rw [← e, if_neg (fun q => q hq)])
def mgR : List Opn → List Opn → List Opn
 | [], b => b
 | a, [] => a
 | x :: a, y :: b => if bfV x y = true then x :: mgR a (y :: b) else if bfV y x = true then y :: mgR (x :: a) b else x :: mgR a b
termination_by a b => a.length + b.length
theorem bfV_irr (x : Opn) : bfV x x = false := by unfold bfV; rw [decide_eq_false_iff_not]; omega
theorem bfV_asym {x y : Opn} (h : bfV x y = true) : bfV y x = false := by
 unfold bfV at *; rw [decide_eq_true_eq] at h; rw [decide_eq_false_iff_not]; omega
theorem bfV_trans {x y z : Opn} (h : bfV x y = true) (k : bfV y z = true) : bfV x z = true := by
 unfold bfV at *; rw [decide_eq_true_eq] at *; omega
theorem bfV_tot {x y : Opn} (h : bfV x y = false) (k : bfV y x = false) : x.2.1 = y.2.1 ∧ x.2.2.1 = y.2.2.1 := by
 unfold bfV at *; rw [decide_eq_false_iff_not] at *; omega
abbrev Srt (l : List Opn) : Prop := l.Pairwise (fun x y => bfV x y = true)
theorem srt_of {l : List Opn} (h : valV l = 0) : Srt l := by
 obtain ⟨_, hz⟩ := valV_zero h
 refine List.pairwise_iff_getElem.2 ?_
 have key : ∀ n i, (hj : i + n + 1 < l.length) → bfV (l[i]'(by omega)) l[i + n + 1] = true := by
  intro n
  induction n with
  | zero =>
    intro i hj
    have := (stepErr_zero (hz (i + 1) hj)).2.1 (by omega)
    simpa [List.getD_eq_getElem?_getD, hj, show i < l.length by omega] using this
  | succ n ih =>
    intro i hj
    have h1 := ih i (by omega)
    have := (stepErr_zero (hz (i + n + 2) (by omega))).2.1 (by omega)
    have h2 : bfV (l[i + n + 1]'(by omega)) (l[i + n + 2]'(by omega)) = true := by
     simpa [List.getD_eq_getElem?_getD, show i + n + 2 < l.length by omega, show i + n + 1 < l.length by omega] using this
    exact bfV_trans h1 h2
 intro i j hi hj hij
 have := key (j - i - 1) i (by omega)
 simpa [show i + (j - i - 1) + 1 = j by omega] using this
def NoD (a b : List Opn) : Prop := ∀ x ∈ a, ∀ y ∈ b, x.2.1 = y.2.1 → x.2.2.1 = y.2.2.1 → x = y
theorem noD_iff {a b : List Opn} : dupBm a b = false ↔ NoD a b := by
 unfold dupBm NoD
 rw [decide_eq_false_iff_not]
 constructor
 · intro h x hx y hy h1 h2
   exact Classical.byContradiction fun h3 => h ⟨x, hx, y, hy, h1, h2, h3⟩
 · rintro h ⟨x, hx, y, hy, h1, h2, h3⟩
   exact h3 (h x hx y hy h1 h2)
theorem mg_eq_mgR : ∀ (n : Nat) (a b : List Opn), a.length + b.length ≤ n → Srt a → Srt b → NoD a b → mg a b = mgR a b
 | _, [], b, _, _, _, _ => by simp [mg, mgR]
 | _, x :: a, [], _, _, _, _ => by simp [mg, mgR]
 | 0, x :: a, y :: b, h, _, _, _ => by simp at h
 | n + 1, x :: a, y :: b, h, sa, sb, nd => by
   simp only [List.length_cons] at h
   have sa' := (List.pairwise_cons.1 sa)
   have sb' := (List.pairwise_cons.1 sb)
   have n1 : NoD a (y :: b) := fun u hu v hv => nd u (List.mem_cons_of_mem _ hu) v hv
   have n2 : NoD (x :: a) b := fun u hu v hv => nd u hu v (List.mem_cons_of_mem _ hv)
   have n3 : NoD a b := fun u hu v hv => nd u (List.mem_cons_of_mem _ hu) v (List.mem_cons_of_mem _ hv)
   rw [mg, mgR]
   by_cases e : x = y
   · subst e
     rw [if_pos rfl, if_neg (by rw [bfV_irr]; exact fun q => by cases q), if_neg (by rw [bfV_irr]; exact fun q => by cases q)]
     rw [← mg_eq_mgR n a b (by omega) sa'.2 sb'.2 n3]
     cases b with
     | nil => simp [mg]; cases a <;> simp [mg]
     | cons z b =>
       have hz := sb'.1 z (List.mem_cons_self ..)
       rw [mg, if_neg (fun q => by subst q; rw [bfV_irr] at hz; cases hz), if_neg (by rw [bfV_asym hz]; exact fun q => by cases q)]
   · rw [if_neg e]
     by_cases h1 : bfV y x = true
     · rw [if_pos h1, if_neg (by rw [bfV_asym h1]; exact fun q => by cases q), if_pos h1, mg_eq_mgR n (x :: a) b (by simp; omega) sa sb'.2 n2]
     · rw [if_neg h1]
       by_cases h2 : bfV x y = true
       · rw [if_pos h2, mg_eq_mgR n a (y :: b) (by simp; omega) sa'.2 sb n1]
       · obtain ⟨k1, k2⟩ := bfV_tot (by simpa using h2) (by simpa using h1)
         exact absurd (nd x (List.mem_cons_self ..) y (List.mem_cons_self ..) k1 k2) e
theorem mgR_a {a b : List Opn} {i k : Nat} (hi : i < a.length) (h : k = b.length ∨ (k < b.length ∧ bfV (a.getD i o0) (b.getD k o0) = true)) : mgR (a.drop i) (b.drop k) = a.getD i o0 :: mgR (a.drop (i + 1)) (b.drop k) := by
 have gi : a.getD i o0 = a[i] := by simp [hi]
 rw [gi] at h ⊢
 rw [List.drop_eq_getElem_cons hi]
 rcases h with rfl | ⟨hk, hb⟩
 · rw [List.drop_length]
   cases hd : a.drop (i + 1) <;> simp [mgR]
 · have gk : b.getD k o0 = b[k] := by simp [hk]
   rw [gk] at hb
   rw [List.drop_eq_getElem_cons hk, mgR, if_pos hb]
theorem mgR_b {a b : List Opn} {i k : Nat} (hk : k < b.length) (h : i = a.length ∨ (i < a.length ∧ bfV (a.getD i o0) (b.getD k o0) = false ∧ bfV (b.getD k o0) (a.getD i o0) = true)) : mgR (a.drop i) (b.drop k) = b.getD k o0 :: mgR (a.drop i) (b.drop (k + 1)) := by
 have gk : b.getD k o0 = b[k] := by simp [hk]
 rw [gk] at h ⊢
 rw [List.drop_eq_getElem_cons hk]
 rcases h with rfl | ⟨hi, h1, h2⟩
 · rw [List.drop_length]; simp [mgR]
 · have gi : a.getD i o0 = a[i] := by simp [hi]
   rw [gi] at h1 h2
   rw [List.drop_eq_getElem_cons hi, mgR, if_neg (by rw [h1]; exact fun q => by cases q), if_pos h2]
theorem mgR_ab {a b : List Opn} {i k : Nat} (hi : i < a.length) (hk : k < b.length) (h1 : bfV (a.getD i o0) (b.getD k o0) = false) (h2 : bfV (b.getD k o0) (a.getD i o0) = false) : mgR (a.drop i) (b.drop k) = a.getD i o0 :: mgR (a.drop (i + 1)) (b.drop (k + 1)) := by
 have gi : a.getD i o0 = a[i] := by simp [hi]
 have gk : b.getD k o0 = b[k] := by simp [hk]
 rw [gi, gk] at h1 h2
 rw [gi]
 rw [List.drop_eq_getElem_cons hk, List.drop_eq_getElem_cons hi, mgR, if_neg (by rw [h1]; exact fun q => by cases q), if_neg (by rw [h2]; exact fun q => by cases q)]
def con20 : Con := { ps := [.d false (.sl yOP), .d false (.sl yOP)], rs := [.d false (.sl yOP), .d false (.int .i64)], pre := fun _ => True, out := fun (x : List Opn × List Opn × Unit) => ((mergeV x.1 x.2.1).1, (mergeV x.1 x.2.1).2, ()), nw := id }
theorem c20 : CtrOk Try.prog 20 con20.ctr :=
 con_sound (G := ⟨[(14, con14.ctr), (16, con16.ctr)], [], [], []⟩) tab_ok (EnvOk.cons c14 has14 (EnvOk.cons c16 has16 EnvOk.nil)) rfl Try.func20 rfl con20 2854495396045743733348869185682203209919250419 (by kernel_rfl) (by decide) (by decide) rfl (by decide) rfl (by
  rintro ⟨(a : List Opn), (b : List Opn), _⟩ hpre hwf X hT hG hk hK
  (simp -implicitDefEqProofs only [go_sem, Bool.not_eq_true', Bool.not_eq_false', Bool.or_eq_true, Bool.or_eq_false_iff, Bool.and_eq_true, Bool.and_eq_false_iff, decide_eq_true_eq, decide_eq_false_iff_not, Classical.not_not, not_or, maxLen, con20, con14, con16, hT, hG, hk, hK, Try.results20] at hwf ⊢); (try simp (disch := decide +kernel) only [drawn, true_and, and_true])
  refine fun _ => ⟨fun h => ?_, fun va _ => ⟨fun h => ?_, fun vb => ?_⟩⟩
  · unfold mergeV; rw [if_pos h]; exact ⟨rfl, rfl⟩
  · unfold mergeV; rw [if_neg (by simp [va]), if_pos h]; exact ⟨rfl, rfl⟩
  · obtain ⟨la, _⟩ := valV_zero va
    obtain ⟨lb, _⟩ := valV_zero vb
    have dup_out : ∀ i k, i < a.length → k < b.length → (a.getD i o0).2.1 = (b.getD k o0).2.1 → (a.getD i o0).2.2.1 = (b.getD k o0).2.2.1 → a.getD i o0 ≠ b.getD k o0 → mergeV a b = ([], 5) := fun i k hi hk' h1 h2 h3 => by
     have ma : a.getD i o0 ∈ a := by simp only [List.getD_eq_getElem?_getD]; rw [List.getElem?_eq_getElem hi]; exact List.getElem_mem _
     have mb : b.getD k o0 ∈ b := by simp only [List.getD_eq_getElem?_getD]; rw [List.getElem?_eq_getElem hk']; exact List.getElem_mem _
     have hd : dupBm a b = true := by unfold dupBm; rw [decide_eq_true_eq]; exact ⟨_, ma, _, mb, h1, h2, h3⟩
     unfold mergeV
     rw [if_neg (by simp [va]), if_neg (by simp [vb]), if_pos hd]
    refine evk_loop ⟨{ i : Nat // i ≤ a.length ∧ ∀ p, p < i → ∀ q, q < b.length → (a.getD p o0).2.1 = (b.getD q o0).2.1 → (a.getD p o0).2.2.1 = (b.getD q o0).2.2.1 → a.getD p o0 = b.getD q o0 }, 1000, fun i => [(0, .one (.sl yOP a false)), (1, .one (.sl yOP b false)), (8, .one (.int .i64 i.1))], fun i => [], fun i => a.length - i.1⟩ ⟨0, by omega, fun p h => by omega⟩ ?_ ?_
    · simp only [go_sem]
      rfl
    · rintro ⟨i, (hi : i ≤ a.length), (hz : ∀ p, p < i → ∀ q, q < b.length → (a.getD p o0).2.1 = (b.getD q o0).2.1 → (a.getD p o0).2.2.1 = (b.getD q o0).2.2.1 → a.getD p o0 = b.getD q o0)⟩
      (simp -implicitDefEqProofs only [go_sem, Bool.not_eq_true', Bool.not_eq_false', Bool.or_eq_true, Bool.or_eq_false_iff, Bool.and_eq_true, Bool.and_eq_false_iff, decide_eq_true_eq, decide_eq_false_iff_not, Classical.not_not, not_or, maxLen, con20, con14, con16, hT, hG, hk, hK, Try.results20]); (try simp (disch := decide +kernel) only [drawn, true_and, and_true])
      refine fun _ => ⟨fun hlt => ?_, fun hge => ?_⟩
      · refine evk_loop ⟨{ k : Nat // k ≤ b.length ∧ ∀ q, q < k → (a.getD i o0).2.1 = (b.getD q o0).2.1 → (a.getD i o0).2.2.1 = (b.getD q o0).2.2.1 → a.getD i o0 = b.getD q o0 }, 2000, fun k => [(0, .one (.sl yOP a false)), (1, .one (.sl yOP b false)), (8, .one (.int .i64 i)), (9, .one (.int .i64 k.1))], fun i => [], fun k => b.length - k.1⟩ ⟨0, by omega, fun p h => by omega⟩ ?_ ?_
        · simp only [go_sem]
          rfl
        · rintro ⟨k, (hki : k ≤ b.length), (hy : ∀ q, q < k → (a.getD i o0).2.1 = (b.getD q o0).2.1 → (a.getD i o0).2.2.1 = (b.getD q o0).2.2.1 → a.getD i o0 = b.getD q o0)⟩
          (simp -implicitDefEqProofs only [go_sem, Bool.not_eq_true', Bool.not_eq_false', Bool.or_eq_true, Bool.or_eq_false_iff, Bool.and_eq_true, Bool.and_eq_false_iff, decide_eq_true_eq, decide_eq_false_iff_not, Classical.not_not, not_or, maxLen, con20, con14, con16, hT, hG, hk, hK, Try.results20]); (try simp (disch := decide +kernel) only [drawn, true_and, and_true])
          obtain ⟨x, hx⟩ : ∃ x, a.getD i o0 = x := ⟨_, rfl⟩
          obtain ⟨y, hy2⟩ : ∃ y, b.getD k o0 = y := ⟨_, rfl⟩
          have ex : a.getD (i : Int).toNat (0, 0, 0, 0, 0, (0, 0, 0), 0, 0) = x := hx
          have ey : b.getD (k : Int).toNat (0, 0, 0, 0, 0, (0, 0, 0), 0, 0) = y := hy2
          rw [ex, ey]
          simp only [eq_comp, ne_comp]
          (repeat' (with_reducible (first | refine And.intro ?_ ?_ | intro _))) <;> (try (first | with_reducible (first | done | assumption | omega | contradiction) | decide))
          · have hq : (x.2.1 = y.2.1 ∧ x.2.2.1 = y.2.2.1) ∧ x ≠ y := by assumption
            rw [dup_out i k (by omega) (by omega) (by rw [hx, hy2]; exact hq.1.1) (by rw [hx, hy2]; exact hq.1.2) (by rw [hx, hy2]; exact hq.2)]
          · have hq : (x.2.1 = y.2.1 ∧ x.2.2.1 = y.2.2.1) ∧ x ≠ y := by assumption
            rw [dup_out i k (by omega) (by omega) (by rw [hx, hy2]; exact hq.1.1) (by rw [hx, hy2]; exact hq.1.2) (by rw [hx, hy2]; exact hq.2)]
          · have hq : (¬x.2.1 = y.2.1 ∨ ¬x.2.2.1 = y.2.2.1) ∨ x = y := by assumption
            refine fin_lp ⟨k + 1, by omega, fun q hq2 h1 h2 => ?_⟩ ?_ (by dsimp only; omega)
            · by_cases e : q = k
              · subst e
                rw [hx, hy2] at h1 h2 ⊢
                rcases hq with (hq | hq) | hq
                · exact absurd h1 hq
                · exact absurd h2 hq
                · exact hq
              · exact hy q (by omega) h1 h2
            · simp only [go_sem]
              try (first | rfl | exact ⟨rfl, rfl⟩ | (and_intros <;> first | rfl | omega))
          · refine fin_lp ⟨i + 1, by omega, fun p hp q hq h1 h2 => ?_⟩ ?_ (by dsimp only; omega)
            · by_cases e : p = i
              · subst e; exact hy q (by omega) h1 h2
              · exact hz p (by omega) q hq h1 h2
            · simp only [go_sem]
              try (first | rfl | exact ⟨rfl, rfl⟩ | (and_intros <;> first | rfl | omega))
      · have nd : NoD a b := fun x hx y hy h1 h2 => by
         obtain ⟨p, hp, rfl⟩ := List.getElem_of_mem hx
         obtain ⟨q, hq, rfl⟩ := List.getElem_of_mem hy
         have := hz p (by omega) q hq
         simp only [List.getD_eq_getElem?_getD, List.getElem?_eq_getElem hp, List.getElem?_eq_getElem hq, Option.getD_some] at this
         exact this h1 h2
        have hmv : mergeV a b = if valV (mg a b) ≠ 0 then ([], valV (mg a b)) else (mg a b, 0) := by
         unfold mergeV
         rw [if_neg (by simp [va]), if_neg (by simp [vb]), if_neg (by rw [noD_iff.2 nd]; exact fun q => by cases q)]
        have hmm := mg_eq_mgR _ a b (Nat.le_refl _) (srt_of va) (srt_of vb) nd
        refine evk_loop ⟨{ q : List Opn × Nat × Nat // q.1 ++ mgR (a.drop q.2.1) (b.drop q.2.2) = mgR a b ∧ q.1.length ≤ q.2.1 + q.2.2 ∧ q.2.1 ≤ a.length ∧ q.2.2 ≤ b.length }, 4000, fun q => [(0, .one (.sl yOP a false)), (1, .one (.sl yOP b false)), (10, .one (.row 72)), (11, .one (.int .i64 q.1.2.1)), (12, .one (.int .i64 q.1.2.2))], fun q => [(72, .row 37 yOP q.1.1)], fun q => (a.length - q.1.2.1) + (b.length - q.1.2.2)⟩ ⟨([], 0, 0), rfl, by simp, by simp, by simp⟩ ?_ ?_
        · simp only [go_sem]
          try (first | rfl | exact ⟨rfl, rfl⟩)
        · rintro ⟨⟨out, i, k⟩, (c1 : out ++ mgR (a.drop i) (b.drop k) = mgR a b), (c2 : out.length ≤ i + k), (c3 : i ≤ a.length), (c4 : k ≤ b.length)⟩
          (simp -implicitDefEqProofs only [go_sem, Bool.not_eq_true', Bool.not_eq_false', Bool.or_eq_true, Bool.or_eq_false_iff, Bool.and_eq_true, Bool.and_eq_false_iff, decide_eq_true_eq, decide_eq_false_iff_not, Classical.not_not, not_or, maxLen, con20, con14, con16, hT, hG, hk, hK, Try.results20]); (try simp (disch := decide +kernel) only [drawn, true_and, and_true])
          obtain ⟨x, hx⟩ : ∃ x, a.getD i o0 = x := ⟨_, rfl⟩
          obtain ⟨y, hy2⟩ : ∃ y, b.getD k o0 = y := ⟨_, rfl⟩
          have ex : a.getD (i : Int).toNat (0, 0, 0, 0, 0, (0, 0, 0), 0, 0) = x := hx
          have ey : b.getD (k : Int).toNat (0, 0, 0, 0, 0, (0, 0, 0), 0, 0) = y := hy2
          rw [ex, ey, hmv]
          have heo : i = a.length → k = b.length → mg a b = out := fun h1 h2 => by
           rw [hmm, ← c1, h1, h2, List.drop_length, List.drop_length]; simp [mgR]
          (repeat' (with_reducible (first | refine And.intro ?_ ?_ | intro _))) <;> (try (first | with_reducible (first | done | assumption | omega | contradiction) | decide))
          · have hq : (k : Int) = b.length ∨ (i : Int) < a.length ∧ bfV x y = true := by assumption
            have hil : i < a.length := by omega
            have hst := mgR_a (a := a) (b := b) (i := i) (k := k) hil (by
             rcases (show k = b.length ∨ k < b.length by omega) with h | h
             · exact .inl h
             · refine .inr ⟨h, ?_⟩
               rw [hx, hy2]
               rcases hq with hq | hq
               · omega
               · exact hq.2)
            refine fin_lp ⟨(out ++ [a.getD i o0], i + 1, k), by dsimp only; rw [← c1, hst]; first | rfl | simp, by dsimp only; simp; omega, by dsimp only; omega, by dsimp only; omega⟩ ?_ (by dsimp only; omega)
            simp only [go_sem]
            rw [← hx]
            try (first | rfl | exact ⟨rfl, rfl⟩ | (and_intros <;> first | rfl | omega))
          · have hq : ¬ (k : Int) = b.length ∧ (¬ (i : Int) < a.length ∨ bfV x y = false) := by assumption
            have hq2 : (i : Int) = a.length ∨ bfV y x = true := by assumption
            have hkl : k < b.length := by omega
            have hst := mgR_b (a := a) (b := b) (i := i) (k := k) hkl (by
             rcases (show i = a.length ∨ i < a.length by omega) with h | h
             · exact .inl h
             · refine .inr ⟨h, ?_, ?_⟩
               · rw [hx, hy2]; rcases hq.2 with hq | hq
                 · omega
                 · exact hq
               · rw [hx, hy2]; rcases hq2 with hq2 | hq2
                 · omega
                 · exact hq2)
            refine fin_lp ⟨(out ++ [b.getD k o0], i, k + 1), by dsimp only; rw [← c1, hst]; first | rfl | simp, by dsimp only; simp; omega, by dsimp only; omega, by dsimp only; omega⟩ ?_ (by dsimp only; omega)
            simp only [go_sem]
            rw [← hy2]
            try (first | rfl | exact ⟨rfl, rfl⟩ | (and_intros <;> first | rfl | omega))
          · have hq : ¬ (k : Int) = b.length ∧ (¬ (i : Int) < a.length ∨ bfV x y = false) := by assumption
            have hq2 : ¬ (i : Int) = a.length ∧ bfV y x = false := by assumption
            have hil : i < a.length := by omega
            have hkl : k < b.length := by omega
            have hst := mgR_ab (a := a) (b := b) (i := i) (k := k) hil hkl (by
             rw [hx, hy2]; rcases hq.2 with hq | hq
             · omega
             · exact hq) (by rw [hx, hy2]; exact hq2.2)
            refine fin_lp ⟨(out ++ [a.getD i o0], i + 1, k + 1), by dsimp only; rw [← c1, hst]; first | rfl | simp, by dsimp only; simp; omega, by dsimp only; omega, by dsimp only; omega⟩ ?_ (by dsimp only; omega)
            simp only [go_sem]
            rw [← hx]
            try (first | rfl | exact ⟨rfl, rfl⟩ | (and_intros <;> first | rfl | omega))
          · have hq : ¬ valV out = 0 := by assumption
            rw [heo (by omega) (by omega), if_pos hq]
          · have hq : ¬ valV out = 0 := by assumption
            rw [heo (by omega) (by omega), if_pos hq]
          · have hq : valV out = 0 := by assumption
            rw [heo (by omega) (by omega), if_neg (fun q => q hq)]
          · have hq : valV out = 0 := by assumption
            rw [heo (by omega) (by omega), if_neg (fun q => q hq)])
end Go.Proofs.Ythiddcobegnokaa
