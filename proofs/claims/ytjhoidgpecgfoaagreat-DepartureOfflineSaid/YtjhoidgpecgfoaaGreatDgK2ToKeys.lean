/- Operations: merging. -/
import Derived.Test.YtjhoidgpecgfoaaGreatDgK1
import Derived.Test.YtjhoidgpecgfoaaGreatEvFun4ToFun5
import Derived.Test.YtjhoidgpecgfoaaGreatEvSimp
import Derived.Shelf.SlIter.Sorted
import Derived.Shelf.SlIter.Collect
set_option linter.unusedSimpArgs false
set_option linter.unusedVariables false
set_option maxRecDepth 100000
set_option maxHeartbeats 8000000
namespace Go.Proofs.YtjhoidgpecgfoaaGreat
open Go.Ev

instance decPce : DecidableEq Pce := instDecidableEqProd
instance dec1 : DecidableEq (Int × Pce) := instDecidableEqProd
instance dec2 : DecidableEq (Int × Int × Pce) := instDecidableEqProd
instance dec3 : DecidableEq (Int × Int × Int × Pce) := instDecidableEqProd
instance dec4 : DecidableEq (Int × Int × Int × Int × Pce) := instDecidableEqProd
instance decOpn : DecidableEq Opn := instDecidableEqProd
def mg : List Opn → List Opn → List Opn
 | [], b => b
 | a, [] => a
 | x :: a, y :: b => if x = y then mg (x :: a) b else if bfV y x = true then y :: mg (x :: a) b else x :: mg a (y :: b)
termination_by a b => a.length + b.length
def dupBm (a b : List Opn) : Bool := decide (∃ x ∈ a, ∃ y ∈ b, x.2.1 = y.2.1 ∧ x.2.2.1 = y.2.2.1 ∧ x ≠ y)
def mergeV (a b : List Opn) : List Opn × Int :=
 if valV a ≠ 0 then ([], valV a) else if valV b ≠ 0 then ([], valV b) else if dupBm a b = true then ([], 5)
 else if valV (mg a b) ≠ 0 then ([], valV (mg a b)) else (mg a b, 0)
theorem valV_zero {l : List Opn} (h : valV l = 0) : l.length ≤ 360 ∧ ∀ k, k < l.length → stepErr l k = 0 := by
 have hl : ¬ 360 < l.length := fun q => by unfold valV at h; rw [if_pos q] at h; cases h
 refine ⟨by omega, fun k => ?_⟩
 induction k using Nat.strongRecOn with
 | _ k ih =>
   intro hk
   by_cases e : stepErr l k = 0
   · exact e
   · rw [← valV_err hl (fun j hj => ih j hj (by omega)) hk e]; exact h
theorem uniq_name {l : List Opn} (h : valV l = 0) {x y : Opn} (hx : x ∈ l) (hy : y ∈ l) (h1 : x.2.1 = y.2.1) (h2 : x.2.2.1 = y.2.2.1) : x = y := by
 obtain ⟨_, hz⟩ := valV_zero h
 obtain ⟨i, hi, rfl⟩ := List.getElem_of_mem hx
 obtain ⟨j, hj, rfl⟩ := List.getElem_of_mem hy
 have gi : l.getD i o0 = l[i] := by simp [hi]
 have gj : l.getD j o0 = l[j] := by simp [hj]
 rcases Nat.lt_trichotomy i j with e | e | e
 · have := (stepErr_zero (hz j hj)).2.2 i e
   rw [gi, gj] at this
   have := this h1
   omega
 · subst e; rfl
 · have := (stepErr_zero (hz i hi)).2.2 j e
   rw [gi, gj] at this
   have := this h1.symm
   omega
abbrev KT : Ty := .pair (.int .i64) (.int .i64)
def knS (m : List ((Int × Int) × Opn)) (o : Opn) : List ((Int × Int) × Opn) := mset (kt := KT) m (o.2.1, o.2.2.1) o
def knM (l : List Opn) : List ((Int × Int) × Opn) := l.foldl knS []
theorem knS_get (m : List ((Int × Int) × Opn)) (o : Opn) (k : Int × Int) : mget (kt := KT) (knS m o) k = if k = (o.2.1, o.2.2.1) then some o else mget (kt := KT) m k := by
 have ke : ∀ p q : Int × Int, keyEq KT p q = decide (p = q) := fun p q => by
  obtain ⟨p1, p2⟩ := p; obtain ⟨q1, q2⟩ := q
  rw [Bool.eq_iff_iff]; simp [keyEq]
 unfold knS
 induction m with
 | nil => simp [mset, mget, ke]
 | cons p m ih =>
   obtain ⟨j, v⟩ := p
   simp only [mset, ke, decide_eq_true_eq]
   by_cases h1 : (o.2.1, o.2.2.1) = j
   · subst h1
     simp only [if_true, mget, ke, decide_eq_true_eq]
     by_cases h2 : k = (o.2.1, o.2.2.1) <;> simp [h2]
   · simp only [if_neg h1, mget, ke, decide_eq_true_eq, ih]
     by_cases h2 : k = j
     · subst h2
       rw [if_pos rfl, if_neg (fun q => h1 q.symm), if_pos rfl]
     · simp [h2]
theorem knM_snoc (l : List Opn) (o : Opn) : knM (l ++ [o]) = knS (knM l) o := by simp [knM]
theorem knM_some (l : List Opn) (k : Int × Int) (o : Opn) : mget (kt := KT) (knM l) k = some o → o ∈ l ∧ o.2.1 = k.1 ∧ o.2.2.1 = k.2 := by
 refine snoc_ind (P := fun l => mget (kt := KT) (knM l) k = some o → o ∈ l ∧ o.2.1 = k.1 ∧ o.2.2.1 = k.2) ?_ ?_ l
 · intro h; simp [knM, mget] at h
 · intro l x ih h
   rw [knM_snoc, knS_get] at h
   split at h
   · rename_i e
     cases h; subst e
     exact ⟨by simp, rfl, rfl⟩
   · obtain ⟨h1, h2⟩ := ih h
     exact ⟨by simp [h1], h2⟩
theorem knM_none (l : List Opn) (k : Int × Int) : mget (kt := KT) (knM l) k = none → ∀ o ∈ l, ¬ (o.2.1 = k.1 ∧ o.2.2.1 = k.2) := by
 refine snoc_ind (P := fun l => mget (kt := KT) (knM l) k = none → ∀ o ∈ l, ¬ (o.2.1 = k.1 ∧ o.2.2.1 = k.2)) ?_ ?_ l
 · intro h o ho; cases ho
 · intro l x ih h o ho hq
   rw [knM_snoc, knS_get] at h
   split at h
   · cases h
   · rename_i e
     rcases List.mem_append.1 ho with h1 | h1
     · exact ih h o h1 hq
     · rw [List.mem_singleton] at h1
       subst h1
       exact e (by obtain ⟨k1, k2⟩ := k; simp only at hq; rw [hq.1, hq.2])
theorem ne_comp (x o : Opn) : (¬x.1 = o.1 ∨ ¬x.2.1 = o.2.1 ∨ ¬x.2.2.1 = o.2.2.1 ∨ ¬x.2.2.2.1 = o.2.2.2.1 ∨ ¬x.2.2.2.2.1 = o.2.2.2.2.1 ∨ ¬x.2.2.2.2.2.1.1 = o.2.2.2.2.2.1.1 ∨ ¬x.2.2.2.2.2.1.2.1 = o.2.2.2.2.2.1.2.1 ∨ ¬x.2.2.2.2.2.1.2.2 = o.2.2.2.2.2.1.2.2 ∨ ¬x.2.2.2.2.2.2.1 = o.2.2.2.2.2.2.1 ∨ ¬x.2.2.2.2.2.2.2 = o.2.2.2.2.2.2.2) ↔ x ≠ o := by
 obtain ⟨a, b, c, d, e, ⟨f1, f2, f3⟩, f4, f5⟩ := x
 obtain ⟨a', b', c', d', e', ⟨f1', f2', f3'⟩, f4', f5'⟩ := o
 simp only [ne_eq, Prod.mk.injEq]
 omega
theorem eq_comp (x o : Opn) : (x.1 = o.1 ∧ x.2.1 = o.2.1 ∧ x.2.2.1 = o.2.2.1 ∧ x.2.2.2.1 = o.2.2.2.1 ∧ x.2.2.2.2.1 = o.2.2.2.2.1 ∧ x.2.2.2.2.2.1.1 = o.2.2.2.2.2.1.1 ∧ x.2.2.2.2.2.1.2.1 = o.2.2.2.2.2.1.2.1 ∧ x.2.2.2.2.2.1.2.2 = o.2.2.2.2.2.1.2.2 ∧ x.2.2.2.2.2.2.1 = o.2.2.2.2.2.2.1 ∧ x.2.2.2.2.2.2.2 = o.2.2.2.2.2.2.2) ↔ x = o := by
 obtain ⟨a, b, c, d, e, ⟨f1, f2, f3⟩, f4, f5⟩ := x
 obtain ⟨a', b', c', d', e', ⟨f1', f2', f3'⟩, f4', f5'⟩ := o
 simp only [Prod.mk.injEq]
 omega
theorem mg_nil_l {u v : List Opn} (h : u.length = 0) : mg u v = v := by
 rw [List.eq_nil_of_length_eq_zero h]; simp [mg]
theorem mg_nil_r {u v : List Opn} (h : v.length = 0) : mg u v = u := by
 rw [List.eq_nil_of_length_eq_zero h]
 cases u <;> simp [mg]
theorem mg_cons {u v : List Opn} {x y z : Opn} (h1 : ¬ u.length = 0) (h2 : ¬ v.length = 0) (hx : u.getD 0 z = x) (hy : v.getD 0 z = y) :
 mg u v = (if x = y then mg u v.tail else if bfV y x = true then y :: mg u v.tail else x :: mg u.tail v) ∧ u.length = u.tail.length + 1 ∧ v.length = v.tail.length + 1 := by
 match u, v, h1, h2 with
 | a :: u, b :: v, _, _ =>
   simp at hx hy
   subst hx; subst hy
   refine ⟨?_, by simp, by simp⟩
   conv => lhs; unfold mg
   rfl
def con30 : Con := { ps := [.d false (.sl yOP), .d false (.sl yOP)], rs := [.d false (.sl yOP), .d false (.int .i64)], pre := fun _ => True, out := fun (x : List Opn × List Opn × Unit) => ((mergeV x.1 x.2.1).1, (mergeV x.1 x.2.1).2, ()), nw := id }
theorem c30 : CtrOk Tryz.prog 30 con30.ctr :=
 con_sound (G := ⟨[(66, con66.ctr), (87, con87.ctr)], [], [], []⟩) tab_ok (EnvOk.cons c66 has66 (EnvOk.cons c87 has87 EnvOk.nil)) rfl Tryz.func30 rfl con30 680566033193723203839501595650422991795 (by kernel_rfl) (by decide) (by decide) rfl (by decide) rfl (by
  rintro ⟨(a : List Opn), (b : List Opn), _⟩ hpre hwf X hT hG hk hK
  (simp -implicitDefEqProofs only [go_sem, Bool.not_eq_true', Bool.not_eq_false', Bool.or_eq_true, Bool.or_eq_false_iff, Bool.and_eq_true, Bool.and_eq_false_iff, decide_eq_true_eq, decide_eq_false_iff_not, Classical.not_not, not_or, maxLen, con30, con66, con87, con100, hT, hG, hk, hK, Tryz.results30] at hwf ⊢); (try simp (disch := decide +kernel) only [drawn, true_and, and_true])
  refine fun _ => ?_
  refine evk_loop ⟨{ j : Nat // j ≤ 2 ∧ (1 ≤ j → valV a = 0) ∧ (2 ≤ j → valV b = 0) }, 1000, fun j => [(0, .one (.sl yOP a false)), (1, .one (.sl yOP b false)), (20, .one (.row 70)), (21, .one (.int .i64 2)), (22, .one (.int .i64 j.1))], fun j => [(70, .row 34 (.sl yOP) [a, b])], fun j => 2 - j.1⟩ ⟨0, by omega, fun h => by omega, fun h => by omega⟩ ?_ ?_
  · simp only [go_sem]
    exact ⟨rfl, rfl⟩
  · rintro ⟨j, (hj : j ≤ 2), (hva : 1 ≤ j → valV a = 0), (hvb : 2 ≤ j → valV b = 0)⟩
    (simp -implicitDefEqProofs only [go_sem, Bool.not_eq_true', Bool.not_eq_false', Bool.or_eq_true, Bool.or_eq_false_iff, Bool.and_eq_true, Bool.and_eq_false_iff, decide_eq_true_eq, decide_eq_false_iff_not, Classical.not_not, not_or, maxLen, con30, con66, con87, con100, hT, hG, hk, hK, Tryz.results30]); (try simp (disch := decide +kernel) only [drawn, true_and, and_true])
    refine ⟨fun hlt => ?_, fun hge => ?_⟩
    · obtain ⟨M, eM, eV⟩ : ∃ M, [a, b].getD (j : Int).toNat [] = M ∧ ((j = 0 ∧ M = a) ∨ (j = 1 ∧ M = b)) := by
       rcases (by omega : j = 0 ∨ j = 1) with rfl | rfl
       · exact ⟨a, rfl, .inl ⟨rfl, rfl⟩⟩
       · exact ⟨b, rfl, .inr ⟨rfl, rfl⟩⟩
      rw [eM]
      (repeat' (with_reducible (first | refine And.intro ?_ ?_ | intro _))) <;> (try (first | with_reducible (first | done | assumption | omega | contradiction) | decide))
      · have hne : ¬ valV M = 0 := by assumption
        unfold mergeV
        rcases eV with ⟨_, rfl⟩ | ⟨rfl, rfl⟩
        · rw [if_pos hne]
        · rw [if_neg (by simp [hva]), if_pos hne]
      · have hne : ¬ valV M = 0 := by assumption
        unfold mergeV
        rcases eV with ⟨_, rfl⟩ | ⟨rfl, rfl⟩
        · rw [if_pos hne]
        · rw [if_neg (by simp [hva]), if_pos hne]
      · have hz : valV M = 0 := by assumption
        refine fin_lp ⟨j + 1, by omega, fun h => ?_, fun h => ?_⟩ ?_ (by dsimp only; omega)
        · rcases eV with ⟨_, rfl⟩ | ⟨rfl, rfl⟩
          · exact hz
          · exact hva (by omega)
        · rcases eV with ⟨rfl, rfl⟩ | ⟨rfl, rfl⟩
          · omega
          · exact hz
        · simp only [go_sem]
          and_intros <;> first | rfl | omega
    · have va := hva (by omega)
      have vb := hvb (by omega)
      obtain ⟨la, _⟩ := valV_zero va
      obtain ⟨lb, _⟩ := valV_zero vb
      refine fun _ => ?_
      refine evk_loop ⟨{ i : Nat // i ≤ a.length }, 2000, fun i => [(0, .one (.sl yOP a false)), (1, .one (.sl yOP b false)), (9, .one (.map 71)), (33, .one (.sl yOP a false)), (34, .one (.int .i64 a.length)), (35, .one (.int .i64 i.1))], fun i => [(71, .mapb KT yOP true true (knM (a.take i.1)))], fun i => a.length - i.1⟩ ⟨0, by omega⟩ ?_ ?_
      · simp only [go_sem]
        exact ⟨rfl, rfl⟩
      · rintro ⟨i, (hi : i ≤ a.length)⟩
        (simp -implicitDefEqProofs only [go_sem, Bool.not_eq_true', Bool.not_eq_false', Bool.or_eq_true, Bool.or_eq_false_iff, Bool.and_eq_true, Bool.and_eq_false_iff, decide_eq_true_eq, decide_eq_false_iff_not, Classical.not_not, not_or, maxLen, con30, con66, con87, con100, hT, hG, hk, hK, Tryz.results30]); (try simp (disch := decide +kernel) only [drawn, true_and, and_true])
        refine ⟨fun hlt => ?_, fun hge => ?_⟩
        · have hil : i < a.length := by omega
          obtain ⟨o, ho⟩ : ∃ o, a[i] = o := ⟨_, rfl⟩
          have eo : a.getD (i : Int).toNat (0, 0, 0, 0, 0, (0, 0, 0), 0, 0) = o := by rw [← ho]; simp [hil]
          have hst : knM (a.take (i + 1)) = knS (knM (a.take i)) o := by rw [List.take_succ_eq_append_getElem hil, knM_snoc, ho]
          rw [eo]
          refine ⟨⟨by omega, by omega⟩, fun _ _ => ⟨⟨by omega, by omega⟩, ?_⟩⟩
          refine fin_lp ⟨i + 1, by omega⟩ ?_ (by dsimp only; omega)
          simp only [go_sem]
          rw [hst]
          exact ⟨rfl, by omega⟩
        · rw [List.take_of_length_le (by omega)]
          refine fun _ => ?_
          refine evk_loop ⟨{ i : Nat // i ≤ b.length ∧ ∀ q, q < i → ∀ x ∈ a, x.2.1 = (b.getD q o0).2.1 → x.2.2.1 = (b.getD q o0).2.2.1 → x = b.getD q o0 }, 3000, fun i => [(0, .one (.sl yOP a false)), (1, .one (.sl yOP b false)), (9, .one (.map 71)), (47, .one (.sl yOP b false)), (48, .one (.int .i64 b.length)), (49, .one (.int .i64 i.1))], fun i => [(71, .mapb KT yOP true true (knM a))], fun i => b.length - i.1⟩ ⟨0, by omega, fun q hq => by omega⟩ ?_ ?_
          · simp only [go_sem]
            rfl
          · rintro ⟨i, (hi : i ≤ b.length), (hz : ∀ q, q < i → ∀ x ∈ a, x.2.1 = (b.getD q o0).2.1 → x.2.2.1 = (b.getD q o0).2.2.1 → x = b.getD q o0)⟩
            (simp -implicitDefEqProofs only [go_sem, Bool.not_eq_true', Bool.not_eq_false', Bool.or_eq_true, Bool.or_eq_false_iff, Bool.and_eq_true, Bool.and_eq_false_iff, decide_eq_true_eq, decide_eq_false_iff_not, Classical.not_not, not_or, maxLen, con30, con66, con87, con100, hT, hG, hk, hK, Tryz.results30]); (try simp (disch := decide +kernel) only [drawn, true_and, and_true])
            refine ⟨fun hlt => ?_, fun hge => ?_⟩
            · obtain ⟨o, ho⟩ : ∃ o, b.getD i o0 = o := ⟨_, rfl⟩
              have eo : b.getD (i : Int).toNat (0, 0, 0, 0, 0, (0, 0, 0), 0, 0) = o := ho
              rw [eo]
              obtain ⟨g, hg⟩ : ∃ g, mget (kt := KT) (knM a) (o.2.1, o.2.2.1) = g := ⟨_, rfl⟩
              rw [hg]
              obtain ⟨x, hx⟩ : ∃ x, g.getD (0, 0, 0, 0, 0, (0, 0, 0), 0, 0) = x := ⟨_, rfl⟩
              rw [hx]
              simp only [ne_comp, eq_comp]
              have hob : o ∈ b := by rw [← ho]; simp only [List.getD_eq_getElem?_getD]; rw [List.getElem?_eq_getElem (by omega)]; exact List.getElem_mem _
              refine ⟨⟨by omega, by omega⟩, fun _ _ _ => ⟨fun hd => ?_, fun hd => ?_⟩⟩
              · obtain ⟨hd1, hd2⟩ := hd
                have hgx : g = some x := by cases g with | none => cases hd1 | some y => cases hx; rfl
                obtain ⟨hm, h1, h2⟩ := knM_some a _ x (hg.trans hgx)
                have hdup : dupBm a b = true := by
                 unfold dupBm
                 rw [decide_eq_true_eq]
                 exact ⟨x, hm, o, hob, h1, h2, hd2⟩
                unfold mergeV
                rw [if_neg (by simp [va]), if_neg (by simp [vb]), if_pos hdup]
                exact ⟨rfl, rfl⟩
              · have hnx : ∀ x ∈ a, x.2.1 = o.2.1 → x.2.2.1 = o.2.2.1 → x = o := fun y hy h1 h2 => by
                 cases hgc : g with
                 | none => exact absurd ⟨h1, h2⟩ (knM_none a _ (hg.trans hgc) y hy)
                 | some u =>
                   rw [hgc] at hx hd
                   cases hx
                   obtain ⟨hm, k1, k2⟩ := knM_some a _ _ (hg.trans hgc)
                   have := uniq_name va hy hm (h1.trans k1.symm) (h2.trans k2.symm)
                   rcases hd with hd | hd
                   · cases hd
                   · exact this.trans hd
                refine ⟨⟨by omega, by omega⟩, ?_⟩
                refine fin_lp ⟨i + 1, by omega, fun q hq => ?_⟩ ?_ (by dsimp only; omega)
                · by_cases e : q = i
                  · subst e; rw [ho]; exact hnx
                  · exact hz q (by omega)
                · simp only [go_sem]
                  and_intros <;> first | rfl | omega
            · have hdup : dupBm a b = false := by
               unfold dupBm
               rw [decide_eq_false_iff_not]
               rintro ⟨x, hx, y, hy, h1, h2, h3⟩
               obtain ⟨q, hq, rfl⟩ := List.getElem_of_mem hy
               have gq : b.getD q o0 = b[q] := by simp [hq]
               have := hz q (by omega) x hx
               rw [gq] at this
               exact h3 (this h1 h2)
              have hmv : mergeV a b = if valV (mg a b) ≠ 0 then ([], valV (mg a b)) else (mg a b, 0) := by
               unfold mergeV
               rw [if_neg (by simp [va]), if_neg (by simp [vb]), if_neg (by simp [hdup])]
              refine evk_loop ⟨{ q : List Opn × List Opn × List Opn // q.1 ++ mg q.2.1 q.2.2 = mg a b ∧ q.1.length + q.2.1.length + q.2.2.length ≤ a.length + b.length }, 4000, fun q => [(0, .one (.sl yOP q.1.2.1 false)), (1, .one (.sl yOP q.1.2.2 false)), (16, .one (.row 72))], fun q => [(72, .row 81 yOP q.1.1)], fun q => q.1.2.1.length + q.1.2.2.length⟩ ⟨([], a, b), rfl, by simp⟩ ?_ ?_
              · simp only [go_sem]
              · rintro ⟨⟨out, u, v⟩, (c1 : out ++ mg u v = mg a b), (c2 : out.length + u.length + v.length ≤ a.length + b.length)⟩
                (simp -implicitDefEqProofs only [go_sem, Bool.not_eq_true', Bool.not_eq_false', Bool.or_eq_true, Bool.or_eq_false_iff, Bool.and_eq_true, Bool.and_eq_false_iff, decide_eq_true_eq, decide_eq_false_iff_not, Classical.not_not, not_or, maxLen, con30, con66, con87, con100, hT, hG, hk, hK, Tryz.results30]); (try simp (disch := decide +kernel) only [drawn, true_and, and_true])
                obtain ⟨x, hx⟩ : ∃ x, u.getD 0 (0, 0, 0, 0, 0, (0, 0, 0), 0, 0) = x := ⟨_, rfl⟩
                obtain ⟨y, hy⟩ : ∃ y, v.getD 0 (0, 0, 0, 0, 0, (0, 0, 0), 0, 0) = y := ⟨_, rfl⟩
                have d1 : List.drop (Int.toNat 1) (List.take ((u.length : Int)).toNat u) = u.tail := by simp
                have d2 : List.drop (Int.toNat 1) (List.take ((v.length : Int)).toNat v) = v.tail := by simp
                rw [hx, hy, d1, d2]
                simp only [eq_comp, ne_comp]
                rw [hmv]
                (repeat' (with_reducible (first | refine And.intro ?_ ?_ | intro _))) <;> (try (first | with_reducible (first | done | assumption | omega | contradiction) | decide))
                · have e : out ++ v = mg a b := by rw [← c1, mg_nil_l (by omega)]
                  have hq : ¬ valV (out ++ v) = 0 := by assumption
                  rw [← e, if_pos hq]
                · have e : out ++ v = mg a b := by rw [← c1, mg_nil_l (by omega)]
                  have hq : ¬ valV (out ++ v) = 0 := by assumption
                  rw [← e, if_pos hq]
                · have e : out ++ v = mg a b := by rw [← c1, mg_nil_l (by omega)]
                  have hq : valV (out ++ v) = 0 := by assumption
                  rw [← e, if_neg (fun q => q hq)]
                · have e : out ++ v = mg a b := by rw [← c1, mg_nil_l (by omega)]
                  have hq : valV (out ++ v) = 0 := by assumption
                  rw [← e, if_neg (fun q => q hq)]
                · have e : out ++ u = mg a b := by rw [← c1, mg_nil_r (by omega)]
                  have hq : ¬ valV (out ++ u) = 0 := by assumption
                  rw [← e, if_pos hq]
                · have e : out ++ u = mg a b := by rw [← c1, mg_nil_r (by omega)]
                  have hq : ¬ valV (out ++ u) = 0 := by assumption
                  rw [← e, if_pos hq]
                · have e : out ++ u = mg a b := by rw [← c1, mg_nil_r (by omega)]
                  have hq : valV (out ++ u) = 0 := by assumption
                  rw [← e, if_neg (fun q => q hq)]
                · have e : out ++ u = mg a b := by rw [← c1, mg_nil_r (by omega)]
                  have hq : valV (out ++ u) = 0 := by assumption
                  rw [← e, if_neg (fun q => q hq)]
                · obtain ⟨hm, hlu, hlv⟩ := mg_cons (by omega) (by omega) hx hy
                  have hxy : x = y := by assumption
                  refine fin_lp ⟨(out, u, v.tail), ?_, by simp <;> omega⟩ ?_ (by dsimp only; omega)
                  · dsimp only
                    rw [← c1, hm, if_pos hxy]
                  · simp only [go_sem]
                    try (first | rfl | exact ⟨rfl, rfl⟩ | (and_intros <;> first | rfl | omega))
                · obtain ⟨hm, hlu, hlv⟩ := mg_cons (by omega) (by omega) hx hy
                  have hxy : x ≠ y := by assumption
                  have hb : bfV y x = true := by assumption
                  refine fin_lp ⟨(out ++ [y], u, v.tail), ?_, by simp <;> omega⟩ ?_ (by dsimp only; omega)
                  · dsimp only
                    rw [← c1, hm, if_neg hxy, if_pos hb]
                    simp
                  · simp only [go_sem]
                    try (first | rfl | exact ⟨rfl, rfl⟩ | (and_intros <;> first | rfl | omega))
                · obtain ⟨hm, hlu, hlv⟩ := mg_cons (by omega) (by omega) hx hy
                  have hxy : x ≠ y := by assumption
                  have hb0 : bfV y x = false := by assumption
                  have hb : ¬ bfV y x = true := by rw [hb0]; exact fun q => by cases q
                  refine fin_lp ⟨(out ++ [x], u.tail, v), ?_, by simp <;> omega⟩ ?_ (by dsimp only; omega)
                  · dsimp only
                    rw [← c1, hm, if_neg hxy, if_neg hb]
                    simp
                  · simp only [go_sem]
                    try (first | rfl | exact ⟨rfl, rfl⟩ | (and_intros <;> first | rfl | omega))
                · have e : out = mg a b := by rw [← c1, mg_nil_l (by omega), List.eq_nil_of_length_eq_zero (l := v) (by omega), List.append_nil]
                  have hq : ¬ valV (out) = 0 := by assumption
                  rw [← e, if_pos hq]
                · have e : out = mg a b := by rw [← c1, mg_nil_l (by omega), List.eq_nil_of_length_eq_zero (l := v) (by omega), List.append_nil]
                  have hq : ¬ valV (out) = 0 := by assumption
                  rw [← e, if_pos hq]
                · have e : out = mg a b := by rw [← c1, mg_nil_l (by omega), List.eq_nil_of_length_eq_zero (l := v) (by omega), List.append_nil]
                  have hq : valV (out) = 0 := by assumption
                  rw [← e, if_neg (fun q => q hq)]
                · have e : out = mg a b := by rw [← c1, mg_nil_l (by omega), List.eq_nil_of_length_eq_zero (l := v) (by omega), List.append_nil]
                  have hq : valV (out) = 0 := by assumption
                  rw [← e, if_neg (fun q => q hq)])
theorem bfV_trans {x y z : Opn} (h : bfV x y = true) (k : bfV y z = true) : bfV x z = true := by
 unfold bfV at *; rw [decide_eq_true_eq] at *; omega
theorem bfV_tot {x y : Opn} (h : bfV x y = false) (k : bfV y x = false) : x.2.1 = y.2.1 ∧ x.2.2.1 = y.2.2.1 := by
 unfold bfV at *; rw [decide_eq_false_iff_not] at *; omega
end Go.Proofs.YtjhoidgpecgfoaaGreat

/- Operations: places; what stays valid. -/
set_option linter.unusedSimpArgs false
set_option linter.unusedVariables false
set_option maxRecDepth 100000
set_option maxHeartbeats 8000000
namespace Go.Proofs.YtjhoidgpecgfoaaGreat
open Go.Ev

def aboutP (l : List Opn) (p : Plt) : List Opn := l.filter (fun o => decide (o.plate = p))
def placesV (l : List Opn) : List Plc := if valV l ≠ 0 then [] else (sortBy pltC (abK l)).map (fun p => placeV (aboutP l p))
theorem mget_zip (k : Plt) : ∀ (ks : List Plt) (vs : List (List Opn)), ks.length = vs.length → k ∈ ks → mget (kt := yPL) (ks.zip vs) k = some (vs.getD (kidx (kt := yPL) k ks) [])
 | [], _, _, h => by cases h
 | a :: ks, [], h, _ => by simp at h
 | a :: ks, v :: vs, h, hm => by
   simp only [List.zip_cons_cons, mget, kidx]
   by_cases e : k = a
   · rw [if_pos (by rw [pl_eq]; simpa using e), if_pos (by rw [pl_eq]; simpa using e)]; rfl
   · rw [if_neg (by rw [pl_eq]; simpa using e), if_neg (by rw [pl_eq]; simpa using e)]
     rw [mget_zip k ks vs (by simpa using h) ((List.mem_cons.1 hm).resolve_left e)]
     rfl
theorem about_get {l : List Opn} {p : Plt} (h : p ∈ sortBy pltC (abK l)) : mget (kt := yPL) ((abK l).zip (abG l)) p = some (aboutP l p) := by
 have hm := (sortBy_perm pltC (abK l)).mem_iff.1 h
 rw [mget_zip p _ _ (abG_len l).symm hm, abG_at hm]
 rfl
theorem about_ne {l : List Opn} {p : Plt} (h : p ∈ sortBy pltC (abK l)) : aboutP l p ≠ [] := by
 have hm := (sortBy_perm pltC (abK l)).mem_iff.1 h
 obtain ⟨o, ho, e⟩ := (abK_mem p l).1 hm
 exact List.ne_nil_of_mem (List.mem_filter.2 ⟨ho, by simpa using e⟩)
theorem about_len (l : List Opn) (p : Plt) : (aboutP l p).length ≤ l.length := List.length_filter_le _ _
theorem sortBy_len (l : List Opn) : (sortBy pltC (abK l)).length ≤ l.length := by rw [(sortBy_perm _ _).length_eq]; exact abK_len l
def con26 : Con := { ps := [.d false (.sl yOP)], rs := [.d false (.sl yPM)], pre := fun _ => True, out := fun (x : List Opn × Unit) => (placesV x.1, ()), nw := id }
theorem c26 : CtrOk Tryz.prog 26 con26.ctr :=
 con_sound (G := ⟨[(66, con66.ctr), (73, con73.ctr), (74, con74.ctr)], [], [], []⟩) tab_ok (EnvOk.cons c66 has66 (EnvOk.cons c73 has73 (EnvOk.cons c74 has74 EnvOk.nil))) rfl Tryz.func26 rfl con26 984253 (by kernel_rfl) (by decide) (by decide) rfl (by decide) rfl (by
  rintro ⟨(l : List Opn), _⟩ hpre hwf X hT hG hk hK
  (simp -implicitDefEqProofs only [go_sem, Bool.not_eq_true', Bool.not_eq_false', Bool.or_eq_true, Bool.or_eq_false_iff, Bool.and_eq_true, Bool.and_eq_false_iff, decide_eq_true_eq, decide_eq_false_iff_not, Classical.not_not, not_or, maxLen, con26, con66, con73, con74, hT, hG, hk, hK, Tryz.results26] at hwf ⊢)
  refine fun _ => ⟨fun h => ?_, fun h => ?_⟩
  · unfold placesV; rw [if_pos h]
  · obtain ⟨hl, _⟩ := valV_zero h
    have hsl := sortBy_len l
    refine ⟨by omega, fun _ _ => ?_⟩
    refine evk_loop ⟨{ i : Nat // i ≤ (sortBy pltC (abK l)).length }, 1000, fun i => [(3, .one (.map 70)), (5, .one (.row 71)), (16, .one (.sl yPL (sortBy pltC (abK l)) false)), (17, .one (.int .i64 (sortBy pltC (abK l)).length)), (18, .one (.int .i64 i.1))], fun i => [(70, .mapb yPL (.sl yOP) true false ((abK l).zip (abG l))), (71, .row 100 yPM (((sortBy pltC (abK l)).take i.1).map (fun p => placeV (aboutP l p))))], fun i => (sortBy pltC (abK l)).length - i.1⟩ ⟨0, by omega⟩ ?_ ?_
    · simp only [go_sem]
      try (first | rfl | exact ⟨rfl, rfl⟩)
    · rintro ⟨i, (hi : i ≤ (sortBy pltC (abK l)).length)⟩
      (simp -implicitDefEqProofs only [go_sem, Bool.not_eq_true', Bool.not_eq_false', Bool.or_eq_true, Bool.or_eq_false_iff, Bool.and_eq_true, Bool.and_eq_false_iff, decide_eq_true_eq, decide_eq_false_iff_not, Classical.not_not, not_or, maxLen, con26, con66, con73, con74, hT, hG, hk, hK, Tryz.results26])
      refine ⟨fun hlt => ?_, fun hge => ?_⟩
      · have hil : i < (sortBy pltC (abK l)).length := by omega
        obtain ⟨p, hp⟩ : ∃ p, (sortBy pltC (abK l))[i] = p := ⟨_, rfl⟩
        have ep : (sortBy pltC (abK l)).getD (i : Int).toNat (0, 0, 0) = p := by rw [← hp]; simp [hil]
        have hpm : p ∈ sortBy pltC (abK l) := hp ▸ List.getElem_mem hil
        have hlen := about_len l p
        rw [ep]
        have eg : ((mget (kt := yPL) ((abK l).zip (abG l)) (p.1, p.2.1, p.2.2)).getD []) = aboutP l p := by
         rw [show (p.1, p.2.1, p.2.2) = p from rfl, about_get hpm]; rfl
        rw [eg]
        have hst : ((sortBy pltC (abK l)).take (i + 1)).map (fun p => placeV (aboutP l p)) = ((sortBy pltC (abK l)).take i).map (fun p => placeV (aboutP l p)) ++ [placeV (aboutP l p)] := by
         rw [List.take_succ_eq_append_getElem hil, List.map_append, hp]; rfl
        have hml : (((sortBy pltC (abK l)).take i).map (fun p => placeV (aboutP l p))).length ≤ 360 := by simp; omega
        (repeat' (with_reducible (first | refine And.intro ?_ ?_ | intro _))) <;> (try (first | with_reducible (first | done | assumption | omega | contradiction) | decide))
        · exact about_ne hpm
        · refine fin_lp ⟨i + 1, by omega⟩ ?_ (by dsimp only; omega)
          simp only [go_sem]
          rw [hst]
          try (first | rfl | exact ⟨rfl, rfl⟩ | (and_intros <;> first | rfl | omega))
      · unfold placesV
        rw [if_neg (by simp [h]), List.take_of_length_le (by omega)])
def confV (l : List Opn) : List Plt := ((placesV l).filter (fun x => decide (1 < x.2.2.length))).map (fun x => x.1.1)
theorem placesV_len (l : List Opn) : (placesV l).length ≤ 360 := by
 unfold placesV
 split
 · simp
 · rename_i h
   obtain ⟨hl, _⟩ := valV_zero (l := l) (by simpa using h)
   have := sortBy_len l
   simp; omega
def con37 : Con := { ps := [.d false (.sl yOP)], rs := [.d false (.sl yPL)], pre := fun _ => True, out := fun (x : List Opn × Unit) => (confV x.1, ()), nw := id }
theorem c37 : CtrOk Tryz.prog 37 con37.ctr :=
 con_sound (G := ⟨[(26, con26.ctr)], [], [], []⟩) tab_ok (EnvOk.cons c26 has26 EnvOk.nil) rfl Tryz.func37 rfl con37 67501 (by kernel_rfl) (by decide) (by decide) rfl (by decide) rfl (by
  rintro ⟨(l : List Opn), _⟩ hpre hwf X hT hG hk hK
  (simp -implicitDefEqProofs only [go_sem, Bool.not_eq_true', Bool.not_eq_false', Bool.or_eq_true, Bool.or_eq_false_iff, Bool.and_eq_true, Bool.and_eq_false_iff, decide_eq_true_eq, decide_eq_false_iff_not, Classical.not_not, not_or, maxLen, con37, con26, hT, hG, hk, hK, Tryz.results37] at hwf ⊢)
  have hpl := placesV_len l
  refine fun _ _ => ?_
  refine evk_loop ⟨{ i : Nat // i ≤ (placesV l).length }, 1000, fun i => [(3, .one (.row 71)), (7, .one (.sl yPM (placesV l) false)), (8, .one (.int .i64 (placesV l).length)), (9, .one (.int .i64 i.1))], fun i => [(71, .row 65 yPL ((((placesV l).take i.1).filter (fun x => decide (1 < x.2.2.length))).map (fun x => x.1.1)))], fun i => (placesV l).length - i.1⟩ ⟨0, by omega⟩ ?_ ?_
  · simp only [go_sem]
    try (first | rfl | exact ⟨rfl, rfl⟩)
  · rintro ⟨i, (hi : i ≤ (placesV l).length)⟩
    (simp -implicitDefEqProofs only [go_sem, Bool.not_eq_true', Bool.not_eq_false', Bool.or_eq_true, Bool.or_eq_false_iff, Bool.and_eq_true, Bool.and_eq_false_iff, decide_eq_true_eq, decide_eq_false_iff_not, Classical.not_not, not_or, maxLen, con37, con26, hT, hG, hk, hK, Tryz.results37])
    refine ⟨fun hlt => ?_, fun hge => ?_⟩
    · have hil : i < (placesV l).length := by omega
      obtain ⟨p, hp⟩ : ∃ p, (placesV l)[i] = p := ⟨_, rfl⟩
      have ep : ∀ z, (placesV l).getD (i : Int).toNat z = p := fun z => by rw [← hp]; simp [hil]
      simp only [ep]
      have hst : (((placesV l).take (i + 1)).filter (fun x => decide (1 < x.2.2.length))).map (fun x => x.1.1) = (((placesV l).take i).filter (fun x => decide (1 < x.2.2.length))).map (fun x => x.1.1) ++ if 1 < p.2.2.length then [p.1.1] else [] := by
       rw [List.take_succ_eq_append_getElem hil, List.filter_append, List.map_append, hp]
       by_cases q : 1 < p.2.2.length <;> simp [q]
      have hml : ((((placesV l).take i).filter (fun x => decide (1 < x.2.2.length))).map (fun x => x.1.1)).length ≤ 360 := by
       rw [List.length_map]
       exact Nat.le_trans (List.length_filter_le _ _) (by simp; omega)
      (repeat' (with_reducible (first | refine And.intro ?_ ?_ | intro _))) <;> (try (first | with_reducible (first | done | assumption | omega | contradiction) | decide))
      · have hq : (p.2.2.length : Int) > 1 := by assumption
        rw [if_pos (by omega)] at hst
        refine fin_lp ⟨i + 1, by omega⟩ ?_ (by dsimp only; omega)
        simp only [go_sem]
        rw [hst]
        try (first | rfl | exact ⟨rfl, rfl⟩ | (and_intros <;> first | rfl | omega))
      · have hq : ¬ (p.2.2.length : Int) > 1 := by assumption
        rw [if_neg (by omega), List.append_nil] at hst
        refine fin_lp ⟨i + 1, by omega⟩ ?_ (by dsimp only; omega)
        simp only [go_sem]
        rw [hst]
        try (first | rfl | exact ⟨rfl, rfl⟩ | (and_intros <;> first | rfl | omega))
    · unfold confV
      rw [List.take_of_length_le (by omega)])
theorem sorted_unique : ∀ {a b : List Int}, a.Perm b → a.Pairwise (· ≤ ·) → b.Pairwise (· ≤ ·) → a = b
 | [], b, hp, _, _ => (List.nil_perm.1 hp).symm ▸ rfl
 | x :: a, [], hp, _, _ => by have := hp.length_eq; simp at this
 | x :: a, y :: b, hp, ha, hb => by
   rw [List.pairwise_cons] at ha hb
   have e : x = y := by
    have h1 : x ∈ y :: b := hp.subset (List.mem_cons_self ..)
    have h2 : y ∈ x :: a := hp.symm.subset (List.mem_cons_self ..)
    rcases List.mem_cons.1 h1 with h | h
    · exact h
    · rcases List.mem_cons.1 h2 with k | k
      · exact k.symm
      · have := hb.1 x h
        have := ha.1 y k
        omega
   subst e
   rw [sorted_unique (List.Perm.cons_inv hp) ha.2 hb.2]
theorem sortI_perm (l : List Int) : (sortI l).Perm l := List.mergeSort_perm l _
theorem sortI_sorted (l : List Int) : (sortI l).Pairwise (· ≤ ·) := by
 have h := List.pairwise_mergeSort (le := fun x y : Int => decide (x ≤ y)) (fun a b c => by simp; omega) (fun a b => by simp; omega) l
 exact h.imp (fun h => by simpa using h)
abbrev pc3 : Pce := (platesV 3, 10, 0)
abbrev ex1 : Opn := (10, 1, 3, 1, 4, pc3)
abbrev ex2 : Opn := (12, 2, 1, 1, 5, pc3)
abbrev ex3 : Opn := (15, 1, 4, 2, 4, pc3)
abbrev ex4 : Opn := (11, 1, 3, 1, 4, pc3)
theorem sort_one {l : List Opn} {p : Plt} (h : abK l = [p]) : sortBy pltC (abK l) = [p] := by
 rw [h]; exact List.perm_singleton.1 (sortBy_perm pltC [p])
theorem m1 : mergeV [ex2] [ex1] = ([ex1, ex2], 0) := by
 have h : mg [ex2] [ex1] = [ex1, ex2] := by
  rw [mg, if_neg (by decide +kernel), if_pos (by decide +kernel)]; simp [mg]
 unfold mergeV
 rw [h, if_neg (by decide +kernel), if_neg (by decide +kernel), if_neg (by decide +kernel), if_neg (by decide +kernel)]
theorem m2 : mergeV [ex1, ex2] [ex3] = ([ex1, ex2, ex3], 0) := by
 have h : mg [ex1, ex2] [ex3] = [ex1, ex2, ex3] := by
  rw [mg, if_neg (by decide +kernel), if_neg (by decide +kernel), mg, if_neg (by decide +kernel), if_neg (by decide +kernel)]; simp [mg]
 unfold mergeV
 rw [h, if_neg (by decide +kernel), if_neg (by decide +kernel), if_neg (by decide +kernel), if_neg (by decide +kernel)]
theorem m3 : mergeV [ex1] [ex4] = ([], 5) := by
 unfold mergeV
 rw [if_neg (by decide +kernel), if_neg (by decide +kernel), if_pos (by decide +kernel)]
theorem p1 : placesV [ex1, ex2] = [(pc3, 5, [4, 5])] := by
 unfold placesV
 rw [if_neg (by decide +kernel), sort_one (p := platesV 3) (by decide +kernel)]
 have ha : aboutP [ex1, ex2] (platesV 3) = [ex1, ex2] := by decide +kernel
 have ht : trail [ex1, ex2] = [5, 4] := by decide +kernel
 have hs : sortI [5, 4] = [4, 5] := sorted_unique ((sortI_perm _).trans (List.Perm.swap 4 5 [])) (sortI_sorted _) (by decide)
 simp only [List.map_cons, List.map_nil, ha]
 unfold placeV
 rw [ht, hs]
 decide +kernel
theorem p2 : placesV [ex1, ex2, ex3] = [(pc3, 0, [])] := by
 unfold placesV
 rw [if_neg (by decide +kernel), sort_one (p := platesV 3) (by decide +kernel)]
 have ha : aboutP [ex1, ex2, ex3] (platesV 3) = [ex1, ex2, ex3] := by decide +kernel
 have ht : trail [ex1, ex2, ex3] = [] := by decide +kernel
 have hs : sortI [] = [] := (sortI_perm []).eq_nil
 simp only [List.map_cons, List.map_nil, ha]
 unfold placeV
 rw [ht, hs]
 decide +kernel
def Rl (a b : Opn) : Prop := bfV a b = true ∧ (a.2.1 = b.2.1 → a.2.2.1 < b.2.2.1)
structure OkL (l : List Opn) : Prop where
 ok : ∀ o ∈ l, okOp o = true
 pw : l.Pairwise Rl
theorem getD_at {l : List Opn} {i : Nat} (h : i < l.length) : l.getD i o0 = l[i] := by simp [h]
theorem OkL.val {l : List Opn} (h : OkL l) (hl : l.length ≤ 360) : valV l = 0 := by
 refine valV_ok (by omega) fun k hk => stepErr_0 ?_ (fun h0 => ?_) ?_
 · rw [getD_at hk]; exact h.ok _ (List.getElem_mem hk)
 · rw [getD_at hk, getD_at (by omega : k - 1 < l.length)]
   exact (List.pairwise_iff_getElem.1 h.pw (k - 1) k (by omega) hk (by omega)).1
 · rintro ⟨j, hj, h1, h2⟩
   rw [getD_at hk, getD_at (by omega : j < l.length)] at h1 h2
   have := (List.pairwise_iff_getElem.1 h.pw j k (by omega) hk hj).2 h1
   omega
end Go.Proofs.YtjhoidgpecgfoaaGreat

/- Operations: the reference's places. -/
set_option linter.unusedSimpArgs false
set_option linter.unusedVariables false
set_option maxRecDepth 100000
set_option maxHeartbeats 8000000
namespace Go.Proofs.YtjhoidgpecgfoaaGreat
open Go.Ev

theorem ddU_spec (xs : List Int) (hs : xs.Pairwise (· ≤ ·)) : ∀ i, i ≤ xs.length → (ddU xs i).Pairwise (fun a b => cmpV a b < 0) ∧ ∀ x, x ∈ ddU xs i ↔ x ∈ xs.take i
 | 0, _ => by simp [ddU]
 | i + 1, h => by
   obtain ⟨ih1, ih2⟩ := ddU_spec xs hs i (by omega)
   have hi : i < xs.length := by omega
   have g1 : xs.getD i 0 = xs[i] := by simp [hi]
   have ht : xs.take (i + 1) = xs.take i ++ [xs[i]] := List.take_succ_eq_append_getElem hi
   have hle : ∀ x ∈ xs.take i, x ≤ xs.getD (i - 1) 0 ∧ xs.getD (i - 1) 0 ∈ xs.take i := fun x hx => by
    obtain ⟨j, hj, rfl⟩ := List.getElem_of_mem hx
    have hj2 : j < i := by simp at hj; omega
    have g2 : xs.getD (i - 1) 0 = xs[i - 1] := by simp [show i - 1 < xs.length by omega]
    rw [g2, List.getElem_take]
    refine ⟨?_, ?_⟩
    · by_cases e : j = i - 1
      · subst e; exact Int.le_refl _
      · exact List.pairwise_iff_getElem.1 hs j (i - 1) (by omega) (by omega) (by omega)
    · have : (xs.take i)[i - 1]'(by simp; omega) = xs[i - 1] := List.getElem_take
      rw [← this]; exact List.getElem_mem _
   rw [ddU, ht, g1]
   split
   · rename_i e
     rw [List.append_nil]
     refine ⟨ih1, fun x => ?_⟩
     rw [ih2, List.mem_append]
     refine ⟨.inl, fun k => k.elim id fun k => ?_⟩
     have k : x = xs[i] := by simpa using k
     rw [k, e.2]
     have h0 : xs[0]'(by omega) ∈ xs.take i := by
      have : (xs.take i)[0]'(by simp; omega) = xs[0]'(by omega) := List.getElem_take
      rw [← this]; exact List.getElem_mem _
     exact (hle _ h0).2
   · rename_i e
     refine ⟨List.pairwise_append.2 ⟨ih1, by simp, fun x hx y hy => ?_⟩, fun x => by simp only [List.mem_append, ih2]⟩
     have hy : y = xs[i] := by simpa using hy
     subst hy
     have hx2 := (ih2 x).1 hx
     have h3 := hle x hx2
     have hi0 : i ≠ 0 := fun q => by subst q; simp at hx2
     have h4 : xs.getD (i - 1) 0 ≤ xs[i] := by
      have g2 : xs.getD (i - 1) 0 = xs[i - 1] := by simp [show i - 1 < xs.length by omega]
      rw [g2]
      exact List.pairwise_iff_getElem.1 hs (i - 1) i (by omega) (by omega) (by omega)
     have h5 : xs[i] ≠ xs.getD (i - 1) 0 := fun q => e ⟨hi0, q⟩
     rw [cmpV_lt]
     omega
theorem compV_spec (t : List Int) : (compV (sortI t)).Pairwise (fun a b => cmpV a b < 0) ∧ ∀ x, x ∈ compV (sortI t) ↔ x ∈ t := by
 obtain ⟨h1, h2⟩ := ddU_spec (sortI t) (sortI_sorted t) (sortI t).length (Nat.le_refl _)
 refine ⟨h1, fun x => ?_⟩
 unfold compV
 rw [h2, List.take_length]
 exact (sortI_perm t).mem_iff
theorem trail_snoc (m : List Opn) (o : Opn) : trail (m ++ [o]) = if o.kind = 1 then o.box :: trail m else [] := by
 unfold trail
 rw [List.reverse_append, List.reverse_singleton, List.singleton_append, List.takeWhile_cons]
 by_cases h : o.kind = 1
 · simp [h]
 · simp [h]
end Go.Proofs.YtjhoidgpecgfoaaGreat

/- The keys of a map, sorted: contracts of maps.Keys and slices.Sorted. -/
set_option linter.unusedSimpArgs false
set_option linter.unusedVariables false
namespace Go.Ev
open Go.Proofs (encStr)
variable {cx : Cx} {σ : Nat → Value} {N : Nat → Prop} {m : Mem} {w : World} {P : Program}

def bytesOf (s : ByteArray) : List UInt8 := s.data.toList
def sortK (xs : List ByteArray) : List ByteArray := ((xs.map bytesOf).mergeSort leB).map fun l => ⟨l.toArray⟩

structure Raw where
 ctr : Ctr
def keysCtr (tb : TypeId) (g : FuncId) : Ctr := fun avs m fr => match avs with
 | [.one (.map id)] => (match m id with
   | .mapb .. => ⟨True, .one (.fn g [.loc fr 0]), [(fr, .cells tb [.map id])], True⟩
   | _ => bad)
 | _ => bad
def skEff (e : TypeId) (fr : Nat) : Blk → Eff
 | .mapb .str vt false va l => if stq .str vt = true then ⟨l.length ≤ 1000000, .one (.row fr), [(fr, .row e .str (sortK (l.map Prod.fst)))], True⟩ else bad
 | _ => bad
def sortedCtr (g : FuncId) (tb e : TypeId) : Ctr := fun avs m fr => match avs with
 | [.one (.fn g' [.loc i 0])] => (match m i with
   | .cells tb' [.map im] => if g' = g ∧ tb' = tb then skEff e fr (m im) else bad
   | _ => bad)
 | _ => bad

attribute [go_sem] keysCtr sortedCtr skEff stq
end Go.Ev
