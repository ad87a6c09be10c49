/- Operations: merging. -/
import Derived.Test.YthlomeneidophaaGreatMvK1
set_option linter.unusedSimpArgs false
set_option linter.unusedVariables false
set_option maxRecDepth 100000
set_option maxHeartbeats 8000000
namespace Go.Proofs.YthlomeneidophaaGreat
open Go.Ev

instance decPce : DecidableEq Pce := instDecidableEqProd
instance dec1 : DecidableEq (Int × Pce) := instDecidableEqProd
instance dec2 : DecidableEq (Int × Int × Pce) := instDecidableEqProd
instance dec3 : DecidableEq (Int × Int × Int × Pce) := instDecidableEqProd
instance dec4 : DecidableEq (Int × Int × Int × Int × Pce) := instDecidableEqProd
instance decOpn : DecidableEq Opn := instDecidableEqProd
/-- Two lists of operations, united. -/
def mg : List Opn → List Opn → List Opn
 | [], b => b
 | a, [] => a
 | x :: a, y :: b => if x = y then mg (x :: a) b else if bfV y x = true then y :: mg (x :: a) b else x :: mg a (y :: b)
termination_by a b => a.length + b.length
/-- Two different operations with the same name. -/
def dupBm (a b : List Opn) : Bool := decide (∃ x ∈ a, ∃ y ∈ b, x.2.1 = y.2.1 ∧ x.2.2.1 = y.2.2.1 ∧ x ≠ y)
def mergeV (a b : List Opn) : List Opn × Int :=
 if valV a ≠ 0 then ([], valV a) else if valV b ≠ 0 then ([], valV b) else if dupBm a b = true then ([], 5)
 else if valV (mg a b) ≠ 0 then ([], valV (mg a b)) else (mg a b, 0)
theorem valV_zero {l : List Opn} (h : valV l = 0) : l.length ≤ 360 ∧ ∀ k, k < l.length → stepErr l k = 0 := by
 have hl : ¬ 360 < l.length := fun q => by unfold valV at h; rw [if_pos q] at h; cases h
 refine ⟨by omega, fun k => ?_⟩
 induction k using Nat.strongRecOn with
 | _ k ih =>
   intro hk
   by_cases e : stepErr l k = 0
   · exact e
   · rw [← valV_err hl (fun j hj => ih j hj (by omega)) hk e]; exact h
theorem uniq_name {l : List Opn} (h : valV l = 0) {x y : Opn} (hx : x ∈ l) (hy : y ∈ l) (h1 : x.2.1 = y.2.1) (h2 : x.2.2.1 = y.2.2.1) : x = y := by
 obtain ⟨_, hz⟩ := valV_zero h
 obtain ⟨i, hi, rfl⟩ := List.getElem_of_mem hx
 obtain ⟨j, hj, rfl⟩ := List.getElem_of_mem hy
 have gi : l.getD i o0 = l[i] := by simp [hi]
 have gj : l.getD j o0 = l[j] := by simp [hj]
 rcases Nat.lt_trichotomy i j with e | e | e
 · have := (stepErr_zero (hz j hj)).2.2 i e
   rw [gi, gj] at this
   have := this h1
   omega
 · subst e; rfl
 · have := (stepErr_zero (hz i hi)).2.2 j e
   rw [gi, gj] at this
   have := this h1.symm
   omega
/-- The operations by their names. -/
abbrev KT : Ty := .pair (.int .i64) (.int .i64)
def knS (m : List ((Int × Int) × Opn)) (o : Opn) : List ((Int × Int) × Opn) := mset (kt := KT) m (o.2.1, o.2.2.1) o
def knM (l : List Opn) : List ((Int × Int) × Opn) := l.foldl knS []
theorem knS_get (m : List ((Int × Int) × Opn)) (o : Opn) (k : Int × Int) : mget (kt := KT) (knS m o) k = if k = (o.2.1, o.2.2.1) then some o else mget (kt := KT) m k := by
 have ke : ∀ p q : Int × Int, keyEq KT p q = decide (p = q) := fun p q => by
  obtain ⟨p1, p2⟩ := p; obtain ⟨q1, q2⟩ := q
  rw [Bool.eq_iff_iff]; simp [keyEq]
 unfold knS
 induction m with
 | nil => simp [mset, mget, ke]
 | cons p m ih =>
   obtain ⟨j, v⟩ := p
   simp only [mset, ke, decide_eq_true_eq]
   by_cases h1 : (o.2.1, o.2.2.1) = j
   · subst h1
     simp only [if_true, mget, ke, decide_eq_true_eq]
     by_cases h2 : k = (o.2.1, o.2.2.1) <;> simp [h2]
   · simp only [if_neg h1, mget, ke, decide_eq_true_eq, ih]
     by_cases h2 : k = j
     · subst h2
       rw [if_pos rfl, if_neg (fun q => h1 q.symm), if_pos rfl]
     · simp [h2]
theorem knM_snoc (l : List Opn) (o : Opn) : knM (l ++ [o]) = knS (knM l) o := by simp [knM]
theorem knM_some (l : List Opn) (k : Int × Int) (o : Opn) : mget (kt := KT) (knM l) k = some o → o ∈ l ∧ o.2.1 = k.1 ∧ o.2.2.1 = k.2 := by
 refine snoc_ind (P := fun l => mget (kt := KT) (knM l) k = some o → o ∈ l ∧ o.2.1 = k.1 ∧ o.2.2.1 = k.2) ?_ ?_ l
 · intro h; simp [knM, mget] at h
 · intro l x ih h
   rw [knM_snoc, knS_get] at h
   split at h
   · rename_i e
     cases h; subst e
     exact ⟨by simp, rfl, rfl⟩
   · obtain ⟨h1, h2⟩ := ih h
     exact ⟨by simp [h1], h2⟩
theorem knM_none (l : List Opn) (k : Int × Int) : mget (kt := KT) (knM l) k = none → ∀ o ∈ l, ¬ (o.2.1 = k.1 ∧ o.2.2.1 = k.2) := by
 refine snoc_ind (P := fun l => mget (kt := KT) (knM l) k = none → ∀ o ∈ l, ¬ (o.2.1 = k.1 ∧ o.2.2.1 = k.2)) ?_ ?_ l
 · intro h o ho; cases ho
 · intro l x ih h o ho hq
   rw [knM_snoc, knS_get] at h
   split at h
   · cases h
   · rename_i e
     rcases List.mem_append.1 ho with h1 | h1
     · exact ih h o h1 hq
     · rw [List.mem_singleton] at h1
       subst h1
       exact e (by obtain ⟨k1, k2⟩ := k; simp only at hq; rw [hq.1, hq.2])
theorem ne_comp (x o : Opn) : (¬x.1 = o.1 ∨ ¬x.2.1 = o.2.1 ∨ ¬x.2.2.1 = o.2.2.1 ∨ ¬x.2.2.2.1 = o.2.2.2.1 ∨ ¬x.2.2.2.2.1 = o.2.2.2.2.1 ∨ ¬x.2.2.2.2.2.1.1 = o.2.2.2.2.2.1.1 ∨ ¬x.2.2.2.2.2.1.2.1 = o.2.2.2.2.2.1.2.1 ∨ ¬x.2.2.2.2.2.1.2.2 = o.2.2.2.2.2.1.2.2 ∨ ¬x.2.2.2.2.2.2.1 = o.2.2.2.2.2.2.1 ∨ ¬x.2.2.2.2.2.2.2 = o.2.2.2.2.2.2.2) ↔ x ≠ o := by
 obtain ⟨a, b, c, d, e, ⟨f1, f2, f3⟩, f4, f5⟩ := x
 obtain ⟨a', b', c', d', e', ⟨f1', f2', f3'⟩, f4', f5'⟩ := o
 simp only [ne_eq, Prod.mk.injEq]
 omega
theorem eq_comp (x o : Opn) : (x.1 = o.1 ∧ x.2.1 = o.2.1 ∧ x.2.2.1 = o.2.2.1 ∧ x.2.2.2.1 = o.2.2.2.1 ∧ x.2.2.2.2.1 = o.2.2.2.2.1 ∧ x.2.2.2.2.2.1.1 = o.2.2.2.2.2.1.1 ∧ x.2.2.2.2.2.1.2.1 = o.2.2.2.2.2.1.2.1 ∧ x.2.2.2.2.2.1.2.2 = o.2.2.2.2.2.1.2.2 ∧ x.2.2.2.2.2.2.1 = o.2.2.2.2.2.2.1 ∧ x.2.2.2.2.2.2.2 = o.2.2.2.2.2.2.2) ↔ x = o := by
 obtain ⟨a, b, c, d, e, ⟨f1, f2, f3⟩, f4, f5⟩ := x
 obtain ⟨a', b', c', d', e', ⟨f1', f2', f3'⟩, f4', f5'⟩ := o
 simp only [Prod.mk.injEq]
 omega
theorem mg_nil_l {u v : List Opn} (h : u.length = 0) : mg u v = v := by
 rw [List.eq_nil_of_length_eq_zero h]; simp [mg]
theorem mg_nil_r {u v : List Opn} (h : v.length = 0) : mg u v = u := by
 rw [List.eq_nil_of_length_eq_zero h]
 cases u <;> simp [mg]
theorem mg_cons {u v : List Opn} {x y z : Opn} (h1 : ¬ u.length = 0) (h2 : ¬ v.length = 0) (hx : u.getD 0 z = x) (hy : v.getD 0 z = y) :
 mg u v = (if x = y then mg u v.tail else if bfV y x = true then y :: mg u v.tail else x :: mg u.tail v) ∧ u.length = u.tail.length + 1 ∧ v.length = v.tail.length + 1 := by
 match u, v, h1, h2 with
 | a :: u, b :: v, _, _ =>
   simp at hx hy
   subst hx; subst hy
   refine ⟨?_, by simp, by simp⟩
   conv => lhs; unfold mg
   rfl
def con13 : Con := { ps := [.d false (.sl yOP), .d false (.sl yOP)], rs := [.d false (.sl yOP), .d false (.int .i64)], pre := fun _ => True, out := fun (x : List Opn × List Opn × Unit) => ((mergeV x.1 x.2.1).1, (mergeV x.1 x.2.1).2, ()), nw := id }
theorem c13 : CtrOk Tryz.prog 13 con13.ctr :=
 con_sound (G := ⟨[(17, con17.ctr), (37, con37.ctr)], [], [], []⟩) tab_ok (EnvOk.cons c17 has17 (EnvOk.cons c37 has37 EnvOk.nil)) rfl Tryz.func13 rfl con13 680566033193723203839501595650422991795 (by kernel_rfl) (by decide) (by decide) rfl (by decide) rfl (by
  rintro ⟨(a : List Opn), (b : List Opn), _⟩ hpre hwf X hT hG hk hK
  (simp -implicitDefEqProofs only [go_sem, Bool.not_eq_true', Bool.not_eq_false', Bool.or_eq_true, Bool.or_eq_false_iff, Bool.and_eq_true, Bool.and_eq_false_iff, decide_eq_true_eq, decide_eq_false_iff_not, Classical.not_not, not_or, maxLen, con13, con17, con37, con42, hT, hG, hk, hK, Tryz.results13] at hwf ⊢); (try simp (disch := decide +kernel) only [drawn, true_and, and_true])
  refine fun _ => ?_
  refine evk_loop ⟨{ j : Nat // j ≤ 2 ∧ (1 ≤ j → valV a = 0) ∧ (2 ≤ j → valV b = 0) }, 1000, fun j => [(0, .one (.sl yOP a false)), (1, .one (.sl yOP b false)), (20, .one (.row 70)), (21, .one (.int .i64 2)), (22, .one (.int .i64 j.1))], fun j => [(70, .row 31 (.sl yOP) [a, b])], fun j => 2 - j.1⟩ ⟨0, by omega, fun h => by omega, fun h => by omega⟩ ?_ ?_
  · simp only [go_sem]
    exact ⟨rfl, rfl⟩
  · rintro ⟨j, (hj : j ≤ 2), (hva : 1 ≤ j → valV a = 0), (hvb : 2 ≤ j → valV b = 0)⟩
    (simp -implicitDefEqProofs only [go_sem, Bool.not_eq_true', Bool.not_eq_false', Bool.or_eq_true, Bool.or_eq_false_iff, Bool.and_eq_true, Bool.and_eq_false_iff, decide_eq_true_eq, decide_eq_false_iff_not, Classical.not_not, not_or, maxLen, con13, con17, con37, con42, hT, hG, hk, hK, Tryz.results13]); (try simp (disch := decide +kernel) only [drawn, true_and, and_true])
    refine ⟨fun hlt => ?_, fun hge => ?_⟩
    · obtain ⟨M, eM, eV⟩ : ∃ M, [a, b].getD (j : Int).toNat [] = M ∧ ((j = 0 ∧ M = a) ∨ (j = 1 ∧ M = b)) := by
       rcases (by omega : j = 0 ∨ j = 1) with rfl | rfl
       · exact ⟨a, rfl, .inl ⟨rfl, rfl⟩⟩
       · exact ⟨b, rfl, .inr ⟨rfl, rfl⟩⟩
      rw [eM]
      (repeat' (with_reducible (first | refine And.intro ?_ ?_ | intro _))) <;> (try (first | with_reducible (first | done | assumption | omega | contradiction) | decide))
      · have hne : ¬ valV M = 0 := by assumption
        unfold mergeV
        rcases eV with ⟨_, rfl⟩ | ⟨rfl, rfl⟩
        · rw [if_pos hne]
        · rw [if_neg (by simp [hva]), if_pos hne]
      · have hne : ¬ valV M = 0 := by assumption
        unfold mergeV
        rcases eV with ⟨_, rfl⟩ | ⟨rfl, rfl⟩
        · rw [if_pos hne]
        · rw [if_neg (by simp [hva]), if_pos hne]
      · have hz : valV M = 0 := by assumption
        refine fin_lp ⟨j + 1, by omega, fun h => ?_, fun h => ?_⟩ ?_ (by dsimp only; omega)
        · rcases eV with ⟨_, rfl⟩ | ⟨rfl, rfl⟩
          · exact hz
          · exact hva (by omega)
        · rcases eV with ⟨rfl, rfl⟩ | ⟨rfl, rfl⟩
          · omega
          · exact hz
        · simp only [go_sem]
          and_intros <;> first | rfl | omega
    · have va := hva (by omega)
      have vb := hvb (by omega)
      obtain ⟨la, _⟩ := valV_zero va
      obtain ⟨lb, _⟩ := valV_zero vb
      refine fun _ => ?_
      refine evk_loop ⟨{ i : Nat // i ≤ a.length }, 2000, fun i => [(0, .one (.sl yOP a false)), (1, .one (.sl yOP b false)), (9, .one (.map 71)), (33, .one (.sl yOP a false)), (34, .one (.int .i64 a.length)), (35, .one (.int .i64 i.1))], fun i => [(71, .mapb KT yOP true true (knM (a.take i.1)))], fun i => a.length - i.1⟩ ⟨0, by omega⟩ ?_ ?_
      · simp only [go_sem]
        exact ⟨rfl, rfl⟩
      · rintro ⟨i, (hi : i ≤ a.length)⟩
        (simp -implicitDefEqProofs only [go_sem, Bool.not_eq_true', Bool.not_eq_false', Bool.or_eq_true, Bool.or_eq_false_iff, Bool.and_eq_true, Bool.and_eq_false_iff, decide_eq_true_eq, decide_eq_false_iff_not, Classical.not_not, not_or, maxLen, con13, con17, con37, con42, hT, hG, hk, hK, Tryz.results13]); (try simp (disch := decide +kernel) only [drawn, true_and, and_true])
        refine ⟨fun hlt => ?_, fun hge => ?_⟩
        · have hil : i < a.length := by omega
          obtain ⟨o, ho⟩ : ∃ o, a[i] = o := ⟨_, rfl⟩
          have eo : a.getD (i : Int).toNat (0, 0, 0, 0, 0, (0, 0, 0), 0, 0) = o := by rw [← ho]; simp [hil]
          have hst : knM (a.take (i + 1)) = knS (knM (a.take i)) o := by rw [List.take_succ_eq_append_getElem hil, knM_snoc, ho]
          rw [eo]
          refine ⟨⟨by omega, by omega⟩, fun _ _ => ⟨⟨by omega, by omega⟩, ?_⟩⟩
          refine fin_lp ⟨i + 1, by omega⟩ ?_ (by dsimp only; omega)
          simp only [go_sem]
          rw [hst]
          exact ⟨rfl, by omega⟩
        · rw [List.take_of_length_le (by omega)]
          refine fun _ => ?_
          refine evk_loop ⟨{ i : Nat // i ≤ b.length ∧ ∀ q, q < i → ∀ x ∈ a, x.2.1 = (b.getD q o0).2.1 → x.2.2.1 = (b.getD q o0).2.2.1 → x = b.getD q o0 }, 3000, fun i => [(0, .one (.sl yOP a false)), (1, .one (.sl yOP b false)), (9, .one (.map 71)), (47, .one (.sl yOP b false)), (48, .one (.int .i64 b.length)), (49, .one (.int .i64 i.1))], fun i => [(71, .mapb KT yOP true true (knM a))], fun i => b.length - i.1⟩ ⟨0, by omega, fun q hq => by omega⟩ ?_ ?_
          · simp only [go_sem]
            rfl
          · rintro ⟨i, (hi : i ≤ b.length), (hz : ∀ q, q < i → ∀ x ∈ a, x.2.1 = (b.getD q o0).2.1 → x.2.2.1 = (b.getD q o0).2.2.1 → x = b.getD q o0)⟩
            (simp -implicitDefEqProofs only [go_sem, Bool.not_eq_true', Bool.not_eq_false', Bool.or_eq_true, Bool.or_eq_false_iff, Bool.and_eq_true, Bool.and_eq_false_iff, decide_eq_true_eq, decide_eq_false_iff_not, Classical.not_not, not_or, maxLen, con13, con17, con37, con42, hT, hG, hk, hK, Tryz.results13]); (try simp (disch := decide +kernel) only [drawn, true_and, and_true])
            refine ⟨fun hlt => ?_, fun hge => ?_⟩
            · obtain ⟨o, ho⟩ : ∃ o, b.getD i o0 = o := ⟨_, rfl⟩
              have eo : b.getD (i : Int).toNat (0, 0, 0, 0, 0, (0, 0, 0), 0, 0) = o := ho
              rw [eo]
              obtain ⟨g, hg⟩ : ∃ g, mget (kt := KT) (knM a) (o.2.1, o.2.2.1) = g := ⟨_, rfl⟩
              rw [hg]
              obtain ⟨x, hx⟩ : ∃ x, g.getD (0, 0, 0, 0, 0, (0, 0, 0), 0, 0) = x := ⟨_, rfl⟩
              rw [hx]
              simp only [ne_comp, eq_comp]
              have hob : o ∈ b := by rw [← ho]; simp only [List.getD_eq_getElem?_getD]; rw [List.getElem?_eq_getElem (by omega)]; exact List.getElem_mem _
              refine ⟨⟨by omega, by omega⟩, fun _ _ _ => ⟨fun hd => ?_, fun hd => ?_⟩⟩
              · obtain ⟨hd1, hd2⟩ := hd
                have hgx : g = some x := by cases g with | none => cases hd1 | some y => cases hx; rfl
                obtain ⟨hm, h1, h2⟩ := knM_some a _ x (hg.trans hgx)
                have hdup : dupBm a b = true := by
                 unfold dupBm
                 rw [decide_eq_true_eq]
                 exact ⟨x, hm, o, hob, h1, h2, hd2⟩
                unfold mergeV
                rw [if_neg (by simp [va]), if_neg (by simp [vb]), if_pos hdup]
                exact ⟨rfl, rfl⟩
              · have hnx : ∀ x ∈ a, x.2.1 = o.2.1 → x.2.2.1 = o.2.2.1 → x = o := fun y hy h1 h2 => by
                 cases hgc : g with
                 | none => exact absurd ⟨h1, h2⟩ (knM_none a _ (hg.trans hgc) y hy)
                 | some u =>
                   rw [hgc] at hx hd
                   cases hx
                   obtain ⟨hm, k1, k2⟩ := knM_some a _ _ (hg.trans hgc)
                   have := uniq_name va hy hm (h1.trans k1.symm) (h2.trans k2.symm)
                   rcases hd with hd | hd
                   · cases hd
                   · exact this.trans hd
                refine ⟨⟨by omega, by omega⟩, ?_⟩
                refine fin_lp ⟨i + 1, by omega, fun q hq => ?_⟩ ?_ (by dsimp only; omega)
                · by_cases e : q = i
                  · subst e; rw [ho]; exact hnx
                  · exact hz q (by omega)
                · simp only [go_sem]
                  and_intros <;> first | rfl | omega
            · have hdup : dupBm a b = false := by
               unfold dupBm
               rw [decide_eq_false_iff_not]
               rintro ⟨x, hx, y, hy, h1, h2, h3⟩
               obtain ⟨q, hq, rfl⟩ := List.getElem_of_mem hy
               have gq : b.getD q o0 = b[q] := by simp [hq]
               have := hz q (by omega) x hx
               rw [gq] at this
               exact h3 (this h1 h2)
              have hmv : mergeV a b = if valV (mg a b) ≠ 0 then ([], valV (mg a b)) else (mg a b, 0) := by
               unfold mergeV
               rw [if_neg (by simp [va]), if_neg (by simp [vb]), if_neg (by simp [hdup])]
              refine evk_loop ⟨{ q : List Opn × List Opn × List Opn // q.1 ++ mg q.2.1 q.2.2 = mg a b ∧ q.1.length + q.2.1.length + q.2.2.length ≤ a.length + b.length }, 4000, fun q => [(0, .one (.sl yOP q.1.2.1 false)), (1, .one (.sl yOP q.1.2.2 false)), (16, .one (.row 72))], fun q => [(72, .row 50 yOP q.1.1)], fun q => q.1.2.1.length + q.1.2.2.length⟩ ⟨([], a, b), rfl, by simp⟩ ?_ ?_
              · simp only [go_sem]
              · rintro ⟨⟨out, u, v⟩, (c1 : out ++ mg u v = mg a b), (c2 : out.length + u.length + v.length ≤ a.length + b.length)⟩
                (simp -implicitDefEqProofs only [go_sem, Bool.not_eq_true', Bool.not_eq_false', Bool.or_eq_true, Bool.or_eq_false_iff, Bool.and_eq_true, Bool.and_eq_false_iff, decide_eq_true_eq, decide_eq_false_iff_not, Classical.not_not, not_or, maxLen, con13, con17, con37, con42, hT, hG, hk, hK, Tryz.results13]); (try simp (disch := decide +kernel) only [drawn, true_and, and_true])
                obtain ⟨x, hx⟩ : ∃ x, u.getD 0 (0, 0, 0, 0, 0, (0, 0, 0), 0, 0) = x := ⟨_, rfl⟩
                obtain ⟨y, hy⟩ : ∃ y, v.getD 0 (0, 0, 0, 0, 0, (0, 0, 0), 0, 0) = y := ⟨_, rfl⟩
                have d1 : List.drop (Int.toNat 1) (List.take ((u.length : Int)).toNat u) = u.tail := by simp
                have d2 : List.drop (Int.toNat 1) (List.take ((v.length : Int)).toNat v) = v.tail := by simp
                rw [hx, hy, d1, d2]
                simp only [eq_comp, ne_comp]
                rw [hmv]
                (repeat' (with_reducible (first | refine And.intro ?_ ?_ | intro _))) <;> (try (first | with_reducible (first | done | assumption | omega | contradiction) | decide))
                · have e : out ++ v = mg a b := by rw [← c1, mg_nil_l (by omega)]
                  have hq : ¬ valV (out ++ v) = 0 := by assumption
                  rw [← e, if_pos hq]
                · have e : out ++ v = mg a b := by rw [← c1, mg_nil_l (by omega)]
                  have hq : ¬ valV (out ++ v) = 0 := by assumption
                  rw [← e, if_pos hq]
                · have e : out ++ v = mg a b := by rw [← c1, mg_nil_l (by omega)]
                  have hq : valV (out ++ v) = 0 := by assumption
                  rw [← e, if_neg (fun q => q hq)]
                · have e : out ++ v = mg a b := by rw [← c1, mg_nil_l (by omega)]
                  have hq : valV (out ++ v) = 0 := by assumption
                  rw [← e, if_neg (fun q => q hq)]
                · have e : out ++ u = mg a b := by rw [← c1, mg_nil_r (by omega)]
                  have hq : ¬ valV (out ++ u) = 0 := by assumption
                  rw [← e, if_pos hq]
                · have e : out ++ u = mg a b := by rw [← c1, mg_nil_r (by omega)]
                  have hq : ¬ valV (out ++ u) = 0 := by assumption
                  rw [← e, if_pos hq]
                · have e : out ++ u = mg a b := by rw [← c1, mg_nil_r (by omega)]
                  have hq : valV (out ++ u) = 0 := by assumption
                  rw [← e, if_neg (fun q => q hq)]
                · have e : out ++ u = mg a b := by rw [← c1, mg_nil_r (by omega)]
                  have hq : valV (out ++ u) = 0 := by assumption
                  rw [← e, if_neg (fun q => q hq)]
                · obtain ⟨hm, hlu, hlv⟩ := mg_cons (by omega) (by omega) hx hy
                  have hxy : x = y := by assumption
                  refine fin_lp ⟨(out, u, v.tail), ?_, by simp <;> omega⟩ ?_ (by dsimp only; omega)
                  · dsimp only
                    rw [← c1, hm, if_pos hxy]
                  · simp only [go_sem]
                    try (first | rfl | exact ⟨rfl, rfl⟩ | (and_intros <;> first | rfl | omega))
                · obtain ⟨hm, hlu, hlv⟩ := mg_cons (by omega) (by omega) hx hy
                  have hxy : x ≠ y := by assumption
                  have hb : bfV y x = true := by assumption
                  refine fin_lp ⟨(out ++ [y], u, v.tail), ?_, by simp <;> omega⟩ ?_ (by dsimp only; omega)
                  · dsimp only
                    rw [← c1, hm, if_neg hxy, if_pos hb]
                    simp
                  · simp only [go_sem]
                    try (first | rfl | exact ⟨rfl, rfl⟩ | (and_intros <;> first | rfl | omega))
                · obtain ⟨hm, hlu, hlv⟩ := mg_cons (by omega) (by omega) hx hy
                  have hxy : x ≠ y := by assumption
                  have hb0 : bfV y x = false := by assumption
                  have hb : ¬ bfV y x = true := by rw [hb0]; exact fun q => by cases q
                  refine fin_lp ⟨(out ++ [x], u.tail, v), ?_, by simp <;> omega⟩ ?_ (by dsimp only; omega)
                  · dsimp only
                    rw [← c1, hm, if_neg hxy, if_neg hb]
                    simp
                  · simp only [go_sem]
                    try (first | rfl | exact ⟨rfl, rfl⟩ | (and_intros <;> first | rfl | omega))
                · have e : out = mg a b := by rw [← c1, mg_nil_l (by omega), List.eq_nil_of_length_eq_zero (l := v) (by omega), List.append_nil]
                  have hq : ¬ valV (out) = 0 := by assumption
                  rw [← e, if_pos hq]
                · have e : out = mg a b := by rw [← c1, mg_nil_l (by omega), List.eq_nil_of_length_eq_zero (l := v) (by omega), List.append_nil]
                  have hq : ¬ valV (out) = 0 := by assumption
                  rw [← e, if_pos hq]
                · have e : out = mg a b := by rw [← c1, mg_nil_l (by omega), List.eq_nil_of_length_eq_zero (l := v) (by omega), List.append_nil]
                  have hq : valV (out) = 0 := by assumption
                  rw [← e, if_neg (fun q => q hq)]
                · have e : out = mg a b := by rw [← c1, mg_nil_l (by omega), List.eq_nil_of_length_eq_zero (l := v) (by omega), List.append_nil]
                  have hq : valV (out) = 0 := by assumption
                  rw [← e, if_neg (fun q => q hq)])
def mgR : List Opn → List Opn → List Opn
 | [], b => b
 | a, [] => a
 | x :: a, y :: b => if bfV x y = true then x :: mgR a (y :: b) else if bfV y x = true then y :: mgR (x :: a) b else x :: mgR a b
termination_by a b => a.length + b.length
theorem bfV_irr (x : Opn) : bfV x x = false := by unfold bfV; rw [decide_eq_false_iff_not]; omega
theorem bfV_asym {x y : Opn} (h : bfV x y = true) : bfV y x = false := by
 unfold bfV at *; rw [decide_eq_true_eq] at h; rw [decide_eq_false_iff_not]; omega
theorem bfV_trans {x y z : Opn} (h : bfV x y = true) (k : bfV y z = true) : bfV x z = true := by
 unfold bfV at *; rw [decide_eq_true_eq] at *; omega
theorem bfV_tot {x y : Opn} (h : bfV x y = false) (k : bfV y x = false) : x.2.1 = y.2.1 ∧ x.2.2.1 = y.2.2.1 := by
 unfold bfV at *; rw [decide_eq_false_iff_not] at *; omega
abbrev Srt (l : List Opn) : Prop := l.Pairwise (fun x y => bfV x y = true)
theorem srt_of {l : List Opn} (h : valV l = 0) : Srt l := by
 obtain ⟨_, hz⟩ := valV_zero h
 refine List.pairwise_iff_getElem.2 ?_
 have key : ∀ n i, (hj : i + n + 1 < l.length) → bfV (l[i]'(by omega)) l[i + n + 1] = true := by
  intro n
  induction n with
  | zero =>
    intro i hj
    have := (stepErr_zero (hz (i + 1) hj)).2.1 (by omega)
    simpa [List.getD_eq_getElem?_getD, hj, show i < l.length by omega] using this
  | succ n ih =>
    intro i hj
    have h1 := ih i (by omega)
    have := (stepErr_zero (hz (i + n + 2) (by omega))).2.1 (by omega)
    have h2 : bfV (l[i + n + 1]'(by omega)) (l[i + n + 2]'(by omega)) = true := by
     simpa [List.getD_eq_getElem?_getD, show i + n + 2 < l.length by omega, show i + n + 1 < l.length by omega] using this
    exact bfV_trans h1 h2
 intro i j hi hj hij
 have := key (j - i - 1) i (by omega)
 simpa [show i + (j - i - 1) + 1 = j by omega] using this
def NoD (a b : List Opn) : Prop := ∀ x ∈ a, ∀ y ∈ b, x.2.1 = y.2.1 → x.2.2.1 = y.2.2.1 → x = y
theorem noD_iff {a b : List Opn} : dupBm a b = false ↔ NoD a b := by
 unfold dupBm NoD
 rw [decide_eq_false_iff_not]
 constructor
 · intro h x hx y hy h1 h2
   exact Classical.byContradiction fun h3 => h ⟨x, hx, y, hy, h1, h2, h3⟩
 · rintro h ⟨x, hx, y, hy, h1, h2, h3⟩
   exact h3 (h x hx y hy h1 h2)
theorem mg_eq_mgR : ∀ (n : Nat) (a b : List Opn), a.length + b.length ≤ n → Srt a → Srt b → NoD a b → mg a b = mgR a b
 | _, [], b, _, _, _, _ => by simp [mg, mgR]
 | _, x :: a, [], _, _, _, _ => by simp [mg, mgR]
 | 0, x :: a, y :: b, h, _, _, _ => by simp at h
 | n + 1, x :: a, y :: b, h, sa, sb, nd => by
   simp only [List.length_cons] at h
   have sa' := (List.pairwise_cons.1 sa)
   have sb' := (List.pairwise_cons.1 sb)
   have n1 : NoD a (y :: b) := fun u hu v hv => nd u (List.mem_cons_of_mem _ hu) v hv
   have n2 : NoD (x :: a) b := fun u hu v hv => nd u hu v (List.mem_cons_of_mem _ hv)
   have n3 : NoD a b := fun u hu v hv => nd u (List.mem_cons_of_mem _ hu) v (List.mem_cons_of_mem _ hv)
   rw [mg, mgR]
   by_cases e : x = y
   · subst e
     rw [if_pos rfl, if_neg (by rw [bfV_irr]; exact fun q => by cases q), if_neg (by rw [bfV_irr]; exact fun q => by cases q)]
     rw [← mg_eq_mgR n a b (by omega) sa'.2 sb'.2 n3]
     cases b with
     | nil => simp [mg]; cases a <;> simp [mg]
     | cons z b =>
       have hz := sb'.1 z (List.mem_cons_self ..)
       rw [mg, if_neg (fun q => by subst q; rw [bfV_irr] at hz; cases hz), if_neg (by rw [bfV_asym hz]; exact fun q => by cases q)]
   · rw [if_neg e]
     by_cases h1 : bfV y x = true
     · rw [if_pos h1, if_neg (by rw [bfV_asym h1]; exact fun q => by cases q), if_pos h1, mg_eq_mgR n (x :: a) b (by simp; omega) sa sb'.2 n2]
     · rw [if_neg h1]
       by_cases h2 : bfV x y = true
       · rw [if_pos h2, mg_eq_mgR n a (y :: b) (by simp; omega) sa'.2 sb n1]
       · obtain ⟨k1, k2⟩ := bfV_tot (by simpa using h2) (by simpa using h1)
         exact absurd (nd x (List.mem_cons_self ..) y (List.mem_cons_self ..) k1 k2) e
end Go.Proofs.YthlomeneidophaaGreat

/- Operations: places; what stays valid. -/
set_option linter.unusedSimpArgs false
set_option linter.unusedVariables false
set_option maxRecDepth 100000
set_option maxHeartbeats 8000000
namespace Go.Proofs.YthlomeneidophaaGreat
open Go.Ev

def aboutP (l : List Opn) (p : Plt) : List Opn := l.filter (fun o => decide (o.plate = p))
def placesV (l : List Opn) : List Plc := if valV l ≠ 0 then [] else (sortBy pltC (abK l)).map (fun p => placeV (aboutP l p))
theorem mget_zip (k : Plt) : ∀ (ks : List Plt) (vs : List (List Opn)), ks.length = vs.length → k ∈ ks → mget (kt := yPL) (ks.zip vs) k = some (vs.getD (kidx (kt := yPL) k ks) [])
 | [], _, _, h => by cases h
 | a :: ks, [], h, _ => by simp at h
 | a :: ks, v :: vs, h, hm => by
   simp only [List.zip_cons_cons, mget, kidx]
   by_cases e : k = a
   · rw [if_pos (by rw [pl_eq]; simpa using e), if_pos (by rw [pl_eq]; simpa using e)]; rfl
   · rw [if_neg (by rw [pl_eq]; simpa using e), if_neg (by rw [pl_eq]; simpa using e)]
     rw [mget_zip k ks vs (by simpa using h) ((List.mem_cons.1 hm).resolve_left e)]
     rfl
theorem about_get {l : List Opn} {p : Plt} (h : p ∈ sortBy pltC (abK l)) : mget (kt := yPL) ((abK l).zip (abG l)) p = some (aboutP l p) := by
 have hm := (sortBy_perm pltC (abK l)).mem_iff.1 h
 rw [mget_zip p _ _ (abG_len l).symm hm, abG_at hm]
 rfl
theorem about_ne {l : List Opn} {p : Plt} (h : p ∈ sortBy pltC (abK l)) : aboutP l p ≠ [] := by
 have hm := (sortBy_perm pltC (abK l)).mem_iff.1 h
 obtain ⟨o, ho, e⟩ := (abK_mem p l).1 hm
 exact List.ne_nil_of_mem (List.mem_filter.2 ⟨ho, by simpa using e⟩)
theorem about_len (l : List Opn) (p : Plt) : (aboutP l p).length ≤ l.length := List.length_filter_le _ _
theorem sortBy_len (l : List Opn) : (sortBy pltC (abK l)).length ≤ l.length := by rw [(sortBy_perm _ _).length_eq]; exact abK_len l
def con39 : Con := { ps := [.d false (.sl yOP)], rs := [.d false (.sl yPM)], pre := fun _ => True, out := fun (x : List Opn × Unit) => (placesV x.1, ()), nw := id }
theorem c39 : CtrOk Tryz.prog 39 con39.ctr :=
 con_sound (G := ⟨[(17, con17.ctr), (60, con60.ctr), (61, con61.ctr)], [], [], []⟩) tab_ok (EnvOk.cons c17 has17 (EnvOk.cons c60 has60 (EnvOk.cons c61 has61 EnvOk.nil))) rfl Tryz.func39 rfl con39 984253 (by kernel_rfl) (by decide) (by decide) rfl (by decide) rfl (by
  rintro ⟨(l : List Opn), _⟩ hpre hwf X hT hG hk hK
  (simp -implicitDefEqProofs only [go_sem, Bool.not_eq_true', Bool.not_eq_false', Bool.or_eq_true, Bool.or_eq_false_iff, Bool.and_eq_true, Bool.and_eq_false_iff, decide_eq_true_eq, decide_eq_false_iff_not, Classical.not_not, not_or, maxLen, con39, con17, con60, con61, hT, hG, hk, hK, Tryz.results39] at hwf ⊢); (try simp (disch := decide +kernel) only [drawn, true_and, and_true])
  refine fun _ => ⟨fun h => ?_, fun h => ?_⟩
  · unfold placesV; rw [if_pos h]
  · obtain ⟨hl, _⟩ := valV_zero h
    have hsl := sortBy_len l
    refine ⟨by omega, fun _ _ => ?_⟩
    refine evk_loop ⟨{ i : Nat // i ≤ (sortBy pltC (abK l)).length }, 1000, fun i => [(3, .one (.map 70)), (5, .one (.row 71)), (16, .one (.sl yPL (sortBy pltC (abK l)) false)), (17, .one (.int .i64 (sortBy pltC (abK l)).length)), (18, .one (.int .i64 i.1))], fun i => [(70, .mapb yPL (.sl yOP) true false ((abK l).zip (abG l))), (71, .row 93 yPM (((sortBy pltC (abK l)).take i.1).map (fun p => placeV (aboutP l p))))], fun i => (sortBy pltC (abK l)).length - i.1⟩ ⟨0, by omega⟩ ?_ ?_
    · simp only [go_sem]
      try (first | rfl | exact ⟨rfl, rfl⟩)
    · rintro ⟨i, (hi : i ≤ (sortBy pltC (abK l)).length)⟩
      (simp -implicitDefEqProofs only [go_sem, Bool.not_eq_true', Bool.not_eq_false', Bool.or_eq_true, Bool.or_eq_false_iff, Bool.and_eq_true, Bool.and_eq_false_iff, decide_eq_true_eq, decide_eq_false_iff_not, Classical.not_not, not_or, maxLen, con39, con17, con60, con61, hT, hG, hk, hK, Tryz.results39]); (try simp (disch := decide +kernel) only [drawn, true_and, and_true])
      refine ⟨fun hlt => ?_, fun hge => ?_⟩
      · have hil : i < (sortBy pltC (abK l)).length := by omega
        obtain ⟨p, hp⟩ : ∃ p, (sortBy pltC (abK l))[i] = p := ⟨_, rfl⟩
        have ep : (sortBy pltC (abK l)).getD (i : Int).toNat (0, 0, 0) = p := by rw [← hp]; simp [hil]
        have hpm : p ∈ sortBy pltC (abK l) := hp ▸ List.getElem_mem hil
        have hlen := about_len l p
        rw [ep]
        have eg : ((mget (kt := yPL) ((abK l).zip (abG l)) (p.1, p.2.1, p.2.2)).getD []) = aboutP l p := by
         rw [show (p.1, p.2.1, p.2.2) = p from rfl, about_get hpm]; rfl
        rw [eg]
        have hst : ((sortBy pltC (abK l)).take (i + 1)).map (fun p => placeV (aboutP l p)) = ((sortBy pltC (abK l)).take i).map (fun p => placeV (aboutP l p)) ++ [placeV (aboutP l p)] := by
         rw [List.take_succ_eq_append_getElem hil, List.map_append, hp]; rfl
        have hml : (((sortBy pltC (abK l)).take i).map (fun p => placeV (aboutP l p))).length ≤ 360 := by simp; omega
        (repeat' (with_reducible (first | refine And.intro ?_ ?_ | intro _))) <;> (try (first | with_reducible (first | done | assumption | omega | contradiction) | decide))
        · exact about_ne hpm
        · refine fin_lp ⟨i + 1, by omega⟩ ?_ (by dsimp only; omega)
          simp only [go_sem]
          rw [hst]
          try (first | rfl | exact ⟨rfl, rfl⟩ | (and_intros <;> first | rfl | omega))
      · unfold placesV
        rw [if_neg (by simp [h]), List.take_of_length_le (by omega)])
def confV (l : List Opn) : List Plt := ((placesV l).filter (fun x => decide (1 < x.2.2.length))).map (fun x => x.1.1)
theorem placesV_len (l : List Opn) : (placesV l).length ≤ 360 := by
 unfold placesV
 split
 · simp
 · rename_i h
   obtain ⟨hl, _⟩ := valV_zero (l := l) (by simpa using h)
   have := sortBy_len l
   simp; omega
def con16 : Con := { ps := [.d false (.sl yOP)], rs := [.d false (.sl yPL)], pre := fun _ => True, out := fun (x : List Opn × Unit) => (confV x.1, ()), nw := id }
theorem c16 : CtrOk Tryz.prog 16 con16.ctr :=
 con_sound (G := ⟨[(39, con39.ctr)], [], [], []⟩) tab_ok (EnvOk.cons c39 has39 EnvOk.nil) rfl Tryz.func16 rfl con16 67501 (by kernel_rfl) (by decide) (by decide) rfl (by decide) rfl (by
  rintro ⟨(l : List Opn), _⟩ hpre hwf X hT hG hk hK
  (simp -implicitDefEqProofs only [go_sem, Bool.not_eq_true', Bool.not_eq_false', Bool.or_eq_true, Bool.or_eq_false_iff, Bool.and_eq_true, Bool.and_eq_false_iff, decide_eq_true_eq, decide_eq_false_iff_not, Classical.not_not, not_or, maxLen, con16, con39, hT, hG, hk, hK, Tryz.results16] at hwf ⊢); (try simp (disch := decide +kernel) only [drawn, true_and, and_true])
  have hpl := placesV_len l
  refine fun _ _ => ?_
  refine evk_loop ⟨{ i : Nat // i ≤ (placesV l).length }, 1000, fun i => [(3, .one (.row 71)), (7, .one (.sl yPM (placesV l) false)), (8, .one (.int .i64 (placesV l).length)), (9, .one (.int .i64 i.1))], fun i => [(71, .row 41 yPL ((((placesV l).take i.1).filter (fun x => decide (1 < x.2.2.length))).map (fun x => x.1.1)))], fun i => (placesV l).length - i.1⟩ ⟨0, by omega⟩ ?_ ?_
  · simp only [go_sem]
    try (first | rfl | exact ⟨rfl, rfl⟩)
  · rintro ⟨i, (hi : i ≤ (placesV l).length)⟩
    (simp -implicitDefEqProofs only [go_sem, Bool.not_eq_true', Bool.not_eq_false', Bool.or_eq_true, Bool.or_eq_false_iff, Bool.and_eq_true, Bool.and_eq_false_iff, decide_eq_true_eq, decide_eq_false_iff_not, Classical.not_not, not_or, maxLen, con16, con39, hT, hG, hk, hK, Tryz.results16]); (try simp (disch := decide +kernel) only [drawn, true_and, and_true])
    refine ⟨fun hlt => ?_, fun hge => ?_⟩
    · have hil : i < (placesV l).length := by omega
      obtain ⟨p, hp⟩ : ∃ p, (placesV l)[i] = p := ⟨_, rfl⟩
      have ep : ∀ z, (placesV l).getD (i : Int).toNat z = p := fun z => by rw [← hp]; simp [hil]
      simp only [ep]
      have hst : (((placesV l).take (i + 1)).filter (fun x => decide (1 < x.2.2.length))).map (fun x => x.1.1) = (((placesV l).take i).filter (fun x => decide (1 < x.2.2.length))).map (fun x => x.1.1) ++ if 1 < p.2.2.length then [p.1.1] else [] := by
       rw [List.take_succ_eq_append_getElem hil, List.filter_append, List.map_append, hp]
       by_cases q : 1 < p.2.2.length <;> simp [q]
      have hml : ((((placesV l).take i).filter (fun x => decide (1 < x.2.2.length))).map (fun x => x.1.1)).length ≤ 360 := by
       rw [List.length_map]
       exact Nat.le_trans (List.length_filter_le _ _) (by simp; omega)
      (repeat' (with_reducible (first | refine And.intro ?_ ?_ | intro _))) <;> (try (first | with_reducible (first | done | assumption | omega | contradiction) | decide))
      · have hq : (p.2.2.length : Int) > 1 := by assumption
        rw [if_pos (by omega)] at hst
        refine fin_lp ⟨i + 1, by omega⟩ ?_ (by dsimp only; omega)
        simp only [go_sem]
        rw [hst]
        try (first | rfl | exact ⟨rfl, rfl⟩ | (and_intros <;> first | rfl | omega))
      · have hq : ¬ (p.2.2.length : Int) > 1 := by assumption
        rw [if_neg (by omega), List.append_nil] at hst
        refine fin_lp ⟨i + 1, by omega⟩ ?_ (by dsimp only; omega)
        simp only [go_sem]
        rw [hst]
        try (first | rfl | exact ⟨rfl, rfl⟩ | (and_intros <;> first | rfl | omega))
    · unfold confV
      rw [List.take_of_length_le (by omega)])
def con43 : Con := { ps := [.d false (.int .i64), .d false (.int .i64), .d false (.int .i64), .d false (.int .i64), .d false (.int .i64)], rs := [.d true yOP], pre := fun _ => True, out := fun x => ((x.1, x.2.1, x.2.2.1, x.2.2.2.1, x.2.2.2.2.1, platesV 3, 10, 0), ()), nw := id }
theorem c43 : CtrOk Tryz.prog 43 con43.ctr :=
 con_sound (G := ⟨[(30, con30.ctr)], [], [], []⟩) tab_ok (EnvOk.cons c30 has30 EnvOk.nil) rfl Tryz.func43 rfl con43 1055 (by kernel_rfl) (by decide) (by decide) rfl (by decide) rfl (by
  rintro ⟨(a : Int), (b : Int), (c : Int), (d : Int), (e : Int), _⟩ hpre hwf X hT hG hk hK
  (simp -implicitDefEqProofs only [go_sem, Bool.not_eq_true', Bool.not_eq_false', Bool.or_eq_true, Bool.or_eq_false_iff, Bool.and_eq_true, Bool.and_eq_false_iff, decide_eq_true_eq, decide_eq_false_iff_not, Classical.not_not, not_or, maxLen, con43, con30, hT, hG, hk, hK, Tryz.results43] at hwf ⊢); (try simp (disch := decide +kernel) only [drawn, true_and, and_true])
  skip)
theorem sorted_unique : ∀ {a b : List Int}, a.Perm b → a.Pairwise (· ≤ ·) → b.Pairwise (· ≤ ·) → a = b
 | [], b, hp, _, _ => (List.nil_perm.1 hp).symm ▸ rfl
 | x :: a, [], hp, _, _ => by have := hp.length_eq; simp at this
 | x :: a, y :: b, hp, ha, hb => by
   rw [List.pairwise_cons] at ha hb
   have e : x = y := by
    have h1 : x ∈ y :: b := hp.subset (List.mem_cons_self ..)
    have h2 : y ∈ x :: a := hp.symm.subset (List.mem_cons_self ..)
    rcases List.mem_cons.1 h1 with h | h
    · exact h
    · rcases List.mem_cons.1 h2 with k | k
      · exact k.symm
      · have := hb.1 x h
        have := ha.1 y k
        omega
   subst e
   rw [sorted_unique (List.Perm.cons_inv hp) ha.2 hb.2]
theorem sortI_perm (l : List Int) : (sortI l).Perm l := List.mergeSort_perm l _
theorem sortI_sorted (l : List Int) : (sortI l).Pairwise (· ≤ ·) := by
 have h := List.pairwise_mergeSort (le := fun x y : Int => decide (x ≤ y)) (fun a b c => by simp; omega) (fun a b => by simp; omega) l
 exact h.imp (fun h => by simpa using h)
abbrev pc3 : Pce := (platesV 3, 10, 0)
abbrev ex1 : Opn := (10, 1, 3, 1, 4, pc3)
abbrev ex2 : Opn := (12, 2, 1, 1, 5, pc3)
abbrev ex3 : Opn := (15, 1, 4, 2, 4, pc3)
abbrev ex4 : Opn := (11, 1, 3, 1, 4, pc3)
theorem sort_one {l : List Opn} {p : Plt} (h : abK l = [p]) : sortBy pltC (abK l) = [p] := by
 rw [h]; exact List.perm_singleton.1 (sortBy_perm pltC [p])
theorem m1 : mergeV [ex2] [ex1] = ([ex1, ex2], 0) := by
 have h : mg [ex2] [ex1] = [ex1, ex2] := by
  rw [mg, if_neg (by decide +kernel), if_pos (by decide +kernel)]; simp [mg]
 unfold mergeV
 rw [h, if_neg (by decide +kernel), if_neg (by decide +kernel), if_neg (by decide +kernel), if_neg (by decide +kernel)]
theorem m2 : mergeV [ex1, ex2] [ex3] = ([ex1, ex2, ex3], 0) := by
 have h : mg [ex1, ex2] [ex3] = [ex1, ex2, ex3] := by
  rw [mg, if_neg (by decide +kernel), if_neg (by decide +kernel), mg, if_neg (by decide +kernel), if_neg (by decide +kernel)]; simp [mg]
 unfold mergeV
 rw [h, if_neg (by decide +kernel), if_neg (by decide +kernel), if_neg (by decide +kernel), if_neg (by decide +kernel)]
theorem m3 : mergeV [ex1] [ex4] = ([], 5) := by
 unfold mergeV
 rw [if_neg (by decide +kernel), if_neg (by decide +kernel), if_pos (by decide +kernel)]
theorem p1 : placesV [ex1, ex2] = [(pc3, 5, [4, 5])] := by
 unfold placesV
 rw [if_neg (by decide +kernel), sort_one (p := platesV 3) (by decide +kernel)]
 have ha : aboutP [ex1, ex2] (platesV 3) = [ex1, ex2] := by decide +kernel
 have ht : trail [ex1, ex2] = [5, 4] := by decide +kernel
 have hs : sortI [5, 4] = [4, 5] := sorted_unique ((sortI_perm _).trans (List.Perm.swap 4 5 [])) (sortI_sorted _) (by decide)
 simp only [List.map_cons, List.map_nil, ha]
 unfold placeV
 rw [ht, hs]
 decide +kernel
theorem p2 : placesV [ex1, ex2, ex3] = [(pc3, 0, [])] := by
 unfold placesV
 rw [if_neg (by decide +kernel), sort_one (p := platesV 3) (by decide +kernel)]
 have ha : aboutP [ex1, ex2, ex3] (platesV 3) = [ex1, ex2, ex3] := by decide +kernel
 have ht : trail [ex1, ex2, ex3] = [] := by decide +kernel
 have hs : sortI [] = [] := (sortI_perm []).eq_nil
 simp only [List.map_cons, List.map_nil, ha]
 unfold placeV
 rw [ht, hs]
 decide +kernel
theorem c1 : confV [ex1, ex2] = [platesV 3] := by unfold confV; rw [p1]; rfl
def con19 : Con := { ps := [], rs := [.d false .bool], pre := fun _ => True, out := fun x => (true, ()), nw := id }
theorem c19 : CtrOk Tryz.prog 19 con19.ctr :=
 con_sound (G := ⟨[(13, con13.ctr), (39, con39.ctr), (16, con16.ctr), (43, con43.ctr)], [], [], []⟩) tab_ok (EnvOk.cons c13 has13 (EnvOk.cons c39 has39 (EnvOk.cons c16 has16 (EnvOk.cons c43 has43 EnvOk.nil)))) rfl Tryz.func19 rfl con19 3071 (by kernel_rfl) (by decide) (by decide) rfl (by decide) rfl (by
  rintro _ hpre hwf X hT hG hk hK
  (simp -implicitDefEqProofs only [go_sem, Bool.not_eq_true', Bool.not_eq_false', Bool.or_eq_true, Bool.or_eq_false_iff, Bool.and_eq_true, Bool.and_eq_false_iff, decide_eq_true_eq, decide_eq_false_iff_not, Classical.not_not, not_or, maxLen, con19, con13, con39, con16, con43, hT, hG, hk, hK, Tryz.results19] at hwf ⊢); (try simp (disch := decide +kernel) only [drawn, true_and, and_true])
  simp only [m1, m2, m3, p1, p2, c1]
  (repeat' (with_reducible (first | refine And.intro ?_ ?_ | intro _))) <;> (try (first | with_reducible (first | done | assumption | omega | contradiction) | decide))
  all_goals try simp only [List.append_eq, List.cons_append, List.nil_append]
  all_goals try
   (simp -implicitDefEqProofs only [go_sem, Bool.not_eq_true', Bool.not_eq_false', Bool.or_eq_true, Bool.or_eq_false_iff, Bool.and_eq_true, Bool.and_eq_false_iff, decide_eq_true_eq, decide_eq_false_iff_not, Classical.not_not, not_or, maxLen, con19, con13, con39, con16, con43, hT, hG, hk, hK, Tryz.results19, m1, m2, m3, p1, p2, c1, List.getD_cons_zero, List.getD_cons_succ]); (try simp (disch := decide +kernel) only [drawn, true_and, and_true])
  (repeat' (with_reducible (first | refine And.intro ?_ ?_ | intro _))) <;> (try (first | with_reducible (first | done | assumption | omega | contradiction) | decide))
  all_goals skip)
def Rl (a b : Opn) : Prop := bfV a b = true ∧ (a.2.1 = b.2.1 → a.2.2.1 < b.2.2.1)
structure OkL (l : List Opn) : Prop where
 ok : ∀ o ∈ l, okOp o = true
 pw : l.Pairwise Rl
theorem getD_at {l : List Opn} {i : Nat} (h : i < l.length) : l.getD i o0 = l[i] := by simp [h]
theorem OkL.val {l : List Opn} (h : OkL l) (hl : l.length ≤ 360) : valV l = 0 := by
 refine valV_ok (by omega) fun k hk => stepErr_0 ?_ (fun h0 => ?_) ?_
 · rw [getD_at hk]; exact h.ok _ (List.getElem_mem hk)
 · rw [getD_at hk, getD_at (by omega : k - 1 < l.length)]
   exact (List.pairwise_iff_getElem.1 h.pw (k - 1) k (by omega) hk (by omega)).1
 · rintro ⟨j, hj, h1, h2⟩
   rw [getD_at hk, getD_at (by omega : j < l.length)] at h1 h2
   have := (List.pairwise_iff_getElem.1 h.pw j k (by omega) hk hj).2 h1
   omega
theorem OkL.of {l : List Opn} (h : valV l = 0) : OkL l := by
 obtain ⟨hl, hz⟩ := valV_zero h
 refine ⟨fun o ho => ?_, List.pairwise_iff_getElem.2 fun i j hi hj hij => ⟨List.pairwise_iff_getElem.1 (srt_of h) i j hi hj hij, fun hd => ?_⟩⟩
 · obtain ⟨i, hi, rfl⟩ := List.getElem_of_mem ho
   have := (stepErr_zero (hz i hi)).1
   rwa [getD_at hi] at this
 · have := (stepErr_zero (hz j hj)).2.2 i hij
   rw [getD_at hi, getD_at hj] at this
   exact this hd
theorem mg_mem (z : Opn) (a b : List Opn) : z ∈ mg a b ↔ z ∈ a ∨ z ∈ b := by
 fun_induction mg a b with
 | case1 => simp
 | case2 => simp
 | case3 a x b ih => rw [ih]; by_cases h1 : z = x <;> by_cases h2 : z ∈ a <;> by_cases h3 : z ∈ b <;> simp [h1, h2, h3]
 | case4 x a y b h1 h2 ih => simp only [List.mem_cons, ih]; by_cases h1 : z = x <;> by_cases h2 : z ∈ a <;> by_cases h3 : z ∈ b <;> by_cases h4 : z = y <;> simp [h1, h2, h3, h4]
 | case5 x a y b h1 h2 ih => simp only [List.mem_cons, ih]; by_cases h1 : z = x <;> by_cases h2 : z ∈ a <;> by_cases h3 : z ∈ b <;> by_cases h4 : z = y <;> simp [h1, h2, h3, h4]
theorem mgR_mem (z : Opn) (a b : List Opn) : z ∈ mgR a b → z ∈ a ∨ z ∈ b := by
 fun_induction mgR a b with
 | case1 => exact .inr
 | case2 => exact .inl
 | case3 x a y b h1 ih =>
   intro h
   rcases List.mem_cons.1 h with rfl | h
   · exact .inl (List.mem_cons_self ..)
   · rcases ih h with h | h
     · exact .inl (List.mem_cons_of_mem _ h)
     · exact .inr h
 | case4 x a y b h1 h2 ih =>
   intro h
   rcases List.mem_cons.1 h with rfl | h
   · exact .inr (List.mem_cons_self ..)
   · rcases ih h with h | h
     · exact .inl h
     · exact .inr (List.mem_cons_of_mem _ h)
 | case5 x a y b h1 h2 ih =>
   intro h
   rcases List.mem_cons.1 h with rfl | h
   · exact .inl (List.mem_cons_self ..)
   · rcases ih h with h | h
     · exact .inl (List.mem_cons_of_mem _ h)
     · exact .inr (List.mem_cons_of_mem _ h)
theorem mgR_srt (a b : List Opn) : Srt a → Srt b → NoD a b → Srt (mgR a b) := by
 fun_induction mgR a b with
 | case1 => exact fun _ h _ => h
 | case2 => exact fun h _ _ => h
 | case3 x a y b h1 ih =>
   intro sa sb nd
   have sa' := List.pairwise_cons.1 sa
   have sb' := List.pairwise_cons.1 sb
   refine List.pairwise_cons.2 ⟨fun z hz => ?_, ih sa'.2 sb fun u hu v hv => nd u (List.mem_cons_of_mem _ hu) v hv⟩
   rcases mgR_mem _ _ _ hz with h | h
   · exact sa'.1 z h
   · rcases List.mem_cons.1 h with rfl | h
     · exact h1
     · exact bfV_trans h1 (sb'.1 z h)
 | case4 x a y b h1 h2 ih =>
   intro sa sb nd
   have sa' := List.pairwise_cons.1 sa
   have sb' := List.pairwise_cons.1 sb
   refine List.pairwise_cons.2 ⟨fun z hz => ?_, ih sa sb'.2 fun u hu v hv => nd u hu v (List.mem_cons_of_mem _ hv)⟩
   rcases mgR_mem _ _ _ hz with h | h
   · rcases List.mem_cons.1 h with rfl | h
     · exact h2
     · exact bfV_trans h2 (sa'.1 z h)
   · exact sb'.1 z h
 | case5 x a y b h1 h2 ih =>
   intro sa sb nd
   have sa' := List.pairwise_cons.1 sa
   have sb' := List.pairwise_cons.1 sb
   obtain ⟨k1, k2⟩ := bfV_tot (by simpa using h1) (by simpa using h2)
   have e : x = y := nd x (List.mem_cons_self ..) y (List.mem_cons_self ..) k1 k2
   refine List.pairwise_cons.2 ⟨fun z hz => ?_, ih sa'.2 sb'.2 fun u hu v hv => nd u (List.mem_cons_of_mem _ hu) v (List.mem_cons_of_mem _ hv)⟩
   rcases mgR_mem _ _ _ hz with h | h
   · exact sa'.1 z h
   · rw [e]; exact sb'.1 z h
theorem srt_sub : ∀ {b a : List Opn}, Srt a → Srt b → (∀ x ∈ a, x ∈ b) → a.Sublist b
 | [], [], _, _, _ => List.Sublist.slnil
 | [], x :: a, _, _, h => by have := h x (List.mem_cons_self ..); cases this
 | y :: b, [], _, _, _ => List.nil_sublist _
 | y :: b, x :: a, sa, sb, h => by
   have sa' := List.pairwise_cons.1 sa
   have sb' := List.pairwise_cons.1 sb
   have nx : ∀ {u : Opn} {r : List Opn} {z : Opn}, (∀ w ∈ r, bfV u w = true) → z ∈ r → z ≠ u := fun hr hz q => by
    have := hr _ hz
    rw [q, bfV_irr] at this
    cases this
   by_cases e : x = y
   · subst e
     exact (srt_sub sa'.2 sb'.2 fun z hz => (List.mem_cons.1 (h z (List.mem_cons_of_mem _ hz))).resolve_left (nx sa'.1 hz)).cons_cons _
   · have hx := (List.mem_cons.1 (h x (List.mem_cons_self ..))).resolve_left e
     have hyx := sb'.1 x hx
     refine (srt_sub sa sb'.2 fun z hz => (List.mem_cons.1 (h z hz)).resolve_left fun q => ?_).cons _
     subst q
     rcases List.mem_cons.1 hz with q | q
     · exact e q.symm
     · have := sa'.1 z q
       rw [bfV_asym hyx] at this
       cases this
/-- A sorted part of a valid list. -/
structure PartOf (all a : List Opn) : Prop where
 srt : Srt a
 mem : ∀ x ∈ a, x ∈ all
theorem OkL.srt {l : List Opn} (h : OkL l) : Srt l := h.pw.imp fun h => h.1
theorem OkL.sub {l a : List Opn} (h : OkL l) (s : a.Sublist l) : OkL a := ⟨fun o ho => h.ok o (s.subset ho), h.pw.sublist s⟩
theorem PartOf.sub {all a : List Opn} (h : OkL all) (p : PartOf all a) : a.Sublist all := srt_sub p.srt h.srt p.mem
theorem PartOf.of {all a : List Opn} (h : OkL all) (s : a.Sublist all) : PartOf all a := ⟨(h.sub s).srt, fun x hx => s.subset hx⟩
theorem PartOf.val {all a : List Opn} (h : OkL all) (hl : all.length ≤ 360) (p : PartOf all a) : valV a = 0 := (h.sub (p.sub h)).val (Nat.le_trans (p.sub h).length_le hl)
theorem PartOf.mg {all a b : List Opn} (h : OkL all) (hl : all.length ≤ 360) (p : PartOf all a) (q : PartOf all b) : mergeV a b = (mg a b, 0) ∧ PartOf all (mg a b) := by
 have nd : NoD a b := fun x hx y hy h1 h2 => uniq_name (h.val hl) (p.mem x hx) (q.mem y hy) h1 h2
 have e := mg_eq_mgR _ a b (Nat.le_refl _) p.srt q.srt nd
 have hm : PartOf all (Go.Proofs.YthlomeneidophaaGreat.mg a b) := ⟨by rw [e]; exact mgR_srt a b p.srt q.srt nd, fun x hx => ((mg_mem x a b).1 hx).elim (p.mem x) (q.mem x)⟩
 refine ⟨?_, hm⟩
 unfold mergeV
 rw [if_neg (by rw [p.val h hl]; simp), if_neg (by rw [q.val h hl]; simp), if_neg (by rw [noD_iff.2 nd]; simp), if_neg (by rw [hm.val h hl]; simp)]
/-- The list that Ops builds. -/
structure Gn (l : List Opn) (t : Int) (sq : List Int) : Prop where
 ok : ∀ o ∈ l, okOp o = true
 tm : ∀ o ∈ l, o.1 ≤ t
 dv : ∀ o ∈ l, 1 ≤ o.2.1 ∧ o.2.1 ≤ 4
 sn : ∀ o ∈ l, o.2.2.1 ≤ sq.getD o.2.1.toNat 0
 pw : l.Pairwise Rl
theorem Gn.nil (t : Int) (sq : List Int) : Gn [] t sq := ⟨fun _ h => (by cases h), fun _ h => (by cases h), fun _ h => (by cases h), fun _ h => (by cases h), List.Pairwise.nil⟩
end Go.Proofs.YthlomeneidophaaGreat

/- Operations: the generators. -/
set_option linter.unusedSimpArgs false
set_option linter.unusedVariables false
set_option maxRecDepth 100000
set_option maxHeartbeats 8000000
namespace Go.Proofs.YthlomeneidophaaGreat
open Go.Ev

def sameV (a b : List Opn) : Bool := decide (a = b)
def con15 : Con := { ps := [.d false (.sl yOP), .d false (.sl yOP)], rs := [.d false .bool], pre := fun x => True, out := fun (x : List Opn × List Opn × Unit) => (sameV x.1 x.2.1, ()), nw := id }
theorem c15 : CtrOk Tryz.prog 15 con15.ctr :=
 con_sound (G := ⟨[], [], [], []⟩) tab_ok EnvOk.nil rfl Tryz.func15 rfl con15 33571891 (by kernel_rfl) (by decide) (by decide) rfl (by decide) rfl (by
  rintro ⟨(a : List Opn), (b : List Opn), _⟩ hpre hwf X hT hG hk hK
  (simp -implicitDefEqProofs only [go_sem, Bool.not_eq_true', Bool.not_eq_false', Bool.or_eq_true, Bool.or_eq_false_iff, Bool.and_eq_true, Bool.and_eq_false_iff, decide_eq_true_eq, decide_eq_false_iff_not, Classical.not_not, not_or, maxLen, con15, hT, hG, hk, hK, Tryz.results15] at hwf ⊢); (try simp (disch := decide +kernel) only [drawn, true_and, and_true])
  refine fun _ _ => ⟨fun hne => ?_, fun hq => ?_⟩
  · unfold sameV; rw [eq_comm, decide_eq_false_iff_not]; intro q; subst q; exact hne rfl
  · have hq : a.length = b.length := by omega
    refine evk_loop ⟨{ i : Nat // i ≤ a.length ∧ a.take i = b.take i }, 1000, fun q => [(0, .one (.sl yOP a false)), (1, .one (.sl yOP b false)), (5, .one (.int .i64 q.1))], fun q => [], fun q => a.length - q.1⟩ ⟨0, by simp, by simp⟩ ?_ ?_
    · simp only [go_sem]
      try (first | rfl | exact ⟨rfl, rfl⟩)
    · rintro ⟨i, (hi : i ≤ a.length), (he : a.take i = b.take i)⟩
      (simp -implicitDefEqProofs only [go_sem, Bool.not_eq_true', Bool.not_eq_false', Bool.or_eq_true, Bool.or_eq_false_iff, Bool.and_eq_true, Bool.and_eq_false_iff, decide_eq_true_eq, decide_eq_false_iff_not, Classical.not_not, not_or, maxLen, con15, hT, hG, hk, hK, Tryz.results15]); (try simp (disch := decide +kernel) only [drawn, true_and, and_true])
      refine fun _ => ⟨fun hlt => ?_, fun hge => ?_⟩
      · have hil : i < a.length := by omega
        have hil2 : i < b.length := by omega
        obtain ⟨o, ho⟩ : ∃ o, a[i] = o := ⟨_, rfl⟩
        obtain ⟨u, hu⟩ : ∃ u, b[i] = u := ⟨_, rfl⟩
        have eo : a.getD (i : Int).toNat (0, 0, 0, 0, 0, (0, 0, 0), 0, 0) = o := by rw [← ho]; simp [hil]
        have eu : b.getD (i : Int).toNat (0, 0, 0, 0, 0, (0, 0, 0), 0, 0) = u := by rw [← hu]; simp [hil2]
        rw [eo, eu]
        simp only [ne_comp, eq_comp]
        (repeat' (with_reducible (first | refine And.intro ?_ ?_ | intro _))) <;> (try (first | with_reducible (first | done | assumption | omega | contradiction) | decide))
        · have hne : o ≠ u := by assumption
          unfold sameV
          rw [eq_comm, decide_eq_false_iff_not]
          intro q
          subst q
          exact hne (ho.symm.trans hu)
        · have hne : o = u := by first | assumption | (apply Decidable.byContradiction; assumption)
          refine fin_lp ⟨i + 1, hil, ?_⟩ ?_ (by dsimp only; omega)
          · show a.take (i + 1) = b.take (i + 1)
            rw [List.take_succ_eq_append_getElem hil, List.take_succ_eq_append_getElem hil2, he, ho, hu, hne]
          · simp only [go_sem]
            try (first | rfl | exact ⟨rfl, rfl⟩ | (and_intros <;> first | rfl | omega))
      · unfold sameV
        rw [eq_comm, decide_eq_true_eq]
        rw [List.take_of_length_le (by omega), List.take_of_length_le (by omega)] at he
        exact he)
end Go.Proofs.YthlomeneidophaaGreat
