/- The contract of DepartureMeans. -/
import Derived.Test.YtjhoidgpecgfoaaDpKBToKL
import Derived.Test.YtjhoidgpecgfoaaDpK5ToKG
set_option linter.unusedSimpArgs false
set_option linter.unusedVariables false
set_option maxRecDepth 100000
set_option maxHeartbeats 8000000
namespace Go.Proofs.Ytjhoidgpecgfoaa
open Go.Ev

/-- What DepartureMeans calls good. -/
def mP (x : Plt) (y : Plm) : Bool := !decide (y.1.1 = x) || decide ((y.2.2.length : Int) < 2)
def mX (r : List Rlg) (p : List Plm) (x : Pce) : Bool := mayV r x.1 && p.all (mP x.1)
def mC (f : Flt) (r : List Rlg) (p : List Plm) (o : Cnt) : Bool := !decide (o.flt = f) || (!overV o && o.pcs.all (mX r p))
def mO (f : Flt) (r : List Rlg) (y : Plm) (n : Int) (o : Cnt) : Bool := !(decide (o.num = n) && decide (o.flt = f)) || (decide ((y.2.2.length : Int) < 2) && mayV r y.1.1)
def mN (f : Flt) (c : List Cnt) (r : List Rlg) (y : Plm) (n : Int) : Bool := c.all (mO f r y n)
def mY (f : Flt) (c : List Cnt) (r : List Rlg) (y : Plm) : Bool := y.2.2.all (mN f c r y)
theorem barsV_nil {l : List Dpt} {f : Flt} {t : Int} {h : List Hhd} {c : List Cnt} {p : List Plm} {r : List Rlg} :
 barsV l f t h c p r = [] ↔ stateV l f t = 0 ∧ (∀ x ∈ h, x.2.2.2.1 = false) ∧ (∀ x ∈ concV f c p, uncV p x = false ∧ mayV r x = true) ∧ ∀ o ∈ c, o.flt = f → overV o = false := by
 unfold barsV
 simp only [List.append_eq_nil_iff, List.flatMap_eq_nil_iff]
 constructor
 · rintro ⟨⟨⟨⟨h1, h2⟩, h3⟩, h4⟩, h5⟩
   refine ⟨?_, fun x hx => ?_, fun x hx => ⟨?_, ?_⟩, fun o ho hf => ?_⟩
   · apply Classical.byContradiction; intro hn; unfold brS at h1; rw [if_pos hn] at h1; cases h1
   · have := h2 x hx; unfold brH at this; split at this
     · cases this
     · rename_i hn; simpa using hn
   · have := h3 x hx; unfold brU at this; split at this
     · cases this
     · rename_i hn; simpa using hn
   · have := h4 x hx; unfold brA at this; split at this
     · cases this
     · rename_i hn; simpa using hn
   · have := h5 o ho; unfold brC at this; split at this
     · cases this
     · rename_i hn
       cases hq : overV o
       · rfl
       · exact absurd ⟨hf, hq⟩ hn
 · rintro ⟨h1, h2, h3, h4⟩
   refine ⟨⟨⟨⟨?_, fun x hx => ?_⟩, fun x hx => ?_⟩, fun x hx => ?_⟩, fun o ho => ?_⟩
   · unfold brS; rw [if_neg (by rw [h1]; simp)]
   · unfold brH; rw [if_neg (by rw [h2 x hx]; simp)]
   · unfold brU; rw [if_neg (by rw [(h3 x hx).1]; simp)]
   · unfold brA; rw [if_neg (by rw [(h3 x hx).2]; simp)]
   · unfold brC
     rw [if_neg]
     rintro ⟨hf, hq⟩
     rw [h4 o ho hf] at hq; cases hq
theorem concV_mem {f : Flt} {c : List Cnt} {p : List Plm} {x : Plt} : x ∈ concV f c p ↔ (∃ o ∈ c, o.flt = f ∧ ∃ y ∈ o.pcs, y.1 = x) ∨ ∃ y ∈ p, y.1.1 = x ∧ ∃ n ∈ y.2.2, ∃ o ∈ c, o.num = n ∧ o.flt = f := by
 unfold concV
 rw [(setP_spec _).2, List.mem_append]
 refine or_congr ?_ ?_
 · unfold rawA
   rw [List.mem_flatMap]
   refine exists_congr fun o => and_congr_right fun ho => ?_
   unfold rawC
   split
   · rename_i e
     rw [List.mem_map]; exact ⟨fun h => ⟨e, h⟩, fun h => h.2⟩
   · rename_i e
     exact ⟨fun h => (by cases h), fun h => absurd h.1 e⟩
 · rw [List.mem_flatMap]
   refine exists_congr fun y => and_congr_right fun hy => ?_
   unfold rawP
   split
   · rename_i e
     obtain ⟨n, hn, he⟩ := List.any_eq_true.1 e
     have he := of_decide_eq_true he
     rw [mem_ownL] at he
     unfold oursV at he
     obtain ⟨o, ho, hq⟩ := List.any_eq_true.1 he
     rw [Bool.and_eq_true, decide_eq_true_eq, decide_eq_true_eq] at hq
     rw [List.mem_singleton]
     exact ⟨fun h => ⟨h.symm, n, hn, o, ho, hq⟩, fun h => h.1.symm⟩
   · rename_i e
     refine ⟨fun h => (by cases h), ?_⟩
     rintro ⟨_, n, hn, o, ho, h1, h2⟩
     refine absurd (List.any_eq_true.2 ⟨n, hn, ?_⟩) e
     rw [decide_eq_true_eq, mem_ownL]
     unfold oursV
     exact List.any_eq_true.2 ⟨o, ho, by rw [Bool.and_eq_true, decide_eq_true_eq, decide_eq_true_eq]; exact ⟨h1, h2⟩⟩
/-- The law: nothing bars a departure exactly if all is good. -/
theorem means_law {l : List Dpt} {f : Flt} {t : Int} {h : List Hhd} {c : List Cnt} {p : List Plm} {r : List Rlg} (hp : ∀ y ∈ p, ∀ z ∈ p, y.1.1 = z.1.1 → y = z) :
 decide ((barsV l f t h c p r).length = 0) = (decide (stateV l f t = 0) && h.all (fun x => !x.2.2.2.1) && c.all (mC f r p) && p.all (mY f c r)) := by
 rw [Bool.eq_iff_iff, decide_eq_true_eq, List.length_eq_zero_iff, barsV_nil]
 simp only [Bool.and_eq_true, decide_eq_true_eq, List.all_eq_true, Bool.not_eq_true', concV_mem]
 constructor
 · rintro ⟨h1, h2, h3, h4⟩
   refine ⟨⟨⟨h1, h2⟩, fun o ho => ?_⟩, fun y hy => ?_⟩
   · unfold mC
     by_cases hf : o.flt = f
     · rw [decide_eq_true hf, h4 o ho hf]
       simp only [Bool.not_true, Bool.false_or, Bool.not_false, Bool.true_and, List.all_eq_true]
       intro x hx
       obtain ⟨q1, q2⟩ := h3 x.1 (.inl ⟨o, ho, hf, x, hx, rfl⟩)
       unfold mX
       rw [q2, Bool.true_and, List.all_eq_true]
       intro y hy
       unfold mP
       have := List.any_eq_false.1 q1 y hy
       unfold uncP at this
       by_cases e : y.1.1 = x.1
       · rw [decide_eq_true e] at this ⊢
         simp at this ⊢; omega
       · rw [decide_eq_false e]; rfl
     · rw [decide_eq_false hf]; rfl
   · unfold mY
     rw [List.all_eq_true]
     intro n hn
     unfold mN
     rw [List.all_eq_true]
     intro o ho
     unfold mO
     by_cases e : o.num = n ∧ o.flt = f
     · rw [decide_eq_true e.1, decide_eq_true e.2]
       obtain ⟨q1, q2⟩ := h3 y.1.1 (.inr ⟨y, hy, rfl, n, hn, o, ho, e⟩)
       have := List.any_eq_false.1 q1 y hy
       unfold uncP at this
       rw [q2]
       simp at this ⊢; omega
     · rw [show (decide (o.num = n) && decide (o.flt = f)) = false by rw [Bool.and_eq_false_iff, decide_eq_false_iff_not, decide_eq_false_iff_not]; exact Classical.not_and_iff_not_or_not.1 e]; rfl
 · rintro ⟨⟨⟨h1, h2⟩, h3⟩, h4⟩
   have hc : ∀ o ∈ c, o.flt = f → overV o = false ∧ ∀ x ∈ o.pcs, mX r p x = true := fun o ho hf => by
    have := h3 o ho
    unfold mC at this
    rw [decide_eq_true hf] at this
    simp only [Bool.not_true, Bool.false_or, Bool.and_eq_true, Bool.not_eq_true', List.all_eq_true] at this
    exact this
   refine ⟨h1, h2, fun x hx => ?_, fun o ho hf => (hc o ho hf).1⟩
   rcases hx with ⟨o, ho, hf, x', hx', rfl⟩ | ⟨y, hy, rfl, n, hn, o, ho, e1, e2⟩
   · have := (hc o ho hf).2 x' hx'
     unfold mX at this
     rw [Bool.and_eq_true, List.all_eq_true] at this
     refine ⟨?_, this.1⟩
     unfold uncV
     rw [List.any_eq_false]
     intro y hy
     have q := this.2 y hy
     unfold mP at q
     unfold uncP
     by_cases e : y.1.1 = x'.1
     · rw [decide_eq_true e] at q ⊢
       simp at q ⊢; omega
     · rw [decide_eq_false e]; simp
   · have := h4 y hy
     unfold mY at this
     rw [List.all_eq_true] at this
     have := this n hn
     unfold mN at this
     rw [List.all_eq_true] at this
     have := this o ho
     unfold mO at this
     rw [decide_eq_true e1, decide_eq_true e2] at this
     simp only [Bool.and_self, Bool.not_true, Bool.false_or, Bool.and_eq_true, decide_eq_true_eq] at this
     refine ⟨?_, this.2⟩
     unfold uncV
     rw [List.any_eq_false]
     intro z hz
     unfold uncP
     by_cases e : z.1.1 = y.1.1
     · have := hp z hz y hy e
       subst this
       have := this.1
       simp; omega
     · rw [decide_eq_false e]; simp
theorem all_succ {α : Type} (P : α → Bool) (d : α) {l : List α} {i : Nat} (h : i < l.length) : (l.take (i + 1)).all P = ((l.take i).all P && P (l.getD i d)) := by
 rw [List.take_succ_eq_append_getElem h, List.all_append, getD_lt (d := d) h]; simp
theorem pltD (a b : Plt) : (decide (a.1 = b.1) && (decide (a.2.1 = b.2.1) && decide (a.2.2 = b.2.2))) = decide (a = b) := by
 rw [Bool.eq_iff_iff]; simp only [Bool.and_eq_true, decide_eq_true_eq]; rw [pltE]
def dW (w : Int) : List Dpt := [(fltsV 0, ⟨#[76, 72, 82]⟩, 10, 40, 50, 0, w), dayD 1, dayD 2]
theorem dW_state (w t : Int) {i : Nat} (hi : i < 3) : decide (stateV (dW w) (fltsV i) t = 0) = (decide (((dW w).getD i dp0).2.2.2.2.2.2 = 0) && closedV ((dW w).getD i dp0) t) := by
 have hx : dpIdx (dW w) (fltsV i) = i := by
  refine idxV_at (d := dp0) (fun k hk => ?_) (by show i < 3; exact hi) ?_
  · rcases (by omega : (i = 1 ∧ k = 0) ∨ (i = 2 ∧ k = 0) ∨ (i = 2 ∧ k = 1)) with ⟨rfl, rfl⟩ | ⟨rfl, rfl⟩ | ⟨rfl, rfl⟩
    · exact decide_eq_false (by show fltsV 0 ≠ fltsV 1; decide +kernel)
    · exact decide_eq_false (by show fltsV 0 ≠ fltsV 2; decide +kernel)
    · exact decide_eq_false (by show fltsV 1 ≠ fltsV 2; decide +kernel)
  · rcases (by omega : i = 0 ∨ i = 1 ∨ i = 2) with rfl | rfl | rfl <;> exact decide_eq_true rfl
 unfold stateV
 rw [hx, if_neg (by omega), show ((i : Int).toNat) = i by omega]
 generalize (dW w).getD i dp0 = d
 by_cases h1 : d.2.2.2.2.2.2 = 0
 · rw [if_neg (by simpa using h1), decide_eq_true h1]
   cases h2 : closedV d t
   · rw [if_pos rfl]; rfl
   · rw [if_neg (by simp)]; rfl
 · rw [if_pos h1, decide_eq_false h1]; rfl
theorem placesV_one {l : List Opn} : ∀ y ∈ placesV l, ∀ z ∈ placesV l, y.1.1 = z.1.1 → y = z := by
 intro y hy z hz e
 unfold placesV at hy hz
 split at hy
 · cases hy
 · rename_i h
   rw [if_neg h] at hz
   obtain ⟨p, hp, rfl⟩ := List.mem_map.1 hy
   obtain ⟨q, hq, rfl⟩ := List.mem_map.1 hz
   have key : ∀ p, p ∈ sortBy pltC (abK l) → (placeV (aboutP l p)).1.1 = p := fun p hp => by
    have hne := about_ne hp
    unfold placeV
    show ((aboutP l p).getD ((aboutP l p).length - 1) o0).plate = p
    have hl : 0 < (aboutP l p).length := List.length_pos_iff.2 hne
    have hm : (aboutP l p).getD ((aboutP l p).length - 1) o0 ∈ aboutP l p := getD_mem (by omega)
    have := (List.mem_filter.1 hm).2
    exact of_decide_eq_true this
   rw [key p hp, key q hq] at e
   rw [e]
theorem trail_len (l : List Opn) : (trail l).length ≤ l.length := by
 unfold trail
 rw [List.length_map]
 refine Nat.le_trans (List.takeWhile_sublist _).length_le ?_
 rw [List.length_reverse]; exact Nat.le_refl _
theorem placesV_may {l : List Opn} {z : Plc} (h : z ∈ placesV l) : z.2.2.length ≤ l.length := by
 unfold placesV at h
 split at h
 · cases h
 · obtain ⟨p, _, rfl⟩ := List.mem_map.1 h
   unfold placeV
   refine Nat.le_trans (compV_le _) ?_
   rw [sortI_len]
   exact Nat.le_trans (trail_len _) (about_len l p)
def con3 : Con := { ps := [.d false (.sl (.int .i64)), .d false (.int .i64)], rs := [.d false .bool], pre := fun _ => True, out := fun x => (true, ()), nw := id }
theorem c3 : CtrOk Try.prog 3 con3.ctr :=
 con_sound (G := ⟨[(4, con4.ctr), (8, con8.ctr), (9, con9.ctr), (11, con11.ctr), (16, con16.ctr), (15, con15.ctr), (5, con5.ctr), (17, con17.ctr), (12, con12.ctr), (13, con13.ctr), (14, con14.ctr)], [(6, con6.rctr), (10, con10.rctr), (7, con7.rctr)], [], []⟩) tab_ok (EnvOk.cons c4 has4 (EnvOk.cons c8 has8 (EnvOk.cons c9 has9 (EnvOk.cons c11 has11 (EnvOk.cons c16 has16 (EnvOk.cons c15 has15 (EnvOk.cons c5 has5 (EnvOk.cons c17 has17 (EnvOk.cons c12 has12 (EnvOk.cons c13 has13 (EnvOk.cons c14 has14 (EnvOk.rcons c6 has6 (EnvOk.rcons c10 has10 (EnvOk.rcons c7 has7 EnvOk.nil)))))))))))))) rfl Try.func3 rfl con3 53919893535171262236995042596541749413247932530109735117864773087219 (by kernel_rfl) (by decide) (by decide) rfl (by decide) rfl (by
  rintro ⟨(src : List Int), (now : Int), _⟩ hpre hwf X hT hG hk hK
  (simp -implicitDefEqProofs only [go_sem, Prod.eta, Option.isSome_none, Option.isSome_some, Int.toNat_zero, Nat.reduceAdd, Nat.reduceMul, Nat.reduceSub, Nat.reduceEqDiff, Nat.reduceLT, Nat.reduceLeDiff, Nat.reduceShiftRight, Nat.reduceMod, Nat.reduceBEq, reduceCtorEq, reduceIte, reduceDIte, Int.reduceNeg, Bool.not_eq_true', Bool.not_eq_false', Bool.or_eq_true, Bool.or_eq_false_iff, Bool.and_eq_true, Bool.and_eq_false_iff, decide_eq_true_eq, decide_eq_false_iff_not, Classical.not_not, not_or, maxLen, con3, con4, con8, con9, con11, con16, con15, con5, con17, con12, con13, con14, con6, con10, con7, hT, hG, hk, hK, Try.results3] at hwf ⊢); (try simp (disch := decide +kernel) only [drawn, true_and, and_true])
  clear hwf
  refine fun _ _ => ⟨by decide, ?_⟩
  rintro ⟨⟨(c : List Cnt), _⟩, ⟨⟨(s1 : List Int), (a1 : Int)⟩, _⟩⟩ hy1
  refine ⟨⟨hy1.1.1, by decide⟩, ?_⟩
  rintro ⟨⟨(r : List Rlg), _⟩, ⟨⟨(s2 : List Int), (a2 : Int)⟩, _⟩⟩ hy2
  obtain ⟨⟨-, hc⟩, -⟩ := hy1
  obtain ⟨⟨h2, hr⟩, -⟩ := hy2
  have h2 : 0 ≤ a2 := h2
  have hc : CtsR 5 8 c := hc
  have p3 : 0 ≤ (Src.step (s2, a2)).snd := step_pos h2
  dsimp only
  generalize hSq : Src.step (s2, a2) = S3 at p3 ⊢
  obtain ⟨s3, a3⟩ := S3
  have p3 : 0 ≤ a3 := p3
  refine ⟨h2, fun _ => ⟨fun hv hl => ?_, fun hv => ?_⟩⟩
  all_goals try refine evk_loop ⟨{ q : List Rlg × Nat // q.2 ≤ r.length ∧ q.1.length = r.length }, 1000, fun q => [(1, .one (.int .i64 now)), (5, .one (.loc 72 0)), (6, .one (.row 73)), (7, .one (.sl yCT c false)), (8, .one (.row 74)), (38, .one (.int .i64 r.length)), (39, .one (.int .i64 q.1.2))], fun q => [(72, .cells 67 [.sl (.int .i64) s3 false, .int .i64 a3]), (73, .row 41 yDP dayV), (74, .row 37 yRU q.1.1)], fun q => r.length - q.1.2⟩ ⟨(r, 0), Nat.zero_le _, rfl⟩ ?_ ?_
  · simp only [go_sem, Prod.eta, Option.isSome_none, Option.isSome_some, Int.toNat_zero, Nat.reduceAdd, Nat.reduceMul, Nat.reduceSub, Nat.reduceEqDiff, Nat.reduceLT, Nat.reduceLeDiff, Nat.reduceShiftRight, Nat.reduceMod, Nat.reduceBEq, reduceCtorEq, reduceIte, reduceDIte, Int.reduceNeg]
    try (first | rfl | exact ⟨rfl, rfl⟩ | (and_intros <;> first | trivial | rfl | omega))
  rintro ⟨⟨r', i⟩, (hi : i ≤ r.length), (hri : r'.length = r.length)⟩
  (simp -implicitDefEqProofs only [go_sem, Prod.eta, Option.isSome_none, Option.isSome_some, Int.toNat_zero, Nat.reduceAdd, Nat.reduceMul, Nat.reduceSub, Nat.reduceEqDiff, Nat.reduceLT, Nat.reduceLeDiff, Nat.reduceShiftRight, Nat.reduceMod, Nat.reduceBEq, reduceCtorEq, reduceIte, reduceDIte, Int.reduceNeg, Bool.not_eq_true', Bool.not_eq_false', Bool.or_eq_true, Bool.or_eq_false_iff, Bool.and_eq_true, Bool.and_eq_false_iff, decide_eq_true_eq, decide_eq_false_iff_not, Classical.not_not, not_or, maxLen, con3, con4, con8, con9, con11, con16, con15, con5, con17, con12, con13, con14, con6, con10, con7, hT, hG, hk, hK, Try.results3]); (try simp (disch := decide +kernel) only [drawn, true_and, and_true])
  refine ⟨fun hlt => ?_, fun hge => ?_⟩
  · have hn : (i : Int) < r.length := hlt
    (repeat' (with_reducible (first | refine And.intro ?_ ?_ | intro _))) <;> (try (first | with_reducible (first | done | assumption | omega | contradiction) | decide))
    refine fin_lp ⟨(r'.set (i : Int).toNat ((r'.getD (i : Int).toNat ((0, 0, 0), false, 0, 0)).1, true, 1, 0), i + 1), (by show i + 1 ≤ r.length; omega), (by show (r'.set _ _).length = r.length; rw [List.length_set]; exact hri)⟩ (by simp only [go_sem, Prod.eta, Option.isSome_none, Option.isSome_some, Int.toNat_zero, Nat.reduceAdd, Nat.reduceMul, Nat.reduceSub, Nat.reduceEqDiff, Nat.reduceLT, Nat.reduceLeDiff, Nat.reduceShiftRight, Nat.reduceMod, Nat.reduceBEq, reduceCtorEq, reduceIte, reduceDIte, Int.reduceNeg]; first | rfl | ((repeat' apply And.intro) <;> first | rfl | assumption | omega)) (by dsimp only; omega)
  rotate_left
  revert r
  intro r'
  intros
  rotate_left
  all_goals first
   | (have rA := goMod_bd (Src.raw (s3, a3)) 6 (by omega)
      have rB := goMod_bd (Src.step (s3, a3)).raw 3 (by omega)
      have rC := tdiv_bd (goMod (Src.raw (s3, a3)) 6) 5 5 (by omega) (by omega) (by omega)
      rw [show (5 : Int).tdiv 5 = 1 by decide] at rC
      have q1 : 0 ≤ (Src.step (s3, a3)).snd := step_pos p3
      have q2 : 0 ≤ (Src.step (s3, a3)).step.snd := step_pos q1
      have hd3 : (0 : Int) < (dayV.length : Nat) := by decide
      refine ⟨p3, fun _ => ⟨⟨by decide, by omega, by omega⟩, ⟨by decide, hd3⟩, fun _ => ⟨⟨by decide, hd3⟩, q1, fun _ => ⟨⟨by omega, by omega⟩, ⟨q2, by omega, by omega, by decide, by decide⟩, ?_⟩⟩⟩⟩
      rintro ⟨⟨(ops : List Opn), _⟩, ⟨⟨(s5 : List Int), (a5 : Int)⟩, _⟩⟩ hy
      obtain ⟨⟨h5, hops⟩, -⟩ := hy
      have h5 : 0 ≤ a5 := h5
      have hops : OpsR 5 ops := hops
      dsimp only
      have u1 : 0 ≤ (Src.step (s5, a5)).snd := step_pos h5
      have u2 := goMod_bd (Src.step (s5, a5)).raw 9 (by omega)
      refine fun _ => ⟨h5, fun _ => ⟨u1, fun _ => ⟨⟨by omega, by omega⟩, fun _ => ?_⟩⟩⟩
      have hp1 : ∀ y ∈ placesV ops, ∀ z ∈ placesV ops, y.1.1 = z.1.1 → y = z := placesV_one
      have hsm : SmC c (placesV ops) := ⟨by have := hc.ok.len; omega, fun o ho => by have := (hc.ok.ok o ho).2.1; omega, by have := placesV_len ops; omega, fun y hy => by have := placesV_may hy; have := hops.len; omega⟩
      generalize placesV ops = p at hp1 hsm ⊢
      obtain ⟨w, hw⟩ : ∃ w, (goMod (Src.raw (s3, a3)) 6).tdiv 5 = w := ⟨_, rfl⟩
      obtain ⟨V, hV⟩ : ∃ V, 40 + goMod (Src.step (s5, a5)).raw 9 = V := ⟨_, rfl⟩
      obtain ⟨ho, hho⟩ : ∃ b, decide (goMod (Src.raw (s5, a5)) 5 = 4) = b := ⟨_, rfl⟩
      simp only [hw, hV, hho]
      refine evk_loop ⟨{ i : Nat // i ≤ 2 }, 1000, fun q => [(6, .one (.sl yDP (dW w) false)), (7, .one (.sl yCT c false)), (8, .one (.sl yRU r' false)), (10, .one (.sl yPM p false)), (11, .one (.sl yHH [(1, 1, 0, ho, [], [], [])] false)), (69, .one (.sl (.int .i64) [now, V] false)), (70, .one (.int .i64 2)), (71, .one (.int .i64 q.1))], fun q => [], fun q => 2 - q.1⟩ ⟨0, Nat.zero_le _⟩ ?_ ?_
      · skip
        simp only [go_sem, Prod.eta, Option.isSome_none, Option.isSome_some, Int.toNat_zero, Nat.reduceAdd, Nat.reduceMul, Nat.reduceSub, Nat.reduceEqDiff, Nat.reduceLT, Nat.reduceLeDiff, Nat.reduceShiftRight, Nat.reduceMod, Nat.reduceBEq, reduceCtorEq, reduceIte, reduceDIte, Int.reduceNeg]
        try simp only [List.take_zero, List.all_nil, Bool.and_true]
        try (first | rfl | exact ⟨rfl, rfl⟩ | (and_intros <;> first | trivial | rfl | omega))
      · rintro ⟨i1, (hi1 : i1 ≤ 2)⟩
        (simp -implicitDefEqProofs only [go_sem, Prod.eta, Option.isSome_none, Option.isSome_some, Int.toNat_zero, Nat.reduceAdd, Nat.reduceMul, Nat.reduceSub, Nat.reduceEqDiff, Nat.reduceLT, Nat.reduceLeDiff, Nat.reduceShiftRight, Nat.reduceMod, Nat.reduceBEq, reduceCtorEq, reduceIte, reduceDIte, Int.reduceNeg, Bool.not_eq_true', Bool.not_eq_false', Bool.or_eq_true, Bool.or_eq_false_iff, Bool.and_eq_true, Bool.and_eq_false_iff, decide_eq_true_eq, decide_eq_false_iff_not, Classical.not_not, not_or, maxLen, con3, con4, con8, con9, con11, con16, con15, con5, con17, con12, con13, con14, con6, con10, con7, hT, hG, hk, hK, Try.results3]); (try simp (disch := decide +kernel) only [drawn, true_and, and_true])
        obtain ⟨t, ht_⟩ : ∃ t, [now, V].getD i1 0 = t := ⟨_, rfl⟩
        have et : [now, V].getD (i1 : Int).toNat 0 = t := ht_
        try simp only [et]
        (repeat' (with_reducible (first | refine And.intro ?_ ?_ | intro _))) <;> (try (first | with_reducible (first | done | assumption | omega | contradiction) | decide))
        all_goals first
         | (refine evk_loop ⟨{ i : Nat // i ≤ 3 }, 1000, fun q => [(6, .one (.sl yDP (dW w) false)), (7, .one (.sl yCT c false)), (8, .one (.sl yRU r' false)), (10, .one (.sl yPM p false)), (11, .one (.sl yHH [(1, 1, 0, ho, [], [], [])] false)), (69, .one (.sl (.int .i64) [now, V] false)), (70, .one (.int .i64 2)), (71, .one (.int .i64 i1)), (13, .one (.int .i64 t)), (14, .one (.int .i64 q.1))], fun q => [], fun q => 3 - q.1⟩ ⟨0, Nat.zero_le _⟩ ?_ ?_
            · skip
              simp only [go_sem, Prod.eta, Option.isSome_none, Option.isSome_some, Int.toNat_zero, Nat.reduceAdd, Nat.reduceMul, Nat.reduceSub, Nat.reduceEqDiff, Nat.reduceLT, Nat.reduceLeDiff, Nat.reduceShiftRight, Nat.reduceMod, Nat.reduceBEq, reduceCtorEq, reduceIte, reduceDIte, Int.reduceNeg]
              try simp only [List.take_zero, List.all_nil, Bool.and_true]
              try (first | rfl | exact ⟨rfl, rfl⟩ | (and_intros <;> first | trivial | rfl | omega))
            · rintro ⟨i2, (hi2 : i2 ≤ 3)⟩
              (simp -implicitDefEqProofs only [go_sem, Prod.eta, Option.isSome_none, Option.isSome_some, Int.toNat_zero, Nat.reduceAdd, Nat.reduceMul, Nat.reduceSub, Nat.reduceEqDiff, Nat.reduceLT, Nat.reduceLeDiff, Nat.reduceShiftRight, Nat.reduceMod, Nat.reduceBEq, reduceCtorEq, reduceIte, reduceDIte, Int.reduceNeg, Bool.not_eq_true', Bool.not_eq_false', Bool.or_eq_true, Bool.or_eq_false_iff, Bool.and_eq_true, Bool.and_eq_false_iff, decide_eq_true_eq, decide_eq_false_iff_not, Classical.not_not, not_or, maxLen, con3, con4, con8, con9, con11, con16, con15, con5, con17, con12, con13, con14, con6, con10, con7, hT, hG, hk, hK, Try.results3]); (try simp (disch := decide +kernel) only [drawn, true_and, and_true])
              obtain ⟨F, hF⟩ : ∃ F : Flt, fltsV i2 = F := ⟨_, rfl⟩
              simp only [hF]
              obtain ⟨D, hD_⟩ : ∃ D, (dW w).getD i2 dp0 = D := ⟨_, rfl⟩
              have eD : (dW w).getD (i2 : Int).toNat ((ByteArray.empty, 0, ByteArray.empty, 0), ByteArray.empty, 0, 0, 0, 0, 0) = D := hD_
              try simp only [eD]
              have eD3 : ((D.1.1, D.1.2.1, D.1.2.2.1, D.1.2.2.2), D.2.1, D.2.2.1, D.2.2.2.1, D.2.2.2.2.1, D.2.2.2.2.2.1, D.2.2.2.2.2.2) = D := rfl
              try simp only [eD3]
              have hst : i2 < 3 → decide (stateV (dW w) F t = 0) = (decide (D.2.2.2.2.2.2 = 0) && closedV D t) := fun h => by have := dW_state w t h; rw [hF, hD_] at this; exact this
              (repeat' (with_reducible (first | refine And.intro ?_ ?_ | intro _))) <;> (try (first | with_reducible (first | done | assumption | omega | contradiction) | decide))
              all_goals first
               | (show ((i2 : Nat) : Int) < ((dW w).length : Nat); show (i2 : Int) < 3; omega)
               | (obtain ⟨G, hG'⟩ : ∃ G, (decide (D.2.2.2.2.2.2 = 0) && closedV D t && !ho) = G := ⟨_, rfl⟩
                  simp only [List.getD_cons_zero, hG']
                  have hfin : decide ((barsV (dW w) F t [(1, 1, 0, ho, [], [], [])] c p r').length = 0) = (G && c.all (mC F r' p) && p.all (mY F c r')) := by
                   rw [means_law hp1, hst (by omega), ← hG']
                   simp only [List.all_cons, List.all_nil, Bool.and_true]
                  refine evk_loop ⟨{ i : Nat // i ≤ c.length }, 1000, fun q => [(6, .one (.sl yDP (dW w) false)), (7, .one (.sl yCT c false)), (8, .one (.sl yRU r' false)), (10, .one (.sl yPM p false)), (11, .one (.sl yHH [(1, 1, 0, ho, [], [], [])] false)), (69, .one (.sl (.int .i64) [now, V] false)), (70, .one (.int .i64 2)), (71, .one (.int .i64 i1)), (13, .one (.int .i64 t)), (14, .one (.int .i64 i2)), (15, .one (.loc 75 0)), (16, .one (.bool (G && (c.take q.1).all (mC F r' p)))), (103, .one (.int .i64 c.length)), (104, .one (.int .i64 q.1))], fun q => [(75, .cells 39 [.str F.1, .int .i64 F.2.1, .str F.2.2.1, .int .i64 F.2.2.2])], fun q => c.length - q.1⟩ ⟨0, Nat.zero_le _⟩ ?_ ?_
                  · skip
                    simp only [go_sem, Prod.eta, Option.isSome_none, Option.isSome_some, Int.toNat_zero, Nat.reduceAdd, Nat.reduceMul, Nat.reduceSub, Nat.reduceEqDiff, Nat.reduceLT, Nat.reduceLeDiff, Nat.reduceShiftRight, Nat.reduceMod, Nat.reduceBEq, reduceCtorEq, reduceIte, reduceDIte, Int.reduceNeg]
                    try simp only [List.take_zero, List.all_nil, Bool.and_true]
                    try (first | rfl | exact ⟨rfl, rfl⟩ | (and_intros <;> first | trivial | rfl | omega))
                  · rintro ⟨i3, (hi3 : i3 ≤ c.length)⟩
                    obtain ⟨Bi3, hBi3⟩ : ∃ b, (G && (c.take i3).all (mC F r' p)) = b := ⟨_, rfl⟩
                    simp only [hBi3]
                    (simp -implicitDefEqProofs only [go_sem, Prod.eta, Option.isSome_none, Option.isSome_some, Int.toNat_zero, Nat.reduceAdd, Nat.reduceMul, Nat.reduceSub, Nat.reduceEqDiff, Nat.reduceLT, Nat.reduceLeDiff, Nat.reduceShiftRight, Nat.reduceMod, Nat.reduceBEq, reduceCtorEq, reduceIte, reduceDIte, Int.reduceNeg, Bool.not_eq_true', Bool.not_eq_false', Bool.or_eq_true, Bool.or_eq_false_iff, Bool.and_eq_true, Bool.and_eq_false_iff, decide_eq_true_eq, decide_eq_false_iff_not, Classical.not_not, not_or, maxLen, con3, con4, con8, con9, con11, con16, con15, con5, con17, con12, con13, con14, con6, con10, con7, hT, hG, hk, hK, Try.results3]); (try simp (disch := decide +kernel) only [drawn, true_and, and_true])
                    obtain ⟨o, ho_⟩ : ∃ o, c.getD i3 ct0 = o := ⟨_, rfl⟩
                    have eo : c.getD (i3 : Int).toNat (0, (ByteArray.empty, 0, ByteArray.empty, 0), 0, 0, 0, 0, 0, []) = o := ho_
                    try simp only [eo]
                    have eO3 : (o.1, (o.2.1.1, o.2.1.2.1, o.2.1.2.2.1, o.2.1.2.2.2), o.2.2.1, o.2.2.2.1, o.2.2.2.2.1, o.2.2.2.2.2.1, o.2.2.2.2.2.2.1, o.2.2.2.2.2.2.2) = o := rfl
                    try simp only [eO3]
                    have hal : i3 < c.length → (c.take (i3 + 1)).all (mC F r' p) = ((c.take i3).all (mC F r' p) && mC F r' p o) := fun h => by rw [all_succ _ ct0 h, ho_]
                    (repeat' (with_reducible (first | refine And.intro ?_ ?_ | intro _))) <;> (try (first | with_reducible (first | done | assumption | omega | contradiction) | decide))
                    all_goals first
                     | (have hq : ¬ o.2.1.1 = F.1 ∨ ¬ o.2.1.2.1 = F.2.1 ∨ ¬ o.2.1.2.2.1 = F.2.2.1 ∨ ¬ o.2.1.2.2.2 = F.2.2.2 := by assumption
                        have hn : mC F r' p o = true := by unfold mC; rw [decide_eq_false ((fltN o.2.1 F).mp hq)]; rfl
                        have hal := hal (by omega)
                        rw [hn, Bool.and_true] at hal
                        (refine fin_lp ⟨i3 + 1, by omega⟩ ?_ (by dsimp only; omega)
                         subst hBi3
                         simp only [go_sem, Prod.eta, Option.isSome_none, Option.isSome_some, Int.toNat_zero, Nat.reduceAdd, Nat.reduceMul, Nat.reduceSub, Nat.reduceEqDiff, Nat.reduceLT, Nat.reduceLeDiff, Nat.reduceShiftRight, Nat.reduceMod, Nat.reduceBEq, reduceCtorEq, reduceIte, reduceDIte, Int.reduceNeg]
                         simp only [hal, Bool.and_assoc]
                         try (first | rfl | exact ⟨rfl, rfl⟩ | (and_intros <;> first | trivial | rfl | omega))
                         done))
                     | (have hq : o.2.1.1 = F.1 ∧ o.2.1.2.1 = F.2.1 ∧ o.2.1.2.2.1 = F.2.2.1 ∧ o.2.1.2.2.2 = F.2.2.2 := by assumption
                        have hn : mC F r' p o = (!overV o && o.pcs.all (mX r' p)) := by unfold mC; rw [decide_eq_true ((fltE o.2.1 F).mp hq)]; rfl
                        have hal := hal (by omega)
                        rw [hn, ← Bool.and_assoc] at hal
                        have hpl := hsm.2.1 o (by rw [← ho_]; exact getD_mem (by omega))
                        refine evk_loop ⟨{ i : Nat // i ≤ o.pcs.length }, 1000, fun q => [(6, .one (.sl yDP (dW w) false)), (7, .one (.sl yCT c false)), (8, .one (.sl yRU r' false)), (10, .one (.sl yPM p false)), (11, .one (.sl yHH [(1, 1, 0, ho, [], [], [])] false)), (69, .one (.sl (.int .i64) [now, V] false)), (70, .one (.int .i64 2)), (71, .one (.int .i64 i1)), (13, .one (.int .i64 t)), (14, .one (.int .i64 i2)), (15, .one (.loc 75 0)), (16, .one (.bool (G && (c.take i3).all (mC F r' p) && !overV o && (o.pcs.take q.1).all (mX r' p)))), (103, .one (.int .i64 c.length)), (104, .one (.int .i64 i3)), (127, .one (.sl yPC o.pcs false)), (128, .one (.int .i64 o.pcs.length)), (129, .one (.int .i64 q.1))], fun q => [(75, .cells 39 [.str F.1, .int .i64 F.2.1, .str F.2.2.1, .int .i64 F.2.2.2])], fun q => o.pcs.length - q.1⟩ ⟨0, Nat.zero_le _⟩ ?_ ?_
                        · subst hBi3; skip
                          simp only [go_sem, Prod.eta, Option.isSome_none, Option.isSome_some, Int.toNat_zero, Nat.reduceAdd, Nat.reduceMul, Nat.reduceSub, Nat.reduceEqDiff, Nat.reduceLT, Nat.reduceLeDiff, Nat.reduceShiftRight, Nat.reduceMod, Nat.reduceBEq, reduceCtorEq, reduceIte, reduceDIte, Int.reduceNeg]
                          try simp only [List.take_zero, List.all_nil, Bool.and_true]
                          try (first | rfl | exact ⟨rfl, rfl⟩ | (and_intros <;> first | trivial | rfl | omega))
                        · rintro ⟨i4, (hi4 : i4 ≤ o.pcs.length)⟩
                          obtain ⟨Bi4, hBi4⟩ : ∃ b, (G && (c.take i3).all (mC F r' p) && !overV o && (o.pcs.take i4).all (mX r' p)) = b := ⟨_, rfl⟩
                          simp only [hBi4]
                          (simp -implicitDefEqProofs only [go_sem, Prod.eta, Option.isSome_none, Option.isSome_some, Int.toNat_zero, Nat.reduceAdd, Nat.reduceMul, Nat.reduceSub, Nat.reduceEqDiff, Nat.reduceLT, Nat.reduceLeDiff, Nat.reduceShiftRight, Nat.reduceMod, Nat.reduceBEq, reduceCtorEq, reduceIte, reduceDIte, Int.reduceNeg, Bool.not_eq_true', Bool.not_eq_false', Bool.or_eq_true, Bool.or_eq_false_iff, Bool.and_eq_true, Bool.and_eq_false_iff, decide_eq_true_eq, decide_eq_false_iff_not, Classical.not_not, not_or, maxLen, con3, con4, con8, con9, con11, con16, con15, con5, con17, con12, con13, con14, con6, con10, con7, hT, hG, hk, hK, Try.results3]); (try simp (disch := decide +kernel) only [drawn, true_and, and_true])
                          obtain ⟨x, hx_⟩ : ∃ x, o.pcs.getD i4 pc0 = x := ⟨_, rfl⟩
                          have ex : o.pcs.getD (i4 : Int).toNat ((0, 0, 0), 0, 0) = x := hx_
                          try simp only [ex]
                          have eX3 : (x.1.1, x.1.2.1, x.1.2.2) = x.1 := rfl
                          try simp only [eX3]
                          have hax : i4 < o.pcs.length → (o.pcs.take (i4 + 1)).all (mX r' p) = ((o.pcs.take i4).all (mX r' p) && mX r' p x) := fun h => by rw [all_succ _ pc0 h, hx_]
                          (repeat' (with_reducible (first | refine And.intro ?_ ?_ | intro _))) <;> (try (first | with_reducible (first | done | assumption | omega | contradiction) | decide))
                          all_goals first
                           | (have hax := hax (by omega)
                              refine evk_loop ⟨{ i : Nat // i ≤ p.length }, 1000, fun q => [(6, .one (.sl yDP (dW w) false)), (7, .one (.sl yCT c false)), (8, .one (.sl yRU r' false)), (10, .one (.sl yPM p false)), (11, .one (.sl yHH [(1, 1, 0, ho, [], [], [])] false)), (69, .one (.sl (.int .i64) [now, V] false)), (70, .one (.int .i64 2)), (71, .one (.int .i64 i1)), (13, .one (.int .i64 t)), (14, .one (.int .i64 i2)), (15, .one (.loc 75 0)), (16, .one (.bool (G && (c.take i3).all (mC F r' p) && !overV o && (o.pcs.take i4).all (mX r' p) && mayV r' x.1 && (p.take q.1).all (mP x.1)))), (103, .one (.int .i64 c.length)), (104, .one (.int .i64 i3)), (127, .one (.sl yPC o.pcs false)), (128, .one (.int .i64 o.pcs.length)), (129, .one (.int .i64 i4)), (19, .one (.loc 76 0)), (140, .one (.sl yPM p false)), (141, .one (.int .i64 p.length)), (142, .one (.int .i64 q.1))], fun q => [(75, .cells 39 [.str F.1, .int .i64 F.2.1, .str F.2.2.1, .int .i64 F.2.2.2]), (76, .cells 57 [.int .i64 x.1.1, .int .i64 x.1.2.1, .int .i64 x.1.2.2, .int .i64 x.2.1, .int .i64 x.2.2])], fun q => p.length - q.1⟩ ⟨0, Nat.zero_le _⟩ ?_ ?_
                              · subst hBi4; skip
                                simp only [go_sem, Prod.eta, Option.isSome_none, Option.isSome_some, Int.toNat_zero, Nat.reduceAdd, Nat.reduceMul, Nat.reduceSub, Nat.reduceEqDiff, Nat.reduceLT, Nat.reduceLeDiff, Nat.reduceShiftRight, Nat.reduceMod, Nat.reduceBEq, reduceCtorEq, reduceIte, reduceDIte, Int.reduceNeg]
                                try simp only [List.take_zero, List.all_nil, Bool.and_true]
                                try (first | rfl | exact ⟨rfl, rfl⟩ | (and_intros <;> first | trivial | rfl | omega))
                              · rintro ⟨i5, (hi5 : i5 ≤ p.length)⟩
                                obtain ⟨Bi5, hBi5⟩ : ∃ b, (G && (c.take i3).all (mC F r' p) && !overV o && (o.pcs.take i4).all (mX r' p) && mayV r' x.1 && (p.take i5).all (mP x.1)) = b := ⟨_, rfl⟩
                                simp only [hBi5]
                                (simp -implicitDefEqProofs only [go_sem, Prod.eta, Option.isSome_none, Option.isSome_some, Int.toNat_zero, Nat.reduceAdd, Nat.reduceMul, Nat.reduceSub, Nat.reduceEqDiff, Nat.reduceLT, Nat.reduceLeDiff, Nat.reduceShiftRight, Nat.reduceMod, Nat.reduceBEq, reduceCtorEq, reduceIte, reduceDIte, Int.reduceNeg, Bool.not_eq_true', Bool.not_eq_false', Bool.or_eq_true, Bool.or_eq_false_iff, Bool.and_eq_true, Bool.and_eq_false_iff, decide_eq_true_eq, decide_eq_false_iff_not, Classical.not_not, not_or, maxLen, con3, con4, con8, con9, con11, con16, con15, con5, con17, con12, con13, con14, con6, con10, con7, hT, hG, hk, hK, Try.results3]); (try simp (disch := decide +kernel) only [drawn, true_and, and_true])
                                obtain ⟨y, hy_⟩ : ∃ y, p.getD i5 pm0 = y := ⟨_, rfl⟩
                                have ey : p.getD (i5 : Int).toNat (((0, 0, 0), 0, 0), 0, []) = y := hy_
                                try simp only [ey]
                                have hay : i5 < p.length → (p.take (i5 + 1)).all (mP x.1) = ((p.take i5).all (mP x.1) && mP x.1 y) := fun h => by rw [all_succ _ pm0 h, hy_]
                                try simp only [pltD]
                                (repeat' (with_reducible (first | refine And.intro ?_ ?_ | intro _))) <;> (try (first | with_reducible (first | done | assumption | omega | contradiction) | decide))
                                all_goals first
                                 | (have hay := hay (by omega)
                                    unfold mP at hay
                                    (refine fin_lp ⟨i5 + 1, by omega⟩ ?_ (by dsimp only; omega)
                                     subst hBi5
                                     simp only [go_sem, Prod.eta, Option.isSome_none, Option.isSome_some, Int.toNat_zero, Nat.reduceAdd, Nat.reduceMul, Nat.reduceSub, Nat.reduceEqDiff, Nat.reduceLT, Nat.reduceLeDiff, Nat.reduceShiftRight, Nat.reduceMod, Nat.reduceBEq, reduceCtorEq, reduceIte, reduceDIte, Int.reduceNeg]
                                     unfold mP
                                     simp only [hay, Bool.and_assoc]
                                     try (first | rfl | exact ⟨rfl, rfl⟩ | (and_intros <;> first | trivial | rfl | omega))
                                     done))
                                 | (have e4 : p.take i5 = p := List.take_of_length_le (by omega)
                                    unfold mX at hax
                                    (refine fin_lp ⟨i4 + 1, by omega⟩ ?_ (by dsimp only; omega)
                                     subst hBi5
                                     simp only [go_sem, Prod.eta, Option.isSome_none, Option.isSome_some, Int.toNat_zero, Nat.reduceAdd, Nat.reduceMul, Nat.reduceSub, Nat.reduceEqDiff, Nat.reduceLT, Nat.reduceLeDiff, Nat.reduceShiftRight, Nat.reduceMod, Nat.reduceBEq, reduceCtorEq, reduceIte, reduceDIte, Int.reduceNeg]
                                     unfold mX
                                     simp only [hax, e4, Bool.and_assoc]
                                     try (first | rfl | exact ⟨rfl, rfl⟩ | (and_intros <;> first | trivial | rfl | omega))
                                     done))
                                 | fail)
                           | (have e4 : o.pcs.take i4 = o.pcs := List.take_of_length_le (by omega)
                              (refine fin_lp ⟨i3 + 1, by omega⟩ ?_ (by dsimp only; omega)
                               subst hBi4
                               simp only [go_sem, Prod.eta, Option.isSome_none, Option.isSome_some, Int.toNat_zero, Nat.reduceAdd, Nat.reduceMul, Nat.reduceSub, Nat.reduceEqDiff, Nat.reduceLT, Nat.reduceLeDiff, Nat.reduceShiftRight, Nat.reduceMod, Nat.reduceBEq, reduceCtorEq, reduceIte, reduceDIte, Int.reduceNeg]
                               simp only [hal, e4, Bool.and_assoc]
                               try (first | rfl | exact ⟨rfl, rfl⟩ | (and_intros <;> first | trivial | rfl | omega))
                               done))
                           | fail)
                     | (have e4 : c.take i3 = c := List.take_of_length_le (by omega)
                        rw [e4] at hBi3
                        refine evk_loop ⟨{ i : Nat // i ≤ p.length }, 1000, fun q => [(6, .one (.sl yDP (dW w) false)), (7, .one (.sl yCT c false)), (8, .one (.sl yRU r' false)), (10, .one (.sl yPM p false)), (11, .one (.sl yHH [(1, 1, 0, ho, [], [], [])] false)), (69, .one (.sl (.int .i64) [now, V] false)), (70, .one (.int .i64 2)), (71, .one (.int .i64 i1)), (13, .one (.int .i64 t)), (14, .one (.int .i64 i2)), (15, .one (.loc 75 0)), (16, .one (.bool (G && c.all (mC F r' p) && (p.take q.1).all (mY F c r')))), (164, .one (.sl yPM p false)), (165, .one (.int .i64 p.length)), (166, .one (.int .i64 q.1))], fun q => [(75, .cells 39 [.str F.1, .int .i64 F.2.1, .str F.2.2.1, .int .i64 F.2.2.2])], fun q => p.length - q.1⟩ ⟨0, Nat.zero_le _⟩ ?_ ?_
                        · subst hBi3; skip
                          simp only [go_sem, Prod.eta, Option.isSome_none, Option.isSome_some, Int.toNat_zero, Nat.reduceAdd, Nat.reduceMul, Nat.reduceSub, Nat.reduceEqDiff, Nat.reduceLT, Nat.reduceLeDiff, Nat.reduceShiftRight, Nat.reduceMod, Nat.reduceBEq, reduceCtorEq, reduceIte, reduceDIte, Int.reduceNeg]
                          try simp only [List.take_zero, List.all_nil, Bool.and_true]
                          try (first | rfl | exact ⟨rfl, rfl⟩ | (and_intros <;> first | trivial | rfl | omega))
                        · rintro ⟨i6, (hi6 : i6 ≤ p.length)⟩
                          obtain ⟨Bi6, hBi6⟩ : ∃ b, (G && c.all (mC F r' p) && (p.take i6).all (mY F c r')) = b := ⟨_, rfl⟩
                          simp only [hBi6]
                          (simp -implicitDefEqProofs only [go_sem, Prod.eta, Option.isSome_none, Option.isSome_some, Int.toNat_zero, Nat.reduceAdd, Nat.reduceMul, Nat.reduceSub, Nat.reduceEqDiff, Nat.reduceLT, Nat.reduceLeDiff, Nat.reduceShiftRight, Nat.reduceMod, Nat.reduceBEq, reduceCtorEq, reduceIte, reduceDIte, Int.reduceNeg, Bool.not_eq_true', Bool.not_eq_false', Bool.or_eq_true, Bool.or_eq_false_iff, Bool.and_eq_true, Bool.and_eq_false_iff, decide_eq_true_eq, decide_eq_false_iff_not, Classical.not_not, not_or, maxLen, con3, con4, con8, con9, con11, con16, con15, con5, con17, con12, con13, con14, con6, con10, con7, hT, hG, hk, hK, Try.results3]); (try simp (disch := decide +kernel) only [drawn, true_and, and_true])
                          obtain ⟨y, hy_⟩ : ∃ y, p.getD i6 pm0 = y := ⟨_, rfl⟩
                          have ey : p.getD (i6 : Int).toNat (((0, 0, 0), 0, 0), 0, []) = y := hy_
                          try simp only [ey]
                          have hay : i6 < p.length → (p.take (i6 + 1)).all (mY F c r') = ((p.take i6).all (mY F c r') && mY F c r' y) := fun h => by rw [all_succ _ pm0 h, hy_]
                          (repeat' (with_reducible (first | refine And.intro ?_ ?_ | intro _))) <;> (try (first | with_reducible (first | done | assumption | omega | contradiction) | decide))
                          all_goals first
                           | (have hay := hay (by omega)
                              have hyl := hsm.2.2.2 y (by rw [← hy_]; exact getD_mem (by omega))
                              refine evk_loop ⟨{ i : Nat // i ≤ y.2.2.length }, 1000, fun q => [(6, .one (.sl yDP (dW w) false)), (7, .one (.sl yCT c false)), (8, .one (.sl yRU r' false)), (10, .one (.sl yPM p false)), (11, .one (.sl yHH [(1, 1, 0, ho, [], [], [])] false)), (69, .one (.sl (.int .i64) [now, V] false)), (70, .one (.int .i64 2)), (71, .one (.int .i64 i1)), (13, .one (.int .i64 t)), (14, .one (.int .i64 i2)), (15, .one (.loc 75 0)), (16, .one (.bool (G && c.all (mC F r' p) && (p.take i6).all (mY F c r') && (y.2.2.take q.1).all (mN F c r' y)))), (164, .one (.sl yPM p false)), (165, .one (.int .i64 p.length)), (166, .one (.int .i64 i6)), (23, .one (.loc 77 0)), (171, .one (.sl (.int .i64) y.2.2 false)), (172, .one (.int .i64 y.2.2.length)), (173, .one (.int .i64 q.1))], fun q => [(75, .cells 39 [.str F.1, .int .i64 F.2.1, .str F.2.2.1, .int .i64 F.2.2.2]), (77, .cells 60 [.int .i64 y.1.1.1, .int .i64 y.1.1.2.1, .int .i64 y.1.1.2.2, .int .i64 y.1.2.1, .int .i64 y.1.2.2, .int .i64 y.2.1, .sl (.int .i64) y.2.2 false])], fun q => y.2.2.length - q.1⟩ ⟨0, Nat.zero_le _⟩ ?_ ?_
                              · subst hBi6; skip
                                simp only [go_sem, Prod.eta, Option.isSome_none, Option.isSome_some, Int.toNat_zero, Nat.reduceAdd, Nat.reduceMul, Nat.reduceSub, Nat.reduceEqDiff, Nat.reduceLT, Nat.reduceLeDiff, Nat.reduceShiftRight, Nat.reduceMod, Nat.reduceBEq, reduceCtorEq, reduceIte, reduceDIte, Int.reduceNeg]
                                try simp only [List.take_zero, List.all_nil, Bool.and_true]
                                try (first | rfl | exact ⟨rfl, rfl⟩ | (and_intros <;> first | trivial | rfl | omega))
                              · rintro ⟨i7, (hi7 : i7 ≤ y.2.2.length)⟩
                                obtain ⟨Bi7, hBi7⟩ : ∃ b, (G && c.all (mC F r' p) && (p.take i6).all (mY F c r') && (y.2.2.take i7).all (mN F c r' y)) = b := ⟨_, rfl⟩
                                simp only [hBi7]
                                (simp -implicitDefEqProofs only [go_sem, Prod.eta, Option.isSome_none, Option.isSome_some, Int.toNat_zero, Nat.reduceAdd, Nat.reduceMul, Nat.reduceSub, Nat.reduceEqDiff, Nat.reduceLT, Nat.reduceLeDiff, Nat.reduceShiftRight, Nat.reduceMod, Nat.reduceBEq, reduceCtorEq, reduceIte, reduceDIte, Int.reduceNeg, Bool.not_eq_true', Bool.not_eq_false', Bool.or_eq_true, Bool.or_eq_false_iff, Bool.and_eq_true, Bool.and_eq_false_iff, decide_eq_true_eq, decide_eq_false_iff_not, Classical.not_not, not_or, maxLen, con3, con4, con8, con9, con11, con16, con15, con5, con17, con12, con13, con14, con6, con10, con7, hT, hG, hk, hK, Try.results3]); (try simp (disch := decide +kernel) only [drawn, true_and, and_true])
                                obtain ⟨n, hn_⟩ : ∃ n, y.2.2.getD i7 0 = n := ⟨_, rfl⟩
                                have en : y.2.2.getD (i7 : Int).toNat 0 = n := hn_
                                try simp only [en]
                                have han : i7 < y.2.2.length → (y.2.2.take (i7 + 1)).all (mN F c r' y) = ((y.2.2.take i7).all (mN F c r' y) && mN F c r' y n) := fun h => by rw [all_succ _ 0 h, hn_]
                                (repeat' (with_reducible (first | refine And.intro ?_ ?_ | intro _))) <;> (try (first | with_reducible (first | done | assumption | omega | contradiction) | decide))
                                all_goals first
                                 | (have han := han (by omega)
                                    refine evk_loop ⟨{ i : Nat // i ≤ c.length }, 1000, fun q => [(6, .one (.sl yDP (dW w) false)), (7, .one (.sl yCT c false)), (8, .one (.sl yRU r' false)), (10, .one (.sl yPM p false)), (11, .one (.sl yHH [(1, 1, 0, ho, [], [], [])] false)), (69, .one (.sl (.int .i64) [now, V] false)), (70, .one (.int .i64 2)), (71, .one (.int .i64 i1)), (13, .one (.int .i64 t)), (14, .one (.int .i64 i2)), (15, .one (.loc 75 0)), (16, .one (.bool (G && c.all (mC F r' p) && (p.take i6).all (mY F c r') && (y.2.2.take i7).all (mN F c r' y) && (c.take q.1).all (mO F r' y n)))), (164, .one (.sl yPM p false)), (165, .one (.int .i64 p.length)), (166, .one (.int .i64 i6)), (23, .one (.loc 77 0)), (171, .one (.sl (.int .i64) y.2.2 false)), (172, .one (.int .i64 y.2.2.length)), (173, .one (.int .i64 i7)), (25, .one (.int .i64 n)), (178, .one (.int .i64 c.length)), (179, .one (.int .i64 q.1))], fun q => [(75, .cells 39 [.str F.1, .int .i64 F.2.1, .str F.2.2.1, .int .i64 F.2.2.2]), (77, .cells 60 [.int .i64 y.1.1.1, .int .i64 y.1.1.2.1, .int .i64 y.1.1.2.2, .int .i64 y.1.2.1, .int .i64 y.1.2.2, .int .i64 y.2.1, .sl (.int .i64) y.2.2 false])], fun q => c.length - q.1⟩ ⟨0, Nat.zero_le _⟩ ?_ ?_
                                    · subst hBi7; skip
                                      simp only [go_sem, Prod.eta, Option.isSome_none, Option.isSome_some, Int.toNat_zero, Nat.reduceAdd, Nat.reduceMul, Nat.reduceSub, Nat.reduceEqDiff, Nat.reduceLT, Nat.reduceLeDiff, Nat.reduceShiftRight, Nat.reduceMod, Nat.reduceBEq, reduceCtorEq, reduceIte, reduceDIte, Int.reduceNeg]
                                      try simp only [List.take_zero, List.all_nil, Bool.and_true]
                                      try (first | rfl | exact ⟨rfl, rfl⟩ | (and_intros <;> first | trivial | rfl | omega))
                                    · rintro ⟨i8, (hi8 : i8 ≤ c.length)⟩
                                      obtain ⟨Bi8, hBi8⟩ : ∃ b, (G && c.all (mC F r' p) && (p.take i6).all (mY F c r') && (y.2.2.take i7).all (mN F c r' y) && (c.take i8).all (mO F r' y n)) = b := ⟨_, rfl⟩
                                      simp only [hBi8]
                                      (simp -implicitDefEqProofs only [go_sem, Prod.eta, Option.isSome_none, Option.isSome_some, Int.toNat_zero, Nat.reduceAdd, Nat.reduceMul, Nat.reduceSub, Nat.reduceEqDiff, Nat.reduceLT, Nat.reduceLeDiff, Nat.reduceShiftRight, Nat.reduceMod, Nat.reduceBEq, reduceCtorEq, reduceIte, reduceDIte, Int.reduceNeg, Bool.not_eq_true', Bool.not_eq_false', Bool.or_eq_true, Bool.or_eq_false_iff, Bool.and_eq_true, Bool.and_eq_false_iff, decide_eq_true_eq, decide_eq_false_iff_not, Classical.not_not, not_or, maxLen, con3, con4, con8, con9, con11, con16, con15, con5, con17, con12, con13, con14, con6, con10, con7, hT, hG, hk, hK, Try.results3]); (try simp (disch := decide +kernel) only [drawn, true_and, and_true])
                                      obtain ⟨o, ho_⟩ : ∃ o, c.getD i8 ct0 = o := ⟨_, rfl⟩
                                      have eo : c.getD (i8 : Int).toNat (0, (ByteArray.empty, 0, ByteArray.empty, 0), 0, 0, 0, 0, 0, []) = o := ho_
                                      try simp only [eo]
                                      have hao : i8 < c.length → (c.take (i8 + 1)).all (mO F r' y n) = ((c.take i8).all (mO F r' y n) && mO F r' y n o) := fun h => by rw [all_succ _ ct0 h, ho_]
                                      have eY3 : (y.1.1.1, y.1.1.2.1, y.1.1.2.2) = y.1.1 := rfl
                                      try simp only [eY3]
                                      (repeat' (with_reducible (first | refine And.intro ?_ ?_ | intro _))) <;> (try (first | with_reducible (first | done | assumption | omega | contradiction) | decide))
                                      all_goals first
                                       | (have hq : o.1 = n ∧ (o.2.1.1 = F.1 ∧ o.2.1.2.1 = F.2.1 ∧ o.2.1.2.2.1 = F.2.2.1 ∧ o.2.1.2.2.2 = F.2.2.2) := by assumption
                                          have hn2 : mO F r' y n o = (decide ((y.2.2.length : Int) < 2) && mayV r' y.1.1) := by unfold mO; rw [decide_eq_true hq.1, decide_eq_true ((fltE o.2.1 F).mp hq.2)]; rfl
                                          have hao := hao (by omega)
                                          rw [hn2, ← Bool.and_assoc] at hao
                                          (refine fin_lp ⟨i8 + 1, by omega⟩ ?_ (by dsimp only; omega)
                                           subst hBi8
                                           simp only [go_sem, Prod.eta, Option.isSome_none, Option.isSome_some, Int.toNat_zero, Nat.reduceAdd, Nat.reduceMul, Nat.reduceSub, Nat.reduceEqDiff, Nat.reduceLT, Nat.reduceLeDiff, Nat.reduceShiftRight, Nat.reduceMod, Nat.reduceBEq, reduceCtorEq, reduceIte, reduceDIte, Int.reduceNeg]
                                           simp only [hao, Bool.and_assoc]
                                           try (first | rfl | exact ⟨rfl, rfl⟩ | (and_intros <;> first | trivial | rfl | omega))
                                           done))
                                       | (have hq : ¬ o.1 = n ∨ (¬ o.2.1.1 = F.1 ∨ ¬ o.2.1.2.1 = F.2.1 ∨ ¬ o.2.1.2.2.1 = F.2.2.1 ∨ ¬ o.2.1.2.2.2 = F.2.2.2) := by assumption
                                          have hn2 : mO F r' y n o = true := by
                                           unfold mO
                                           rcases hq with hq | hq
                                           · rw [decide_eq_false hq]; rfl
                                           · rw [decide_eq_false ((fltN o.2.1 F).mp hq), Bool.and_false]; rfl
                                          have hao := hao (by omega)
                                          rw [hn2, Bool.and_true] at hao
                                          (refine fin_lp ⟨i8 + 1, by omega⟩ ?_ (by dsimp only; omega)
                                           subst hBi8
                                           simp only [go_sem, Prod.eta, Option.isSome_none, Option.isSome_some, Int.toNat_zero, Nat.reduceAdd, Nat.reduceMul, Nat.reduceSub, Nat.reduceEqDiff, Nat.reduceLT, Nat.reduceLeDiff, Nat.reduceShiftRight, Nat.reduceMod, Nat.reduceBEq, reduceCtorEq, reduceIte, reduceDIte, Int.reduceNeg]
                                           simp only [hao, Bool.and_assoc]
                                           try (first | rfl | exact ⟨rfl, rfl⟩ | (and_intros <;> first | trivial | rfl | omega))
                                           done))
                                       | (have e4 : c.take i8 = c := List.take_of_length_le (by omega)
                                          unfold mN at han
                                          (refine fin_lp ⟨i7 + 1, by omega⟩ ?_ (by dsimp only; omega)
                                           subst hBi8
                                           simp only [go_sem, Prod.eta, Option.isSome_none, Option.isSome_some, Int.toNat_zero, Nat.reduceAdd, Nat.reduceMul, Nat.reduceSub, Nat.reduceEqDiff, Nat.reduceLT, Nat.reduceLeDiff, Nat.reduceShiftRight, Nat.reduceMod, Nat.reduceBEq, reduceCtorEq, reduceIte, reduceDIte, Int.reduceNeg]
                                           unfold mN
                                           simp only [han, e4, Bool.and_assoc]
                                           try (first | rfl | exact ⟨rfl, rfl⟩ | (and_intros <;> first | trivial | rfl | omega))
                                           done))
                                       | fail)
                                 | (have e4 : y.2.2.take i7 = y.2.2 := List.take_of_length_le (by omega)
                                    unfold mY at hay
                                    (refine fin_lp ⟨i6 + 1, by omega⟩ ?_ (by dsimp only; omega)
                                     subst hBi7
                                     simp only [go_sem, Prod.eta, Option.isSome_none, Option.isSome_some, Int.toNat_zero, Nat.reduceAdd, Nat.reduceMul, Nat.reduceSub, Nat.reduceEqDiff, Nat.reduceLT, Nat.reduceLeDiff, Nat.reduceShiftRight, Nat.reduceMod, Nat.reduceBEq, reduceCtorEq, reduceIte, reduceDIte, Int.reduceNeg]
                                     unfold mY
                                     simp only [hay, e4, Bool.and_assoc]
                                     try (first | rfl | exact ⟨rfl, rfl⟩ | (and_intros <;> first | trivial | rfl | omega))
                                     done))
                                 | fail)
                           | (have e4 : p.take i6 = p := List.take_of_length_le (by omega)
                              rw [e4] at hBi6
                              rename_i hx
                              exact hx (hfin.trans hBi6))
                           | (refine fin_lp ⟨i2 + 1, by omega⟩ ?_ (by dsimp only; omega)
                              simp only [go_sem, Prod.eta, Option.isSome_none, Option.isSome_some, Int.toNat_zero, Nat.reduceAdd, Nat.reduceMul, Nat.reduceSub, Nat.reduceEqDiff, Nat.reduceLT, Nat.reduceLeDiff, Nat.reduceShiftRight, Nat.reduceMod, Nat.reduceBEq, reduceCtorEq, reduceIte, reduceDIte, Int.reduceNeg]
                              try (first | rfl | exact ⟨rfl, rfl⟩ | (and_intros <;> first | trivial | rfl | omega))
                              done)
                           | fail)
                     | fail)
               | (refine fin_lp ⟨i1 + 1, by omega⟩ ?_ (by dsimp only; omega)
                  simp only [go_sem, Prod.eta, Option.isSome_none, Option.isSome_some, Int.toNat_zero, Nat.reduceAdd, Nat.reduceMul, Nat.reduceSub, Nat.reduceEqDiff, Nat.reduceLT, Nat.reduceLeDiff, Nat.reduceShiftRight, Nat.reduceMod, Nat.reduceBEq, reduceCtorEq, reduceIte, reduceDIte, Int.reduceNeg]
                  try (first | rfl | exact ⟨rfl, rfl⟩ | (and_intros <;> first | trivial | rfl | omega))
                  done)
               | fail)
         | fail)
   | fail)
end Go.Proofs.Ytjhoidgpecgfoaa
