/- The contracts of the reference's functions: Validate, Valid. -/
import Derived.Test.YtfaoonbnbdlgaaaRlRFToRV
set_option linter.unusedSimpArgs false
set_option linter.unusedVariables false
set_option maxRecDepth 100000
set_option maxHeartbeats 4000000
namespace Go.Proofs.Ytfaoonbnbdlgaaa
open Go.Ev

theorem fltC_pos1 {a b : Flt} (h : fltC a b > 0) : fltC a b = 1 := by
 have := fltC_cmp.unit a b
 omega
def con36 : Con := { ps := [.d false (.sl yDP)], rs := [.d false (.int .i64)], pre := fun _ => True, out := fun x => (validateV x.1, ()), nw := id }
theorem c36 : CtrOk Try.prog 36 con36.ctr :=
 con_sound (G := ⟨[(43, con43.ctr), (63, con63.ctr)], [], [], [], []⟩) tab_ok (EnvOk.cons c43 has43 (EnvOk.cons c63 has63 EnvOk.nil)) rfl Try.func36 rfl con36 171801315485 (by kernel_rfl) (by decide) (by decide) rfl (by decide) rfl (by
  rintro ⟨(l : List Dep), _⟩ hpre hwf X hT hG hk hK
  (simp -implicitDefEqProofs (maxSteps := 4000000) only [go_sem, Bool.not_eq_true', Bool.not_eq_false', Bool.or_eq_true, Bool.or_eq_false_iff, Bool.and_eq_true, Bool.and_eq_false_iff, decide_eq_true_eq, decide_eq_false_iff_not, Classical.not_not, not_or, maxLen, con36, con43, con63, hT, hG, hk, hK, Try.results36] at hwf ⊢); (try simp (disch := decide +kernel) only [drawn, true_and, and_true])
  (repeat' (with_reducible (first | refine And.intro ?_ ?_ | intro _))) <;> (try (first | with_reducible (first | done | assumption | omega | contradiction) | decide))
  · rename_i h
    unfold validateV; rw [if_pos h]
  · have e0 : validateV l = valF none l := by unfold validateV; rw [if_neg (by omega)]
    refine evk_loop ⟨{ i : Nat // i ≤ l.length ∧ valF none l = valF (prevF l i) (l.drop i) }, 1000, fun i => [(0, .one (.sl yDP l false)), (3, .one (.int .i64 i.1))], fun _ => [], fun i => l.length - i.1⟩ ⟨0, by simp, by simp [prevF]⟩ ?_ ?_
    · simp only [go_sem]
      rfl
    · rintro ⟨i, (hi : i ≤ l.length), (he : valF none l = valF (prevF l i) (l.drop i))⟩
      (simp -implicitDefEqProofs (maxSteps := 4000000) only [go_sem, Bool.not_eq_true', Bool.not_eq_false', Bool.or_eq_true, Bool.or_eq_false_iff, Bool.and_eq_true, Bool.and_eq_false_iff, decide_eq_true_eq, decide_eq_false_iff_not, Classical.not_not, not_or, maxLen, con36, con43, con63, hT, hG, hk, hK, Try.results36]); (try simp (disch := decide +kernel) only [drawn, true_and, and_true])
      refine fun _ => ⟨fun hlt => ?_, fun hge => ?_⟩
      · have hi' : i < l.length := by omega
        have ek : ∀ z, l.getD (i : Int).toNat z = l[i] := fun z => by simp [hi']
        simp only [ek]
        have hp : prevF l (i + 1) = some l[i].1 := by
         unfold prevF
         rw [dif_pos ⟨by omega, by omega⟩]
         rfl
        have hst : valF none l = if validV l[i] = false then 1 else match prevF l i with
         | none => valF (prevF l (i + 1)) (l.drop (i + 1))
         | some f => if fltC f l[i].1 = 0 then 5 else if fltC f l[i].1 = 1 then 9 else valF (prevF l (i + 1)) (l.drop (i + 1)) := by
         rw [he, List.drop_eq_getElem_cons hi', hp]
         generalize prevF l i = q
         cases q <;> rfl
        have hp2 : ∀ z, 0 < i → prevF l i = some (l.getD ((i : Int) - 1).toNat z).1 := fun z h => by
         unfold prevF
         rw [dif_pos ⟨h, by omega⟩]
         have e2 : ((i : Int) - 1).toNat = i - 1 := by omega
         rw [e2]
         simp [show i - 1 < l.length by omega]
        (repeat' (with_reducible (first | refine And.intro ?_ ?_ | intro _))) <;> (try (first | with_reducible (first | done | assumption | omega | contradiction) | decide))
        · rename_i h
          rw [e0, hst, if_pos h]
        · have h1 : validV l[i] = true := by assumption
          have hp0 : prevF l i = none := by unfold prevF; rw [dif_neg (by omega)]
          refine fin_lp ⟨i + 1, by omega, by rw [hst, if_neg (by rw [h1]; simp), hp0]⟩ (by simp only [go_sem]; first | rfl | ((repeat' apply And.intro) <;> first | rfl | assumption | omega)) (by dsimp only; omega)
        · rename_i h
          have h1 : validV l[i] = true := by assumption
          rw [e0, hst, if_neg (by rw [h1]; simp), hp2 _ (by omega)]
          dsimp only
          rw [if_pos h]
        · rename_i h3 h
          have h1 : validV l[i] = true := by assumption
          rw [e0, hst, if_neg (by rw [h1]; simp), hp2 _ (by omega)]
          dsimp only
          rw [if_neg h3, if_pos (fltC_pos1 h)]
        · rename_i h3 h
          have h1 : validV l[i] = true := by assumption
          refine fin_lp ⟨i + 1, by omega, by rw [hst, if_neg (by rw [h1]; simp), hp2 _ (by omega)]; dsimp only; rw [if_neg h3, if_neg (by omega)]⟩ (by simp only [go_sem]; first | rfl | ((repeat' apply And.intro) <;> first | rfl | assumption | omega)) (by dsimp only; omega)
      · rw [e0, he, List.drop_of_length_le (by omega)]
        rfl)
def con37 : Con := { ps := [.d false (.sl yDP), .d false (.sl (.int .i64))], rs := [.d false (.int .i64)], pre := fun (x : List Dep × List Int × Unit) => x.1.length ≤ 1048576, out := fun x => (argsV x.1 x.2.1, ()), nw := id }
theorem c37 : CtrOk Try.prog 37 con37.ctr :=
 con_sound (G := ⟨[(36, con36.ctr), (49, con49.ctr)], [], [], [], []⟩) tab_ok (EnvOk.cons c36 has36 (EnvOk.cons c49 has49 EnvOk.nil)) rfl Try.func37 rfl con37 281548026808563 (by kernel_rfl) (by decide) (by decide) rfl (by decide) rfl (by
  rintro ⟨(l : List Dep), (cs : List Int), _⟩ hpre hwf X hT hG hk hK
  have hl : l.length ≤ 1048576 := hpre
  (simp -implicitDefEqProofs (maxSteps := 4000000) only [go_sem, Bool.not_eq_true', Bool.not_eq_false', Bool.or_eq_true, Bool.or_eq_false_iff, Bool.and_eq_true, Bool.and_eq_false_iff, decide_eq_true_eq, decide_eq_false_iff_not, Classical.not_not, not_or, maxLen, con37, con36, con49, hT, hG, hk, hK, Try.results37] at hwf ⊢); (try simp (disch := decide +kernel) only [drawn, true_and, and_true])
  (repeat' (with_reducible (first | refine And.intro ?_ ?_ | intro _))) <;> (try (first | with_reducible (first | done | assumption | omega | contradiction) | decide))
  · rename_i h
    unfold argsV; rw [if_pos h]
  · have h0 : validateV l = 0 := by assumption
    have h1 : ((planV l).length : Int) > 16 ∨ (cs.length : Int) > 6 := by assumption
    unfold argsV; rw [if_neg (by omega), if_pos h1]
  · have h0 : validateV l = 0 := by assumption
    have h1 : ¬ ((planV l).length : Int) > 16 ∧ ¬ (cs.length : Int) > 6 := by assumption
    have e0 : argsV l cs = if cs.all (fun c => decide (0 ≤ c)) = false then 1 else if ascI cs = false then 9 else 0 := by
     unfold argsV; rw [if_neg (by omega), if_neg (by omega)]
    refine evk_loop ⟨{ i : Nat // i ≤ cs.length ∧ (cs.take i).all (fun c => decide (0 ≤ c)) = true }, 1000, fun i => [(1, .one (.sl (.int .i64) cs false)), (6, .one (.int .i64 i.1))], fun _ => [], fun i => cs.length - i.1⟩ ⟨0, by simp, by simp⟩ ?_ ?_
    · simp only [go_sem]
      rfl
    · rintro ⟨i, (hi : i ≤ cs.length), (hx : (cs.take i).all (fun c => decide (0 ≤ c)) = true)⟩
      (simp -implicitDefEqProofs (maxSteps := 4000000) only [go_sem, Bool.not_eq_true', Bool.not_eq_false', Bool.or_eq_true, Bool.or_eq_false_iff, Bool.and_eq_true, Bool.and_eq_false_iff, decide_eq_true_eq, decide_eq_false_iff_not, Classical.not_not, not_or, maxLen, con37, con36, con49, hT, hG, hk, hK, Try.results37]); (try simp (disch := decide +kernel) only [drawn, true_and, and_true])
      refine fun _ => ⟨fun hlt => ?_, fun hge => ?_⟩
      · have hi' : i < cs.length := by omega
        have ek : ∀ z, cs.getD (i : Int).toNat z = cs[i] := fun z => by simp [hi']
        simp only [ek]
        (repeat' (with_reducible (first | refine And.intro ?_ ?_ | intro _))) <;> (try (first | with_reducible (first | done | assumption | omega | contradiction) | decide))
        · rename_i h
          rw [e0, if_pos]
          rw [List.all_eq_false]
          exact ⟨cs[i], List.getElem_mem hi', by rw [decide_eq_true_eq]; omega⟩
        · rename_i h
          refine fin_lp ⟨i + 1, by omega, by rw [List.take_succ_eq_append_getElem hi', List.all_append, hx]; simp; omega⟩ (by simp only [go_sem]; first | rfl | ((repeat' apply And.intro) <;> first | rfl | assumption | omega)) (by dsimp only; omega)
      · rw [List.take_of_length_le (by omega)] at hx
        have e1 : argsV l cs = if ascI cs = false then 9 else 0 := by rw [e0, if_neg (by rw [hx]; simp)]
        refine evk_loop ⟨{ i : Nat // (i ≤ cs.length ∨ i = 0) ∧ ascI cs = ascI (cs.drop i) }, 2000, fun i => [(1, .one (.sl (.int .i64) cs false)), (7, .one (.int .i64 (i.1 + 1)))], fun _ => [], fun i => cs.length - i.1⟩ ⟨0, by simp, by simp⟩ ?_ ?_
        · simp only [go_sem]
          rfl
        · rintro ⟨i, (hi : i ≤ cs.length ∨ i = 0), (he : ascI cs = ascI (cs.drop i))⟩
          (simp -implicitDefEqProofs (maxSteps := 4000000) only [go_sem, Bool.not_eq_true', Bool.not_eq_false', Bool.or_eq_true, Bool.or_eq_false_iff, Bool.and_eq_true, Bool.and_eq_false_iff, decide_eq_true_eq, decide_eq_false_iff_not, Classical.not_not, not_or, maxLen, con37, con36, con49, hT, hG, hk, hK, Try.results37]); (try simp (disch := decide +kernel) only [drawn, true_and, and_true])
          refine fun _ => ⟨fun hlt => ?_, fun hge => ?_⟩
          · have hi' : i < cs.length := by omega
            have hi2 : i + 1 < cs.length := by omega
            have ek : ∀ z, cs.getD ((i : Int) + 1).toNat z = cs[i + 1] := fun z => by
             rw [show ((i : Int) + 1).toNat = i + 1 by omega]; simp [hi2]
            have ek2 : ∀ z, cs.getD ((i : Int) + 1 - 1).toNat z = cs[i] := fun z => by
             rw [show ((i : Int) + 1 - 1).toNat = i by omega]; simp [hi']
            simp only [ek, ek2]
            have hst : ascI cs = (decide (cs[i] < cs[i + 1]) && ascI (cs.drop (i + 1))) := by
             rw [he, List.drop_eq_getElem_cons hi', List.drop_eq_getElem_cons hi2, ascI]
            (repeat' (with_reducible (first | refine And.intro ?_ ?_ | intro _))) <;> (try (first | with_reducible (first | done | assumption | omega | contradiction) | decide))
            · rename_i h
              rw [e1, hst, decide_eq_false (by omega)]
              rfl
            · rename_i h
              refine fin_lp ⟨i + 1, by omega, by rw [hst, decide_eq_true (by omega)]; rfl⟩ (by simp only [go_sem]; first | rfl | ((repeat' apply And.intro) <;> first | rfl | assumption | omega)) (by dsimp only; omega)
          · have ha : ascI cs = true := by
             rw [he]
             rcases h : cs.drop i with _ | ⟨a, _ | ⟨b, q⟩⟩
             · rfl
             · rfl
             · have := congrArg List.length h
               rw [List.length_drop] at this
               simp only [List.length_cons] at this
               omega
            rw [e1, if_neg (by rw [ha]; simp)])
end Go.Proofs.Ytfaoonbnbdlgaaa

/- The contracts of the reference's functions: ByOpens, Place. -/
set_option linter.unusedSimpArgs false
set_option linter.unusedVariables false
set_option maxRecDepth 100000
set_option maxHeartbeats 4000000
namespace Go.Proofs.Ytfaoonbnbdlgaaa
open Go.Ev

theorem shift_ins {α : Type} (P : List α) (z : α) (k : Nat) (hk : k ≤ P.length) : ∃ c, (P ++ [z]).take (k + 1) ++ (((P ++ [z]).take (k + (P.length + 1 - k))).drop k |>.take (min (P.length - k) (((P ++ [z]).take (k + (P.length + 1 - k))).drop k).length)) ++ (P ++ [z]).drop (k + 1 + min (P.length - k) (((P ++ [z]).take (k + (P.length + 1 - k))).drop k).length) = P.take k ++ c :: P.drop k := by
 have e1 : (P ++ [z]).take (k + (P.length + 1 - k)) = P ++ [z] := List.take_of_length_le (by simp; omega)
 have e2 : (P ++ [z]).drop k = P.drop k ++ [z] := by
  rw [List.drop_append, show k - P.length = 0 by omega]; rfl
 have e3 : min (P.length - k) (P.drop k ++ [z]).length = P.length - k := by
  simp
 have e4 : (P.drop k ++ [z]).take (P.length - k) = P.drop k := by
  rw [List.take_append_of_le_length (by rw [List.length_drop]; omega), List.take_of_length_le (by rw [List.length_drop]; omega)]
 have e5 : (P ++ [z]).drop (k + 1 + (P.length - k)) = [] := List.drop_of_length_le (by simp; omega)
 have hk2 : k < (P ++ [z]).length := by simp; omega
 have e6 : (P ++ [z]).take (k + 1) = P.take k ++ [(P ++ [z])[k]] := by
  rw [List.take_succ_eq_append_getElem hk2, List.take_append_of_le_length hk]
 refine ⟨(P ++ [z])[k], ?_⟩
 rw [e1, e2, e3, e4, e5, e6]
 simp
theorem set_mid {α : Type} (A B : List α) (c x : α) (k : Nat) (h : A.length = k) : (A ++ c :: B).set k x = A ++ x :: B := by
 subst h
 simp
def con42 : Con := { ps := [.d false (.sl yDP)], rs := [.o 42 yDP], pre := fun (x : List Dep × Unit) => x.1.length ≤ 1000, out := fun x => (isort x.1, ()), nw := id }
theorem c42 : CtrOk Try.prog 42 con42.ctr :=
 con_sound (G := ⟨[], [], [(39, 1), (42, 1)], [], []⟩) tab_ok EnvOk.nil rfl Try.func42 rfl con42 536871485 (by kernel_rfl) (by decide) (by decide) rfl (by decide) rfl (by
  rintro ⟨(l : List Dep), _⟩ hpre hwf X hT hG hk hK
  have hl : l.length ≤ 1000 := hpre
  (simp -implicitDefEqProofs (maxSteps := 4000000) only [go_sem, Bool.not_eq_true', Bool.not_eq_false', Bool.or_eq_true, Bool.or_eq_false_iff, Bool.and_eq_true, Bool.and_eq_false_iff, decide_eq_true_eq, decide_eq_false_iff_not, Classical.not_not, not_or, maxLen, con42, hT, hG, hk, hK, Try.results42] at hwf ⊢); (try simp (disch := decide +kernel) only [drawn, true_and, and_true])
  refine evk_loop ⟨{ i : Nat // i ≤ l.length }, 1000, fun i => [(0, .one (.sl yDP l false)), (3, .one (.row 64)), (4, .one (.int .i64 i.1))], fun i => [(64, .row 42 yDP (isort (l.take i.1)))], fun i => l.length - i.1⟩ ⟨0, by simp⟩ ?_ ?_
  · simp only [go_sem]
    exact ⟨rfl, rfl⟩
  · rintro ⟨i, (hi : i ≤ l.length)⟩
    (simp -implicitDefEqProofs (maxSteps := 4000000) only [go_sem, Bool.not_eq_true', Bool.not_eq_false', Bool.or_eq_true, Bool.or_eq_false_iff, Bool.and_eq_true, Bool.and_eq_false_iff, decide_eq_true_eq, decide_eq_false_iff_not, Classical.not_not, not_or, maxLen, con42, hT, hG, hk, hK, Try.results42]); (try simp (disch := decide +kernel) only [drawn, true_and, and_true])
    refine fun _ => ⟨fun hlt => ?_, fun hge => ?_⟩
    · have hi' : i < l.length := by omega
      have ek : ∀ z, l.getD (i : Int).toNat z = l[i] := fun z => by simp [hi']
      have hP := isort_len (l.take i)
      rw [List.length_take] at hP
      have hPs := isort_sorted (l.take i)
      have hsn : isort (l.take (i + 1)) = insV l[i] (isort (l.take i)) := by rw [List.take_succ_eq_append_getElem hi', isort_snoc]
      generalize hPe : isort (l.take i) = P at hP hPs hsn ⊢
      intro hPl
      refine evk_loop ⟨{ k : Nat // k ≤ P.length ∧ ∀ y ∈ P.drop k, (l[i]).opens < y.opens }, 2000, fun k => [(0, .one (.sl yDP l false)), (3, .one (.row 64)), (4, .one (.int .i64 i)), (5, .one (.int .i64 k.1))], fun k => [(64, .row 42 yDP P)], fun k => k.1⟩ ⟨P.length, by simp, by simp⟩ ?_ ?_
      · simp only [go_sem]
      · rintro ⟨k, (hk1 : k ≤ P.length), (hk2 : ∀ y ∈ P.drop k, (l[i]).opens < y.opens)⟩
        (simp -implicitDefEqProofs (maxSteps := 4000000) only [go_sem, Bool.not_eq_true', Bool.not_eq_false', Bool.or_eq_true, Bool.or_eq_false_iff, Bool.and_eq_true, Bool.and_eq_false_iff, decide_eq_true_eq, decide_eq_false_iff_not, Classical.not_not, not_or, maxLen, con42, hT, hG, hk, hK, Try.results42]); (try simp (disch := decide +kernel) only [drawn, true_and, and_true])
        simp only [ek, List.length_append, List.length_singleton]
        (repeat' (with_reducible (first | refine And.intro ?_ ?_ | intro _))) <;> (try (first | with_reducible (first | done | assumption | omega | contradiction) | decide))
        · rename_i h
          refine fin_lp ⟨k - 1, by omega, fun y hy => ?_⟩ (by simp only [go_sem]; first | rfl | ((repeat' apply And.intro) <;> first | rfl | assumption | omega)) (by dsimp only; omega)
          have hk0 : k - 1 < P.length := by omega
          have ez : ∀ z, P.getD ((k : Int) - 1).toNat z = P[k - 1] := fun z => by rw [show ((k : Int) - 1).toNat = k - 1 by omega]; simp [hk0]
          rw [List.drop_eq_getElem_cons hk0, show k - 1 + 1 = k by omega] at hy
          rcases List.mem_cons.1 hy with rfl | hy
          · have := h.2
            rw [ez] at this
            exact this
          · exact hk2 y hy
        · rename_i h
          have e1 : ((k : Int) + 1).toNat = k + 1 := by omega
          have e2 : (((P.length + 1 : Nat) : Int) - ((k : Int) + 1)).toNat = P.length - k := by omega
          have e3 : (k : Int).toNat = k := by omega
          have e4 : (((P.length + 1 : Nat) : Int) - (k : Int)).toNat = P.length + 1 - k := by omega
          have e5 : (k + 1 + (P.length - k) ≤ P.length + 1) = True := by rw [eq_iff_iff, iff_true]; omega
          have e6 : (k + (P.length + 1 - k) ≤ P.length + 1) = True := by rw [eq_iff_iff, iff_true]; omega
          (simp -implicitDefEqProofs (maxSteps := 4000000) only [go_sem, Bool.not_eq_true', Bool.not_eq_false', Bool.or_eq_true, Bool.or_eq_false_iff, Bool.and_eq_true, Bool.and_eq_false_iff, decide_eq_true_eq, decide_eq_false_iff_not, Classical.not_not, not_or, maxLen, con42, hT, hG, hk, hK, Try.results42, e1, e2, e3, e4, e5, e6, List.length_append, List.length_singleton]); (try simp (disch := decide +kernel) only [drawn, true_and, and_true])
          obtain ⟨c, hc⟩ := shift_ins P ((ByteArray.empty, 0, ByteArray.empty, 0), ByteArray.empty, 0, 0, 0, 0, 0) k hk1
          rw [List.append_assoc] at hc
          have hlc := congrArg List.length hc
          rw [show (P.take k ++ c :: P.drop k).length = P.length + 1 by simp; omega] at hlc
          simp only [List.length_append] at hlc
          (repeat' (with_reducible (first | refine And.intro ?_ ?_ | intro _))) <;> (try (first | with_reducible (first | done | assumption | omega | contradiction) | decide))
          have hins : insV l[i] P = P.take k ++ l[i] :: P.drop k := insV_mid l[i] P k hk1 hPs hk2 (fun hk0 hkl => by
           have ez : ∀ z, P.getD ((k : Int) - 1).toNat z = P[k - 1] := fun z => by rw [show ((k : Int) - 1).toNat = k - 1 by omega]; simp [hkl]
           rw [ez] at h
           rcases h with h | h
           · omega
           · exact h)
          refine fin_lp ⟨i + 1, by omega⟩ ?_ (by dsimp only; omega)
          simp only [go_sem]
          rw [hc, hsn, hins, ek, set_mid (P.take k) (P.drop k) c l[i] k (by rw [List.length_take]; omega)]
          first | done | rfl | exact ⟨rfl, rfl⟩
    · rw [List.take_of_length_le (by omega)])
/-- A list of allocations with one more. -/
def placeV (p : List All) (a : All) : List All := p.takeWhile (fun x => decide (fltC x.1 a.1 < 0)) ++ a :: p.dropWhile (fun x => decide (fltC x.1 a.1 < 0))
theorem tw_take {α : Type} (f : α → Bool) : ∀ (p : List α) (k : Nat), (∀ x ∈ p.take k, f x = true) → (∀ h : k < p.length, f p[k] = false) → k ≤ p.length → p.takeWhile f = p.take k ∧ p.dropWhile f = p.drop k
 | [], k, _, _, hk => by simp
 | x :: p, 0, _, h, _ => by
   have := h (by simp)
   simp at this
   simp [this]
 | x :: p, k + 1, h1, h2, hk => by
   have hx := h1 x (by simp)
   obtain ⟨e1, e2⟩ := tw_take f p k (fun y hy => h1 y (by simp [hy])) (fun h => h2 (by simpa using h)) (by simpa using hk)
   simp [hx, e1, e2]
def con16 : Con := { ps := [.d false (.sl (.pair yFL (.int .i64))), .d true (.pair yFL (.int .i64))], rs := [.o 44 (.pair yFL (.int .i64))], pre := fun (x : List All × All × Unit) => x.1.length ≤ 1000, out := fun (x : List All × All × Unit) => (placeV x.1 x.2.1, ()), nw := id }
theorem c16 : CtrOk Try.prog 16 con16.ctr :=
 con_sound (G := ⟨[(43, con43.ctr)], [], [], [], []⟩) tab_ok (EnvOk.cons c43 has43 EnvOk.nil) rfl Try.func16 rfl con16 2097275 (by kernel_rfl) (by decide) (by decide) rfl (by decide) rfl (by
  rintro ⟨(p : List All), (a : All), _⟩ hpre hwf X hT hG hk hK
  have hl : p.length ≤ 1000 := hpre
  (simp -implicitDefEqProofs (maxSteps := 4000000) only [go_sem, Bool.not_eq_true', Bool.not_eq_false', Bool.or_eq_true, Bool.or_eq_false_iff, Bool.and_eq_true, Bool.and_eq_false_iff, decide_eq_true_eq, decide_eq_false_iff_not, Classical.not_not, not_or, maxLen, con16, con43, hT, hG, hk, hK, Try.results16] at hwf ⊢); (try simp (disch := decide +kernel) only [drawn, true_and, and_true])
  refine evk_loop ⟨{ k : Nat // k ≤ p.length ∧ ∀ x ∈ p.take k, fltC x.1 a.1 < 0 }, 1000, fun k => [(0, .one (.sl (.pair yFL (.int .i64)) p false)), (3, .one (.loc 64 0)), (5, .one (.int .i64 k.1))], fun k => [(64, .cells 44 (expl (.pair yFL (.int .i64)) a))], fun k => p.length - k.1⟩ ⟨0, by simp, by simp⟩ ?_ ?_
  · simp only [go_sem]
    rfl
  · rintro ⟨k, (hk1 : k ≤ p.length), (hk2 : ∀ x ∈ p.take k, fltC x.1 a.1 < 0)⟩
    (simp -implicitDefEqProofs (maxSteps := 4000000) only [go_sem, Bool.not_eq_true', Bool.not_eq_false', Bool.or_eq_true, Bool.or_eq_false_iff, Bool.and_eq_true, Bool.and_eq_false_iff, decide_eq_true_eq, decide_eq_false_iff_not, Classical.not_not, not_or, maxLen, con16, con43, hT, hG, hk, hK, Try.results16]); (try simp (disch := decide +kernel) only [drawn, true_and, and_true])
    have e3 : (k : Int).toNat = k := by omega
    have e4 : (p.length : Int).toNat = p.length := by omega
    simp only [e3, e4]
    have el : (p.take k).length = k := by rw [List.length_take]; omega
    have hb : (List.drop k (List.take p.length p)).length ≤ p.length := by simp
    have hap : (p.take k ++ [a]).length = k + 1 := by simp; omega
    (repeat' (with_reducible (first | refine And.intro ?_ ?_ | intro _))) <;> (try (first | with_reducible (first | done | assumption | omega | contradiction) | decide))
    · have h : (k : Int) < p.length ∧ fltC (p.getD k ((ByteArray.empty, 0, ByteArray.empty, 0), 0)).1 a.1 < 0 := by assumption
      have hkl : k < p.length := by omega
      have ez : ∀ z, p.getD k z = p[k] := fun z => by simp [hkl]
      rw [ez] at h
      refine fin_lp ⟨k + 1, by omega, fun x hx => ?_⟩ (by simp only [go_sem]; first | rfl | ((repeat' apply And.intro) <;> first | rfl | assumption | omega)) (by dsimp only; omega)
      rw [List.take_succ_eq_append_getElem hkl, List.mem_append, List.mem_singleton] at hx
      rcases hx with hx | rfl
      · exact hk2 x hx
      · exact h.2
    · have h : ¬ (k : Int) < p.length ∨ ¬ fltC (p.getD k ((ByteArray.empty, 0, ByteArray.empty, 0), 0)).1 a.1 < 0 := by assumption
      obtain ⟨w1, w2⟩ := tw_take (fun x : All => decide (fltC x.1 a.1 < 0)) p k (fun x hx => decide_eq_true (hk2 x hx)) (fun hkl => by
       have ez : ∀ z, p.getD k z = p[k] := fun z => by simp [hkl]
       rw [ez] at h
       refine decide_eq_false (h.elim (fun h => absurd ?_ h) id)
       omega) hk1
      unfold placeV
      rw [w1, w2, List.take_of_length_le (Nat.le_refl _), List.append_assoc]
      rfl)
end Go.Proofs.Ytfaoonbnbdlgaaa

/- The contracts of the reference's functions: Plan. -/
set_option linter.unusedSimpArgs false
set_option linter.unusedVariables false
set_option maxRecDepth 100000
set_option maxHeartbeats 4000000
namespace Go.Proofs.Ytfaoonbnbdlgaaa
open Go.Ev

/-- A chute is free for a departure: no departure before that has it overlaps. -/
def frq (p : List All) (d : Dep) (c : Int) (e : Dep) : Bool := !(decide ((chV p e.1).1 = c) && overR e d)
def freeR (D : List Dep) (p : List All) (d : Dep) (c : Int) : Bool := D.all (frq p d c)
def stepR (cs : List Int) (D : List Dep) (p : List All) (d : Dep) : List All :=
 match cs.find? (freeR D p d) with
 | some c => placeV p (d.1, c)
 | none => p
def refG (cs : List Int) : List Dep → List Dep → List All → List All
 | _, [], p => p
 | D, d :: ds, p => refG cs (D ++ [d]) ds (stepR cs D p d)
def refP (l : List Dep) (cs : List Int) : Mk × Int :=
 if argsV l cs ≠ 0 then (([], 0, []), argsV l cs) else if (peakV l).2 > (cs.length : Int) then (([], (peakV l).1, openV l (peakV l).1), 0) else ((refG cs [] (isort (planV l)) [], 0, []), 0)
theorem placeV_len (p : List All) (a : All) : (placeV p a).length = p.length + 1 := by
 unfold placeV
 have := congrArg List.length (List.takeWhile_append_dropWhile (p := fun x : All => decide (fltC x.1 a.1 < 0)) (l := p))
 rw [List.length_append] at this
 rw [List.length_append, List.length_cons]
 omega
theorem args_len {l : List Dep} {cs : List Int} (h : argsV l cs = 0) : (planV l).length ≤ 16 ∧ cs.length ≤ 6 := by
 unfold argsV at h
 by_cases c1 : validateV l ≠ 0
 · rw [if_pos c1] at h; exact absurd h c1
 · rw [if_neg c1] at h
   by_cases c2 : ((planV l).length : Int) > 16 ∨ (cs.length : Int) > 6
   · rw [if_pos c2] at h; omega
   · omega
def con23 : Con := { ps := [.d false (.sl yDP), .d false (.sl (.int .i64))], rs := [.d true (.pair (.sl (.pair yFL (.int .i64))) (.pair (.int .i64) (.sl yFL))), .d false (.int .i64)], pre := fun (x : List Dep × List Int × Unit) => x.1.length ≤ 1048576, out := fun (x : List Dep × List Int × Unit) => ((refP x.1 x.2.1).1, (refP x.1 x.2.1).2, ()), nw := id }
theorem c23 : CtrOk Try.prog 23 con23.ctr :=
 con_sound (G := ⟨[(47, con47.ctr), (37, con37.ctr), (20, con20.ctr), (42, con42.ctr), (49, con49.ctr), (19, con19.ctr), (50, con50.ctr), (16, con16.ctr)], [], [], [], []⟩) tab_ok (EnvOk.cons c47 has47 (EnvOk.cons c37 has37 (EnvOk.cons c20 has20 (EnvOk.cons c42 has42 (EnvOk.cons c49 has49 (EnvOk.cons c19 has19 (EnvOk.cons c50 has50 (EnvOk.cons c16 has16 EnvOk.nil)))))))) rfl Try.func23 rfl con23 29014219747066011847880691 (by kernel_rfl) (by decide) (by decide) rfl (by decide) rfl (by
  rintro ⟨(l : List Dep), (cs : List Int), _⟩ hpre hwf X hT hG hk hK
  have hl : l.length ≤ 1048576 := hpre
  (simp -implicitDefEqProofs (maxSteps := 4000000) only [go_sem, Bool.not_eq_true', Bool.not_eq_false', Bool.or_eq_true, Bool.or_eq_false_iff, Bool.and_eq_true, Bool.and_eq_false_iff, decide_eq_true_eq, decide_eq_false_iff_not, Classical.not_not, not_or, maxLen, con23, con47, con37, con20, con42, con49, con19, con50, con16, hT, hG, hk, hK, Try.results23] at hwf ⊢); (try simp (disch := decide +kernel) only [drawn, true_and, and_true])
  by_cases ha : argsV l cs = 0
  · by_cases hp : (peakV l).2 > (cs.length : Int)
    · have hv : refP l cs = (([], (peakV l).1, openV l (peakV l).1), 0) := by
       unfold refP; rw [if_neg (by omega), if_pos hp]
      rw [hv]
      (repeat' (with_reducible (first | refine And.intro ?_ ?_ | intro _))) <;> (try (first | with_reducible (first | done | assumption | omega | contradiction) | decide))
      all_goals rfl
    · obtain ⟨k5, k6⟩ := args_len ha
      have hv : refP l cs = ((refG cs [] (isort (planV l)) [], 0, []), 0) := by
       unfold refP; rw [if_neg (by omega), if_neg hp]
      have hO := isort_len (planV l)
      generalize isort (planV l) = O at hO hv ⊢
      (repeat' (with_reducible (first | refine And.intro ?_ ?_ | intro _))) <;> (try (first | with_reducible (first | done | assumption | omega | contradiction) | decide))
      have hst : ∀ i (hi : i < O.length) (p : List All), refG cs (O.take i) (O.drop i) p = refG cs (O.take (i + 1)) (O.drop (i + 1)) (stepR cs (O.take i) p O[i]) := fun i hi p => by
       rw [List.drop_eq_getElem_cons hi, refG, List.take_succ_eq_append_getElem hi]
      refine evk_loop ⟨{ q : Nat × List All // q.1 ≤ O.length ∧ q.2.length ≤ q.1 ∧ refG cs [] O [] = refG cs (O.take q.1) (O.drop q.1) q.2 }, 1000,
       fun q => [(1, .one (.sl (.int .i64) cs false)), (4, .one (.loc 70 0)), (9, .one (.row 66)), (10, .one (.loc 71 0)), (11, .one (.int .i64 q.1.1))],
       fun q => [(70, .cells 58 [.undef, .undef, .undef]), (66, .row 42 yDP O), (71, .cells 58 [.row 72, .int .i64 0, .row 73]), (72, .row 44 (.pair yFL (.int .i64)) q.1.2), (73, .row 40 yFL [])], fun q => O.length - q.1.1⟩
       ⟨(0, []), by simp, by simp, by simp⟩ ?_ ?_
      · simp only [go_sem]
        rfl
      · rintro ⟨⟨i, p⟩, (c1 : i ≤ O.length), (c2 : p.length ≤ i), (c3 : refG cs [] O [] = refG cs (O.take i) (O.drop i) p)⟩
        (simp -implicitDefEqProofs (maxSteps := 4000000) only [go_sem, Bool.not_eq_true', Bool.not_eq_false', Bool.or_eq_true, Bool.or_eq_false_iff, Bool.and_eq_true, Bool.and_eq_false_iff, decide_eq_true_eq, decide_eq_false_iff_not, Classical.not_not, not_or, maxLen, con23, con47, con37, con20, con42, con49, con19, con50, con16, hT, hG, hk, hK, Try.results23]); (try simp (disch := decide +kernel) only [drawn, true_and, and_true])
        refine fun _ => ⟨fun hlt => ?_, fun hge => ?_⟩
        · have hi' : i < O.length := by omega
          have ek : ∀ z, O.getD (i : Int).toNat z = O[i] := fun z => by simp [hi']
          rw [hst i hi' p] at c3
          refine fun _ => ?_
          refine evk_loop ⟨{ j : Nat // j ≤ cs.length ∧ ∀ k (h : k < cs.length), k < j → freeR (O.take i) p O[i] cs[k] = false }, 2000,
           fun q => [(1, .one (.sl (.int .i64) cs false)), (4, .one (.loc 70 0)), (9, .one (.row 66)), (10, .one (.loc 71 0)), (11, .one (.int .i64 i)), (48, .one (.sl (.int .i64) cs false)), (49, .one (.int .i64 cs.length)), (50, .one (.int .i64 q.1))],
           fun q => [(70, .cells 58 [.undef, .undef, .undef]), (66, .row 42 yDP O), (71, .cells 58 [.row 72, .int .i64 0, .row 73]), (72, .row 44 (.pair yFL (.int .i64)) p), (73, .row 40 yFL [])], fun q => cs.length - q.1⟩ ⟨0, by simp, by intro k h hk; simp at hk⟩ ?_ ?_
          · simp only [go_sem]
            rfl
          · rintro ⟨j, (e1 : j ≤ cs.length), (e2 : ∀ k (h : k < cs.length), k < j → freeR (O.take i) p O[i] cs[k] = false)⟩
            (simp -implicitDefEqProofs (maxSteps := 4000000) only [go_sem, Bool.not_eq_true', Bool.not_eq_false', Bool.or_eq_true, Bool.or_eq_false_iff, Bool.and_eq_true, Bool.and_eq_false_iff, decide_eq_true_eq, decide_eq_false_iff_not, Classical.not_not, not_or, maxLen, con23, con47, con37, con20, con42, con49, con19, con50, con16, hT, hG, hk, hK, Try.results23]); (try simp (disch := decide +kernel) only [drawn, true_and, and_true])
            refine ⟨fun hlt2 => ?_, fun hge2 => ?_⟩
            · have hj : j < cs.length := by omega
              have ekc : ∀ z, cs.getD (j : Int).toNat z = cs[j] := fun z => by simp [hj]
              simp only [ekc]
              refine ⟨by omega, fun _ _ => ?_⟩
              refine evk_loop ⟨{ k : Nat // k ≤ i }, 3000,
               fun q => [(1, .one (.sl (.int .i64) cs false)), (4, .one (.loc 70 0)), (9, .one (.row 66)), (10, .one (.loc 71 0)), (11, .one (.int .i64 i)), (48, .one (.sl (.int .i64) cs false)), (49, .one (.int .i64 cs.length)), (50, .one (.int .i64 j)), (13, .one (.int .i64 cs[j])), (14, .one (.bool ((O.take q.1).all (frq p O[i] cs[j])))), (15, .one (.int .i64 q.1))],
               fun q => [(70, .cells 58 [.undef, .undef, .undef]), (66, .row 42 yDP O), (71, .cells 58 [.row 72, .int .i64 0, .row 73]), (72, .row 44 (.pair yFL (.int .i64)) p), (73, .row 40 yFL [])], fun q => i - q.1⟩ ⟨0, by simp⟩ ?_ ?_
              · simp only [go_sem]
                rfl
              · rintro ⟨k, (f1 : k ≤ i)⟩
                (simp -implicitDefEqProofs (maxSteps := 4000000) only [go_sem, Bool.not_eq_true', Bool.not_eq_false', Bool.or_eq_true, Bool.or_eq_false_iff, Bool.and_eq_true, Bool.and_eq_false_iff, decide_eq_true_eq, decide_eq_false_iff_not, Classical.not_not, not_or, maxLen, con23, con47, con37, con20, con42, con49, con19, con50, con16, hT, hG, hk, hK, Try.results23]); (try simp (disch := decide +kernel) only [drawn, true_and, and_true])
                refine ⟨fun hlt3 => ?_, fun hge3 => ?_⟩
                · have hk' : k < O.length := by omega
                  have ekk : ∀ z, O.getD (k : Int).toNat z = O[k] := fun z => by simp [hk']
                  have hs3 : (O.take (k + 1)).all (frq p O[i] cs[j]) = ((O.take k).all (frq p O[i] cs[j]) && frq p O[i] cs[j] O[k]) := by
                   rw [List.take_succ_eq_append_getElem hk', List.all_append]; simp
                  simp only [ekk, ek]
                  (repeat' (with_reducible (first | refine And.intro ?_ ?_ | intro _))) <;> (try (first | with_reducible (first | done | assumption | omega | contradiction) | decide))
                  · have h : (chV p O[k].1).1 = cs[j] ∧ overR O[k] O[i] = true := by assumption
                    have h4 : false = (O.take (k + 1)).all (frq p O[i] cs[j]) := by
                     rw [hs3]; unfold frq; rw [h.2, decide_eq_true h.1]; simp
                    refine fin_lp ⟨k + 1, by omega⟩ (by simp only [go_sem]; first | rfl | ((repeat' apply And.intro) <;> first | rfl | assumption | omega)) (by dsimp only; omega)
                  · have h : ¬ (chV p O[k].1).1 = cs[j] ∨ overR O[k] O[i] = false := by assumption
                    have h4 : (O.take k).all (frq p O[i] cs[j]) = (O.take (k + 1)).all (frq p O[i] cs[j]) := by
                     rw [hs3]
                     have : frq p O[i] cs[j] O[k] = true := by
                      unfold frq
                      rcases h with h | h
                      · rw [decide_eq_false h]; rfl
                      · rw [h]; simp
                     rw [this, Bool.and_true]
                    refine fin_lp ⟨k + 1, by omega⟩ (by simp only [go_sem]; first | rfl | ((repeat' apply And.intro) <;> first | rfl | assumption | omega)) (by dsimp only; omega)
                · have hki : k = i := by omega
                  subst hki
                  simp only [ek]
                  (repeat' (with_reducible (first | refine And.intro ?_ ?_ | intro _))) <;> (try (first | with_reducible (first | done | assumption | omega | contradiction) | decide))
                  · have h : (O.take k).all (frq p O[k] cs[j]) = true := by assumption
                    have hn : cs.find? (freeR (O.take k) p O[k]) = some cs[j] := by
                     rw [List.find?_eq_some_iff_getElem]
                     exact ⟨h, j, hj, rfl, fun m hm => by rw [e2 m (by omega) hm]; rfl⟩
                    have hs : stepR cs (O.take k) p O[k] = placeV p (O[k].1, cs[j]) := by unfold stepR; rw [hn]
                    rw [hs] at c3
                    have hpl := placeV_len p (O[k].1, cs[j])
                    refine fin_lp ⟨(k + 1, placeV p (O[k].1, cs[j])), by dsimp only; omega, by dsimp only; omega, c3⟩ (by simp only [go_sem]; first | rfl | ((repeat' apply And.intro) <;> first | rfl | assumption | omega)) (by dsimp only; omega)
                  · have h : (O.take k).all (frq p O[k] cs[j]) = false := by assumption
                    refine fin_lp ⟨j + 1, by omega, ?_⟩ (by simp only [go_sem]; first | rfl | ((repeat' apply And.intro) <;> first | rfl | assumption | omega)) (by dsimp only; omega)
                    · intro m hm hmj
                      rcases Nat.lt_or_eq_of_le (Nat.lt_succ_iff.1 hmj) with h1 | h1
                      · exact e2 m hm h1
                      · subst h1; exact h
            · have hn : cs.find? (freeR (O.take i) p O[i]) = none := by
               rw [List.find?_eq_none]
               intro c hc
               obtain ⟨k, hk, rfl⟩ := List.getElem_of_mem hc
               rw [e2 k hk (by omega)]; simp
              have hs : stepR cs (O.take i) p O[i] = p := by unfold stepR; rw [hn]
              rw [hs] at c3
              (repeat' (with_reducible (first | refine And.intro ?_ ?_ | intro _))) <;> (try (first | with_reducible (first | done | assumption | omega | contradiction) | decide))
              refine fin_lp ⟨(i + 1, p), by dsimp only; omega, by dsimp only; omega, c3⟩ (by simp only [go_sem]; first | rfl | ((repeat' apply And.intro) <;> first | rfl | assumption | omega)) (by dsimp only; omega)
        · rw [List.drop_of_length_le (by omega), List.take_of_length_le (by omega), refG] at c3
          rw [hv, c3]
          (repeat' (with_reducible (first | refine And.intro ?_ ?_ | intro _))) <;> (try (first | with_reducible (first | done | assumption | omega | contradiction) | decide))
          all_goals rfl
  · have hv : refP l cs = (([], 0, []), argsV l cs) := by
     unfold refP; rw [if_pos ha]
    rw [hv]
    (repeat' (with_reducible (first | refine And.intro ?_ ?_ | intro _))) <;> (try (first | with_reducible (first | done | assumption | omega | contradiction) | decide))
    all_goals rfl)
end Go.Proofs.Ytfaoonbnbdlgaaa

/- A part of the proof. -/
/- The law: the peak. -/
set_option linter.unusedSimpArgs false
set_option linter.unusedVariables false
set_option maxRecDepth 100000
set_option maxHeartbeats 4000000
namespace Go.Proofs.Ytfaoonbnbdlgaaa
open Go.Ev

theorem schedL_len : ∀ (n : Nat) (s : Src) (k : Int), (schedL n s k).1.length ≤ n
 | 0, _, _ => Nat.le_refl _
 | n + 1, s, k => by
   unfold schedL
   split
   · split
     · exact Nat.zero_le _
     · exact Nat.succ_le_succ (schedL_len n _ _)
   · exact Nat.zero_le _
theorem schedV_len (s : Src) (n : Int) (h : 0 ≤ n) : ((schedV s n).1.length : Int) ≤ n := by
 have h1 := schedL_len (goMod s.raw (n + 1)).toNat s.step 0
 have h2 := goMod_bd s.raw (n + 1) (by omega)
 unfold schedV
 omega
theorem pk_facts (e : List Dep) : 0 ≤ (peakV e).2 ∧ ((peakV e).2 = 0 → (peakV e).1 = 0) ∧ (peakV e).2 ≤ (openV e (peakV e).1).length ∧ (∀ x, ((openV e x).length : Int) ≤ (peakV e).2) ∧ (∀ x, ((openV e x).length : Int) = (peakV e).2 → 0 < (peakV e).2 → (peakV e).1 ≤ x) := by
 have h := peakV_is e
 simp only [openV_cnt]
 generalize peakV e = p at h ⊢
 unfold IsPk at h
 rcases h with ⟨h1, h2, h3⟩ | ⟨h1, h2, h3⟩
 · have := h3 p.1
   exact ⟨by omega, fun _ => h2, by omega, fun x => by rw [h3 x]; omega, fun x _ h => by omega⟩
 · exact ⟨by omega, fun h => by omega, by omega, fun x => (h3 x).1, fun x k _ => (h3 x).2 k⟩
end Go.Proofs.Ytfaoonbnbdlgaaa

/- A part of the proof. -/
/- The plain laws: schedules out of numbers are valid; a plan has all departures. -/
set_option linter.unusedSimpArgs false
set_option linter.unusedVariables false
set_option maxRecDepth 100000
set_option maxHeartbeats 4000000
namespace Go.Proofs.Ytfaoonbnbdlgaaa
open Go.Ev

theorem flts_asc : ∀ a b : Fin 27, a < b → fltC (fltsV (a.1 : Int)) (fltsV (b.1 : Int)) < 0 := by decide +kernel
theorem flts_ok : ∀ a : Fin 27, fltOk (fltsV (a.1 : Int)) = true := by decide +kernel
theorem ports_ok : ∀ i : Fin 5, lettersV (ports.getD i.1 ByteArray.empty) 3 3 = true := by decide +kernel
theorem flts_lt {a b : Int} (h0 : 0 ≤ a) (h1 : a < b) (h2 : b < 27) : fltC (fltsV a) (fltsV b) < 0 := by
 have := flts_asc ⟨a.toNat, by omega⟩ ⟨b.toNat, by omega⟩ (by rw [Fin.lt_def]; simp only; omega)
 simp only at this
 rwa [show ((a.toNat : Nat) : Int) = a by omega, show ((b.toNat : Nat) : Int) = b by omega] at this
theorem state_bd (i : Int) (h : 0 ≤ i ∧ i < 6) : 0 ≤ ([0, 0, 0, 0, 1, 2] : List Int).getD i.toNat 0 ∧ ([0, 0, 0, 0, 1, 2] : List Int).getD i.toNat 0 ≤ 2 := by
 have : i = 0 ∨ i = 1 ∨ i = 2 ∨ i = 3 ∨ i = 4 ∨ i = 5 := by omega
 rcases this with rfl | rfl | rfl | rfl | rfl | rfl <;> decide
theorem dep_valid (k : Int) (s : Src) (h0 : 0 ≤ k) (h1 : k < 27) : validV (depV k s) = true := by
 have a1 := flts_ok ⟨k.toNat, by omega⟩
 simp only at a1
 rw [show ((k.toNat : Nat) : Int) = k by omega] at a1
 have b5 := goMod_bd s.raw 5 (by omega)
 have a2 := ports_ok ⟨(goMod s.raw 5).toNat, by omega⟩
 have q40 := goMod_bd s.step.raw 40 (by omega)
 have q100 := goMod_bd s.step.step.raw 100 (by omega)
 have q20 := goMod_bd s.step.step.step.raw 20 (by omega)
 have q10 := goMod_bd s.step.step.step.step.raw 10 (by omega)
 have q6 := state_bd _ (goMod_bd s.step.step.step.step.step.raw 6 (by omega))
 unfold validV depV inV
 dsimp only
 simp only at a2
 rw [a1, a2]
 simp only [Bool.true_and, Bool.and_eq_true, decide_eq_true_eq]
 omega
theorem schedL_asc : ∀ (n : Nat) (s : Src) (k : Int), 0 ≤ k → (∀ d ∈ (schedL n s k).1, validV d = true ∧ ∃ j, k ≤ j ∧ j < 27 ∧ d.1 = fltsV j) ∧ (schedL n s k).1.Pairwise (fun a b => fltC a.1 b.1 < 0)
 | 0, _, _, _ => ⟨fun d h => (by cases h), List.Pairwise.nil⟩
 | n + 1, s, k, hk => by
   have b3 := goMod_bd s.raw 3 (by omega)
   unfold schedL
   split
   · split
     · exact ⟨fun d h => (by cases h), List.Pairwise.nil⟩
     · rename_i h1 h2
       obtain ⟨u, v⟩ := schedL_asc n (dep6 s.step) (k + goMod s.raw 3 + 1) (by omega)
       refine ⟨fun d hd => ?_, List.pairwise_cons.2 ⟨fun d hd => ?_, v⟩⟩
       · rcases List.mem_cons.1 hd with rfl | hd
         · exact ⟨dep_valid _ _ (by omega) (by omega), k + goMod s.raw 3, by omega, by omega, rfl⟩
         · obtain ⟨x, j, y, z, t⟩ := u d hd
           exact ⟨x, j, by omega, z, t⟩
       · obtain ⟨x, j, y, z, t⟩ := u d hd
         rw [t]
         exact flts_lt (a := k + goMod s.raw 3) (by omega) (by omega) z
   · exact ⟨fun d h => (by cases h), List.Pairwise.nil⟩
theorem sched_asc (s : Src) (n : Int) : (∀ d ∈ (schedV s n).1, validV d = true) ∧ (schedV s n).1.Pairwise (fun a b => fltC a.1 b.1 < 0) := by
 obtain ⟨u, v⟩ := schedL_asc (goMod s.raw (n + 1)).toNat s.step 0 (Int.le_refl _)
 exact ⟨fun d hd => (u d hd).1, v⟩
theorem valF_of : ∀ (l : List Dep) (p : Option Flt), (∀ d ∈ l, validV d = true) → (∀ f, p = some f → ∀ d ∈ l, fltC f d.1 < 0) → l.Pairwise (fun a b => fltC a.1 b.1 < 0) → valF p l = 0
 | [], _, _, _, _ => rfl
 | d :: l, p, h1, h2, h3 => by
   obtain ⟨g1, g2⟩ := List.pairwise_cons.1 h3
   have ih := valF_of l (some d.1) (fun e he => h1 e (List.mem_cons_of_mem _ he)) (fun f hf e he => by cases hf; exact g1 e he) g2
   unfold valF
   rw [if_neg (by rw [h1 d (by simp)]; simp)]
   cases p with
   | none => exact ih
   | some f =>
     dsimp only
     have := h2 f rfl d (by simp)
     rw [if_neg (by omega), if_neg (by omega)]
     exact ih
theorem validate_of {l : List Dep} (hl : l.length ≤ 24) (h1 : ∀ d ∈ l, validV d = true) (h3 : l.Pairwise (fun a b => fltC a.1 b.1 < 0)) : validateV l = 0 := by
 unfold validateV
 rw [if_neg (by omega), valF_of l none h1 (fun f hf => by cases hf) h3]
theorem sched_validate (s : Src) (n : Int) (h0 : 0 ≤ n) (h : n ≤ 24) : validateV (schedV s n).1 = 0 := by
 have := schedV_len s n h0
 obtain ⟨u, v⟩ := sched_asc s n
 exact validate_of (by omega) u v

end Go.Proofs.Ytfaoonbnbdlgaaa

/- The contracts of replan's functions: the stable sort of at most 19 needs. -/
set_option linter.unusedSimpArgs false
set_option linter.unusedVariables false
set_option maxRecDepth 100000
set_option maxHeartbeats 4000000
namespace Go.Proofs.Ytfaoonbnbdlgaaa
open Go.Ev

abbrev Ned := Flt × Int × Int × Int × Bool
def Ned.frm (d : Ned) : Int := d.2.1
def Ned.to (d : Ned) : Int := d.2.2.1
def Ned.home (d : Ned) : Int := d.2.2.2.1
def Ned.fixed (d : Ned) : Bool := d.2.2.2.2
/-- Insertion behind all that are not greater. -/
def insN (x : Ned) : List Ned → List Ned
 | [] => [x]
 | y :: l => if x.frm < y.frm then x :: y :: l else y :: insN x l
def isortN (l : List Ned) : List Ned := l.foldl (fun acc x => insN x acc) []
theorem insN_perm (x : Ned) : ∀ l : List Ned, (insN x l).Perm (x :: l)
 | [] => List.Perm.refl _
 | y :: l => by
   unfold insN
   split
   · exact List.Perm.refl _
   · exact ((insN_perm x l).cons y).trans (List.Perm.swap x y l)
theorem foldl_permN : ∀ (l acc : List Ned), (l.foldl (fun acc x => insN x acc) acc).Perm (acc ++ l)
 | [], acc => by simp
 | x :: l, acc => by
   refine (foldl_permN l _).trans ?_
   refine ((insN_perm x acc).append_right l).trans ?_
   exact List.perm_middle.symm
theorem isortN_perm (l : List Ned) : (isortN l).Perm l := by
 have := foldl_permN l []
 rwa [List.nil_append] at this
theorem isortN_len (l : List Ned) : (isortN l).length = l.length := (isortN_perm l).length_eq
theorem isortN_snoc (l : List Ned) (x : Ned) : isortN (l ++ [x]) = insN x (isortN l) := by simp [isortN]
theorem isortN_sorted (l : List Ned) : (isortN l).Pairwise (fun a b => a.frm ≤ b.frm) := by
 have key : ∀ (l acc : List Ned), acc.Pairwise (fun a b => a.frm ≤ b.frm) → (l.foldl (fun acc x => insN x acc) acc).Pairwise (fun a b => a.frm ≤ b.frm) := by
  intro l
  induction l with
  | nil => intro acc h; exact h
  | cons x l ih =>
    intro acc h
    refine ih _ ?_
    clear ih
    induction acc with
    | nil => simp [insN]
    | cons y acc ih =>
      obtain ⟨h1, h2⟩ := List.pairwise_cons.1 h
      have ih2 := ih h2
      show List.Pairwise _ (if x.frm < y.frm then x :: y :: acc else y :: insN x acc)
      split
      · rename_i hlt
        refine List.pairwise_cons.2 ⟨fun z hz => ?_, h⟩
        rcases List.mem_cons.1 hz with rfl | hz
        · omega
        · have := h1 z hz; omega
      · rename_i hlt
        refine List.pairwise_cons.2 ⟨fun z hz => ?_, ih2⟩
        rcases List.mem_cons.1 ((insN_perm _ _).mem_iff.1 hz) with rfl | hz
        · omega
        · exact h1 z hz
 exact key l [] List.Pairwise.nil
theorem insN_mid (x : Ned) : ∀ (P : List Ned) (j : Nat), j ≤ P.length → P.Pairwise (fun a b => a.frm ≤ b.frm) → (∀ y ∈ P.drop j, x.frm < y.frm) → (0 < j → ∀ h : j - 1 < P.length, ¬ x.frm < (P[j - 1]).frm) → insN x P = P.take j ++ x :: P.drop j
 | [], j, _, _, _, _ => by simp [insN]
 | y :: P, 0, _, _, h, _ => by
   unfold insN
   rw [if_pos (h y (by simp))]
   rfl
 | y :: P, j + 1, hjl, hs, h, hj => by
   obtain ⟨h1, h2⟩ := List.pairwise_cons.1 hs
   have hy : ¬ x.frm < y.frm := by
    have hl : j < (y :: P).length := hjl
    have := hj (by omega) hl
    cases j with
    | zero => exact this
    | succ j =>
      have hjP : j < P.length := by simpa using hl
      have h3 : ¬ x.frm < (P[j]).frm := this
      have hm := h1 P[j] (List.getElem_mem hjP)
      omega
   unfold insN
   rw [if_neg hy, insN_mid x P j (by simpa using hjl) h2 h (fun hj0 hl => by
    obtain ⟨k, rfl⟩ : ∃ k, j = k + 1 := ⟨j - 1, by omega⟩
    exact hj (by omega) hjl)]
   rfl
def inTimeN (d : Ned) : Prop := 0 ≤ d.frm ∧ d.frm ≤ 1048576
def con57 : Con := { ps := [.d true (.pair yFL (.pair (.int .i64) (.pair (.int .i64) (.pair (.int .i64) .bool)))), .d true (.pair yFL (.pair (.int .i64) (.pair (.int .i64) (.pair (.int .i64) .bool))))], rs := [.d false (.int .i64)], pre := fun (x : Ned × Ned × Unit) => inTimeN x.1 ∧ inTimeN x.2.1, out := fun (x : Ned × Ned × Unit) => (x.1.frm - x.2.1.frm, ()), nw := id }
theorem c57 : CtrOk Try.prog 57 con57.ctr :=
 con_sound (G := ⟨[], [], [], [], []⟩) tab_ok EnvOk.nil rfl Try.func57 rfl con57 31 (by kernel_rfl) (by decide) (by decide) rfl (by decide) rfl (by
  rintro ⟨(a : Ned), (b : Ned), _⟩ hpre hwf X hT hG hk hK
  obtain ⟨⟨h1, h2⟩, h3, h4⟩ : inTimeN a ∧ inTimeN b := hpre
  obtain ⟨a0, (a1 : Int), (a2 : Int), (a3 : Int), a4⟩ := a
  obtain ⟨b0, (b1 : Int), (b2 : Int), (b3 : Int), b4⟩ := b
  simp only [Ned.frm] at h1 h2 h3 h4
  (simp -implicitDefEqProofs (maxSteps := 4000000) only [go_sem, Bool.not_eq_true', Bool.not_eq_false', Bool.or_eq_true, Bool.or_eq_false_iff, Bool.and_eq_true, Bool.and_eq_false_iff, decide_eq_true_eq, decide_eq_false_iff_not, Classical.not_not, not_or, maxLen, con57, hT, hG, hk, hK, Try.results57] at hwf ⊢); (try simp (disch := decide +kernel) only [drawn, true_and, and_true])
  (repeat' (with_reducible (first | refine And.intro ?_ ?_ | intro _))) <;> (try (first | with_reducible (first | done | assumption | omega | contradiction) | decide))
  rfl)
def con85 : Con := { ps := [.o 75 (.pair yFL (.pair (.int .i64) (.pair (.int .i64) (.pair (.int .i64) .bool)))), .d false (.int .i64), .d false (.int .i64), .cl 57 []], rs := [], pre := fun (x : List Ned × Int × Int × Unit × Unit) => x.2.1 = 0 ∧ x.2.2.1 = x.1.length ∧ x.1.length ≤ 1000 ∧ ∀ d ∈ x.1, inTimeN d, out := fun x => (), nw := fun x => (isortN x.1, x.2) }
theorem c85 : CtrOk Try.prog 85 con85.ctr :=
 con_sound (G := ⟨[(57, con57.ctr)], [], [], [], []⟩) tab_ok (EnvOk.cons c57 has57 EnvOk.nil) rfl Try.func85 rfl con85 17179886351 (by kernel_rfl) (by decide) (by decide) rfl (by decide) rfl (by
  rintro ⟨(l : List Ned), (a : Int), (b : Int), _⟩ hpre hwf X hT hG hk hK
  obtain ⟨rfl, rfl, h3, h4⟩ : a = 0 ∧ b = l.length ∧ l.length ≤ 1000 ∧ ∀ k ∈ l, inTimeN k := hpre
  (simp -implicitDefEqProofs (maxSteps := 4000000) only [go_sem, Bool.not_eq_true', Bool.not_eq_false', Bool.or_eq_true, Bool.or_eq_false_iff, Bool.and_eq_true, Bool.and_eq_false_iff, decide_eq_true_eq, decide_eq_false_iff_not, Classical.not_not, not_or, maxLen, con85, con57, hT, hG, hk, hK, Try.results85] at hwf ⊢); (try simp (disch := decide +kernel) only [drawn, true_and, and_true])
  (repeat' (with_reducible (first | refine And.intro ?_ ?_ | intro _))) <;> (try (first | with_reducible (first | done | assumption | omega | contradiction) | decide))
  refine evk_loop ⟨{ i : Nat // 1 ≤ i }, 1000,
   fun q => [(0, .one (.row 0)), (1, .one (.int .i64 0)), (2, .one (.int .i64 l.length)), (3, .one (.fn 57 [])), (8, .one (.int .i64 q.1))],
   fun q => [(0, .row 75 (.pair yFL (.pair (.int .i64) (.pair (.int .i64) (.pair (.int .i64) .bool)))) (isortN (l.take q.1) ++ l.drop q.1))], fun q => l.length + 1 - q.1⟩ ⟨1, Nat.le_refl 1⟩ ?_ ?_
  · simp only [go_sem]
    refine ⟨?_, rfl⟩
    cases l with
    | nil => rfl
    | cons x l => rfl
  · rintro ⟨i, (hi : 1 ≤ i)⟩
    (simp -implicitDefEqProofs (maxSteps := 4000000) only [go_sem, Bool.not_eq_true', Bool.not_eq_false', Bool.or_eq_true, Bool.or_eq_false_iff, Bool.and_eq_true, Bool.and_eq_false_iff, decide_eq_true_eq, decide_eq_false_iff_not, Classical.not_not, not_or, maxLen, con85, con57, hT, hG, hk, hK, Try.results85]); (try simp (disch := decide +kernel) only [drawn, true_and, and_true])
    refine ⟨fun hlt => ?_, fun hge => ?_⟩
    · have hi' : i < l.length := by omega
      have hP := isortN_len (l.take i)
      have hPm := isortN_perm (l.take i)
      have hPs := isortN_sorted (l.take i)
      have hsn : isortN (l.take (i + 1)) = insN l[i] (isortN (l.take i)) := by rw [List.take_succ_eq_append_getElem hi', isortN_snoc]
      generalize hPe : isortN (l.take i) = P at hP hPm hPs hsn ⊢
      have hPl : P.length = i := by rw [hP, List.length_take]; omega
      refine evk_loop ⟨{ j : Nat // j ≤ i ∧ ∀ y ∈ P.drop j, l[i].frm < Ned.frm y }, 2000,
       fun q => [(0, .one (.row 0)), (1, .one (.int .i64 0)), (2, .one (.int .i64 l.length)), (3, .one (.fn 57 [])), (8, .one (.int .i64 i)), (9, .one (.int .i64 q.1))],
       fun q => [(0, .row 75 (.pair yFL (.pair (.int .i64) (.pair (.int .i64) (.pair (.int .i64) .bool)))) (P.take q.1 ++ l[i] :: (P.drop q.1 ++ l.drop (i + 1))))], fun q => q.1⟩ ⟨i, Nat.le_refl i, by intro y hy; rw [List.drop_of_length_le (by omega)] at hy; cases hy⟩ ?_ ?_
      · simp only [go_sem]
        rw [List.take_of_length_le (by omega), List.drop_of_length_le (by omega : P.length ≤ i), List.nil_append, ← List.drop_eq_getElem_cons hi']
      · rintro ⟨j, (hj' : j ≤ i), (hgt : ∀ y ∈ P.drop j, l[i].frm < Ned.frm y)⟩
        (simp -implicitDefEqProofs (maxSteps := 4000000) only [go_sem, Bool.not_eq_true', Bool.not_eq_false', Bool.or_eq_true, Bool.or_eq_false_iff, Bool.and_eq_true, Bool.and_eq_false_iff, decide_eq_true_eq, decide_eq_false_iff_not, Classical.not_not, not_or, maxLen, con85, con57, hT, hG, hk, hK, Try.results85]); (try simp (disch := decide +kernel) only [drawn, true_and, and_true])
        have hML : (P.take j ++ l[i] :: (P.drop j ++ l.drop (i + 1))).length = l.length := by simp; omega
        have hswap := fun h => mid_swap P (l.drop (i + 1)) l[i] j h
        have hg1 := fun z => mid_at z P (l.drop (i + 1)) l[i] j (by omega)
        have hg2 := fun z h => mid_before z P (l.drop (i + 1)) l[i] j h
        have hins := insN_mid l[i] P j (by omega) hPs hgt
        have hx4 := h4 _ (List.getElem_mem hi')
        generalize hM : P.take j ++ l[i] :: (P.drop j ++ l.drop (i + 1)) = M at hML hswap hg1 hg2 ⊢
        simp only [List.length_set, hg1]
        by_cases hj0 : 0 < j
        · have hg2' := fun z => hg2 z ⟨hj0, by omega⟩
          have hsw := hswap ⟨hj0, by omega⟩
          have hp4 : inTimeN (P[j - 1]'(by omega)) := h4 _ (List.mem_of_mem_take (hPm.mem_iff.1 (List.getElem_mem _)))
          simp only [hg2', hsw]
          have hdr : P.drop (j - 1) = P[j - 1]'(by omega) :: P.drop j := by
           have := List.drop_eq_getElem_cons (show j - 1 < P.length by omega)
           rwa [show j - 1 + 1 = j by omega] at this
          generalize hpe : P[j - 1]'(by omega) = p at hp4 hdr ⊢
          have hd1 := hx4.1
          have hd2 := hx4.2
          have hd3 := hp4.1
          have hd4 := hp4.2
          (repeat' (with_reducible (first | refine And.intro ?_ ?_ | intro _))) <;> (try (first | with_reducible (first | done | assumption | omega | contradiction) | decide))
          · have hlt2 : l[i].frm < p.frm := by omega
            refine fin_lp ⟨j - 1, by omega, ?_⟩ ?_ ?_
            · intro y hy
              rw [hdr] at hy
              rcases List.mem_cons.1 hy with rfl | hy
              · exact hlt2
              · exact hgt y hy
            · simp only [go_sem]
              omega
            · dsimp only; omega
          · have hins2 := hins (fun _ h => by rw [hpe]; omega)
            refine fin_lp ⟨i + 1, by omega⟩ ?_ ?_
            · simp only [go_sem]
              refine ⟨?_, by omega⟩
              rw [hsn, hins2, ← hM]
              simp
            · dsimp only; omega
        · obtain rfl : j = 0 := by omega
          have hz : ¬ (((0 : Nat) : Int) > 0) := by omega
          have hins2 := hins (fun h => absurd h (by omega))
          (repeat' (with_reducible (first | refine And.intro ?_ ?_ | intro _))) <;> (try (first | with_reducible (first | done | assumption | omega | contradiction) | decide))
          refine fin_lp ⟨i + 1, by omega⟩ ?_ ?_
          · simp only [go_sem]
            refine ⟨?_, by omega⟩
            rw [hsn, hins2, ← hM]
            simp
          · dsimp only; omega
    · rw [List.take_of_length_le (by omega), List.drop_of_length_le (by omega), List.append_nil])
/-- A function that is not called. -/
structure NoC2 where
 ctr : Ctr
def con86 : NoC2 := ⟨fun _ _ _ => ⟨False, .one .undef, [], True⟩⟩
theorem c86 : CtrOk Try.prog 86 con86.ctr := by
 intro D gv hD cx hcx σ N m w fr avs vs _ _ _ h
 exact h.elim
def con67 : Con := { ps := [.o 75 (.pair yFL (.pair (.int .i64) (.pair (.int .i64) (.pair (.int .i64) .bool)))), .d false (.int .i64), .cl 57 []], rs := [], pre := fun (x : List Ned × Int × Unit × Unit) => x.2.1 = x.1.length ∧ x.1.length ≤ 19 ∧ ∀ k ∈ x.1, inTimeN k, out := fun x => (), nw := fun x => (isortN x.1, x.2) }
theorem c67 : CtrOk Try.prog 67 con67.ctr :=
 con_sound (G := ⟨[(85, con85.ctr), (86, con86.ctr)], [], [], [], []⟩) tab_ok (EnvOk.cons c85 has85 (EnvOk.cons c86 has86 EnvOk.nil)) rfl Try.func67 rfl con67 18014433942971335 (by kernel_rfl) (by decide) (by decide) rfl (by decide) rfl (by
  rintro ⟨(l : List Ned), (n : Int), _⟩ hpre hwf X hT hG hk hK
  obtain ⟨rfl, h3, h4⟩ : n = l.length ∧ l.length ≤ 19 ∧ ∀ k ∈ l, inTimeN k := hpre
  (simp -implicitDefEqProofs (maxSteps := 4000000) only [go_sem, Bool.not_eq_true', Bool.not_eq_false', Bool.or_eq_true, Bool.or_eq_false_iff, Bool.and_eq_true, Bool.and_eq_false_iff, decide_eq_true_eq, decide_eq_false_iff_not, Classical.not_not, not_or, maxLen, con67, con85, con86, hT, hG, hk, hK, Try.results67] at hwf ⊢); (try simp (disch := decide +kernel) only [drawn, true_and, and_true])
  refine evk_loop ⟨Unit, 1000,
   fun q => [(0, .one (.row 0)), (1, .one (.int .i64 l.length)), (2, .one (.fn 57 [])), (6, .one (.int .i64 20)), (7, .one (.int .i64 0)), (8, .one (.int .i64 20))],
   fun q => [(0, .row 75 (.pair yFL (.pair (.int .i64) (.pair (.int .i64) (.pair (.int .i64) .bool)))) l)], fun q => 0⟩ () ?_ ?_
  · simp only [go_sem]
  · rintro ⟨⟩
    (simp -implicitDefEqProofs (maxSteps := 4000000) only [go_sem, Bool.not_eq_true', Bool.not_eq_false', Bool.or_eq_true, Bool.or_eq_false_iff, Bool.and_eq_true, Bool.and_eq_false_iff, decide_eq_true_eq, decide_eq_false_iff_not, Classical.not_not, not_or, maxLen, con67, con85, con86, hT, hG, hk, hK, Try.results67]); (try simp (disch := decide +kernel) only [drawn, true_and, and_true])
    refine ⟨fun h => absurd h (by omega), fun _ => ⟨⟨by omega, h4⟩, ?_⟩⟩
    refine evk_loop ⟨Unit, 2000,
     fun q => [(0, .one (.row 0)), (1, .one (.int .i64 l.length)), (2, .one (.fn 57 [])), (6, .one (.int .i64 20)), (7, .one (.int .i64 0)), (8, .one (.int .i64 20))],
     fun q => [(0, .row 75 (.pair yFL (.pair (.int .i64) (.pair (.int .i64) (.pair (.int .i64) .bool)))) (isortN l))], fun q => 0⟩ () ?_ ?_
    · simp only [go_sem]
    · rintro ⟨⟩
      (simp -implicitDefEqProofs (maxSteps := 4000000) only [go_sem, Bool.not_eq_true', Bool.not_eq_false', Bool.or_eq_true, Bool.or_eq_false_iff, Bool.and_eq_true, Bool.and_eq_false_iff, decide_eq_true_eq, decide_eq_false_iff_not, Classical.not_not, not_or, maxLen, con67, con85, con86, hT, hG, hk, hK, Try.results67]); (try simp (disch := decide +kernel) only [drawn, true_and, and_true])
      exact fun h => absurd h (by omega))
def con56 : Con := { ps := [.o 75 (.pair yFL (.pair (.int .i64) (.pair (.int .i64) (.pair (.int .i64) .bool)))), .cl 57 []], rs := [], pre := fun (x : List Ned × Unit × Unit) => x.1.length ≤ 19 ∧ ∀ k ∈ x.1, inTimeN k, out := fun x => (), nw := fun x => (isortN x.1, x.2) }
theorem c56 : CtrOk Try.prog 56 con56.ctr :=
 con_sound (G := ⟨[(67, con67.ctr)], [], [], [], []⟩) tab_ok (EnvOk.cons c67 has67 EnvOk.nil) rfl Try.func56 rfl con56 3 (by kernel_rfl) (by decide) (by decide) rfl (by decide) rfl (by
  rintro ⟨(l : List Ned), _⟩ hpre hwf X hT hG hk hK
  obtain ⟨h3, h4⟩ : l.length ≤ 19 ∧ ∀ k ∈ l, inTimeN k := hpre
  (simp -implicitDefEqProofs (maxSteps := 4000000) only [go_sem, Bool.not_eq_true', Bool.not_eq_false', Bool.or_eq_true, Bool.or_eq_false_iff, Bool.and_eq_true, Bool.and_eq_false_iff, decide_eq_true_eq, decide_eq_false_iff_not, Classical.not_not, not_or, maxLen, con56, con67, hT, hG, hk, hK, Try.results56] at hwf ⊢); (try simp (disch := decide +kernel) only [drawn, true_and, and_true])
  (repeat' (with_reducible (first | refine And.intro ?_ ?_ | intro _))) <;> (try (first | with_reducible (first | done | assumption | omega | contradiction) | decide))
  all_goals exact h4 _ (by assumption))
end Go.Proofs.Ytfaoonbnbdlgaaa
