/- The contracts of the functions that the statements about the crane reach: the law of later due times. -/
import Derived.Test.YtjghgckdndggoaaCrF
import Derived.Test.YtjghgckdndggoaaCrEdf
set_option linter.unusedSimpArgs false
set_option linter.unusedVariables false
set_option maxRecDepth 100000
set_option maxHeartbeats 4000000
namespace Go.Proofs.Ytjghgckdndggoaa
open Go.Ev

open Go.Crane in
theorem late_feas (js : Jobs) (hp : ∀ x ∈ js, 0 ≤ x.1 ∧ x.1 ≤ 99) : ∀ (ks : List Int) (t i : Int), 0 ≤ i → (∀ k ∈ ks, 0 ≤ k ∧ k < js.length) → (¬ firstLate js i (finV js t ks) ks ≥ 0 ↔ feas t (ks.map fun k => js.getD k.toNat (0, 0)))
  | [], t, i, _, _ => by simp [firstLate, finV, feas]
  | k :: ks, t, i, hi, hk => by
    have hm : js.getD k.toNat (0, 0) ∈ js := by
      have := hk k (by simp)
      rw [List.getD_eq_getElem?_getD, List.getElem?_eq_getElem (show k.toNat < js.length by omega)]
      exact List.getElem_mem _
    have hc : costV (js.getD k.toNat (0, 0)).1 = cost (js.getD k.toNat (0, 0)) := by
      have := hp _ hm
      unfold costV cost
      rw [if_neg (by omega)]
    have ih := late_feas js hp ks (t + cost (js.getD k.toNat (0, 0))) (i + 1) (by omega) (fun x hx => hk x (by simp [hx]))
    rw [finV, hc, firstLate, List.map_cons, feas, ← ih]
    unfold dueOf
    split
    · rename_i h
      exact ⟨fun q => absurd hi q, fun q => absurd q.1 (by omega)⟩
    · rename_i h
      exact ⟨fun q => ⟨by omega, q⟩, fun q => q.2⟩
theorem idxs_map (js : Jobs) : (idxs js.length).map (fun k => js.getD k.toNat (0, 0)) = js := by
  apply List.ext_getElem
  · rw [List.length_map, idxs_len]
  · intro i h1 h2
    simp [idxs, h2]
open Go.Crane in
theorem plan_fits (js : Jobs) (now : Int) (hp : ∀ x ∈ js, 0 ≤ x.1 ∧ x.1 ≤ 99 ∧ 0 ≤ x.2 ∧ x.2 ≤ 1048576) (hn : 0 ≤ now ∧ now ≤ 1048576) (hl : js.length ≤ 19) : (planE now js = 0 ↔ fits now js) ∧ (planE now js = 0 ∨ planE now js = 12) := by
  have hc : checkedV now js = 0 := by
    unfold checkedV
    rw [if_neg (by omega), if_neg (by omega), if_pos]
    refine List.all_eq_true.2 fun x hx => ?_
    have := hp x hx
    unfold okJob costV
    rw [if_neg (by omega)]
    simp; omega
  have hpm := isort_perm (dueLt js) (idxs js.length)
  have hs := isort_sorted js (idxs js.length)
  have hlf := late_feas js (fun x hx => ⟨(hp x hx).1, (hp x hx).2.1⟩) (isort (dueLt js) (idxs js.length)) now 0 (Int.le_refl 0) (fun k hk => idxs_mem (hpm.mem_iff.1 hk))
  have hpm2 : ((isort (dueLt js) (idxs js.length)).map fun k => js.getD k.toNat (0, 0)).Perm js := by
    have := hpm.map (fun k : Int => js.getD k.toNat (0, 0))
    rwa [idxs_map] at this
  have hpos : pos js := fun x hx => by have := hp x hx; unfold cost; omega
  have hfi := feas_iff ((isort (dueLt js) (idxs js.length)).map fun k => js.getD k.toNat (0, 0)) now (fun x hx => hpos x (hpm2.mem_iff.1 hx)) (by rw [List.pairwise_map]; exact hs)
  have hfit : feas now ((isort (dueLt js) (idxs js.length)).map fun k => js.getD k.toNat (0, 0)) ↔ fits now js := by
    rw [hfi]
    constructor
    · intro h x hx
      have := h x (hpm2.mem_iff.2 hx)
      rwa [S_perm hpm2] at this
    · intro h x hx
      have := h x (hpm2.mem_iff.1 hx)
      rwa [← S_perm hpm2] at this
  have hpl : planE now js = if lateV now js (isort (dueLt js) (idxs js.length)) ≥ 0 then 12 else 0 := by
    unfold planE; rw [if_neg (by rw [hc]; simp)]
  rw [← hfit, ← hlf, hpl]
  unfold lateV
  by_cases h : firstLate js 0 (finV js now (isort (dueLt js) (idxs js.length))) (isort (dueLt js) (idxs js.length)) ≥ 0
  · rw [if_pos h]; exact ⟨⟨fun q => (by cases q), fun q => absurd h q⟩, .inr rfl⟩
  · rw [if_neg h]; exact ⟨⟨fun _ => h, fun _ => rfl⟩, .inl rfl⟩
theorem someL_ok : ∀ (n : Nat) (s : Src) (t : Int), 0 ≤ t → t + 10 * n ≤ 5000 → (someL n s t).length = n ∧ ∀ x ∈ someL n s t, 0 ≤ x.1 ∧ x.1 ≤ 99 ∧ 0 ≤ x.2 ∧ x.2 ≤ 10000
  | 0, _, _, _, _ => ⟨rfl, fun x hx => by cases hx⟩
  | n + 1, s, t, h1, h2 => by
    have g1 := goMod_bd (Src.raw s) 5 (by omega)
    have g2 := goMod_bd (Src.raw (Src.step s)) 15 (by omega)
    have ih := someL_ok n (Src.step (Src.step s)) (t + (2 * goMod (Src.raw s) 5 + 2)) (by omega) (by omega)
    rw [someL]
    refine ⟨by rw [List.length_cons, ih.1], fun x hx => ?_⟩
    rcases List.mem_cons.1 hx with rfl | hx
    · simp only
      split <;> omega
    · exact ih.2 x hx
theorem someV_ok (l : List Int) : (0 ≤ (someV l 8).1 ∧ (someV l 8).1 ≤ 4) ∧ (someV l 8).2.length ≤ 8 ∧ ∀ x ∈ (someV l 8).2, 0 ≤ x.1 ∧ x.1 ≤ 99 ∧ 0 ≤ x.2 ∧ x.2 ≤ 10000 := by
  have g1 := goMod_bd (Src.raw (l.take 2000, 0)) 5 (by omega)
  have g2 := goMod_bd (Src.raw (Src.step (l.take 2000, 0))) (8 + 1) (by omega)
  have h := someL_ok (goMod (Src.raw (Src.step (l.take 2000, 0))) (8 + 1)).toNat (Src.step (Src.step (l.take 2000, 0))) (goMod (Src.raw (l.take 2000, 0)) 5) g1.1 (by omega)
  have e : someV l 8 = (goMod (Src.raw (l.take 2000, 0)) 5, someL (goMod (Src.raw (Src.step (l.take 2000, 0))) (8 + 1)).toNat (Src.step (Src.step (l.take 2000, 0))) (goMod (Src.raw (l.take 2000, 0)) 5)) := rfl
  rw [e]
  refine ⟨⟨g1.1, ?_⟩, ?_, h.2⟩
  · simp only; omega
  · rw [h.1]; omega
open Go.Crane in
theorem relaxed_ok (js : Jobs) (now q e : Int) (hp : ∀ x ∈ js, 0 ≤ x.1 ∧ x.1 ≤ 99 ∧ 0 ≤ x.2 ∧ x.2 ≤ 10000) (hn : 0 ≤ now ∧ now ≤ 4) (hl : js.length ≤ 8) (hq : 0 ≤ q ∧ q < js.length) (he : 0 ≤ e ∧ e ≤ 1000) (h : planE now js = 0) (now' : Int) (hn' : 0 ≤ now' ∧ now' ≤ now) :
    planE now' (js.set q.toNat ((js.getD q.toNat (0, 0)).1, (js.getD q.toNat (0, 0)).2 + e)) = 0 := by
  have hi : q.toNat < js.length := by omega
  generalize q.toNat = i at hi ⊢
  have eg : js.getD i (0, 0) = js[i] := by simp [hi]
  rw [eg]
  have ej : js = js.take i ++ (js[i].1, js[i].2) :: js.drop (i + 1) := by
    have : js.drop i = js[i] :: js.drop (i + 1) := List.drop_eq_getElem_cons hi
    conv => lhs; rw [← List.take_append_drop i js, this]
  have es : js.set i (js[i].1, js[i].2 + e) = js.take i ++ (js[i].1, js[i].2 + e) :: js.drop (i + 1) := List.set_eq_take_append_cons_drop .. |>.trans (by rw [if_pos hi])
  have hm := hp _ (List.getElem_mem hi)
  have hf := (plan_fits js now (fun x hx => by have := hp x hx; omega) (by omega) (by omega)).1.1 h
  have hpos : pos js := fun x hx => by have := hp x hx; unfold cost; omega
  have hr : fits now' (js.take i ++ (js[i].1, js[i].2 + e) :: js.drop (i + 1)) := fits_relaxed (t := now) (d := js[i].2) (by rw [← ej]; exact hpos) he.1 hn'.2 (by rw [← ej]; exact hf)
  rw [es]
  refine (plan_fits _ now' (fun x hx => ?_) (by omega) (by rw [← es, List.length_set]; omega)).1.2 hr
  rw [← es] at hx
  rcases List.mem_or_eq_of_mem_set hx with hx | rfl
  · have := hp x hx; omega
  · simp only; omega
def con3 : Con := { ps := [.d false (.sl (.int .i64)), .d false (.int .i64), .d false (.int .i64)], rs := [.d false .bool], pre := fun _ => True, out := fun _ => (true, ()), nw := id }
theorem c3 : CtrOk Try.prog 3 con3.ctr :=
  con_sound (G := ⟨[(8, con8.ctr), (9, con9.ctr), (10, con10.ctr), (11, con11.ctr)], [], []⟩) tab_ok (EnvOk.cons c8 has8 (EnvOk.cons c9 has9 (EnvOk.cons c10 has10 (EnvOk.cons c11 has11 EnvOk.nil)))) rfl Try.func3 rfl con3 2147495367 (by kernel_rfl) (by decide) (by decide) rfl (by decide) rfl (by
    rintro ⟨(l : List Int), (k : Int), (by' : Int), _⟩ hpre hwf X hT hG hk hK
    (simp only [go_sem, Nat.reduceAdd, Nat.reduceMul, Nat.reduceSub, Nat.reduceEqDiff, Nat.reduceLT, Nat.reduceLeDiff, Nat.reduceShiftRight, Nat.reduceMod, Nat.reduceBEq, reduceCtorEq, reduceIte, reduceDIte, Int.reduceNeg, con3, con8, con9, con10, con11, hT, hG, hk, hK, Try.results3] at hwf ⊢); (try simp (disch := decide +kernel) only [drawn, true_and, and_true])
    obtain ⟨⟨hn1, hn2⟩, hlen, hok⟩ := someV_ok l
    clear hwf hpre hT hG hk hK
    generalize (someV l 8).1 = now at hn1 hn2 ⊢
    generalize (someV l 8).2 = js at hlen hok ⊢
    have hpl := (plan_fits js now (fun x hx => by have := hok x hx; omega) (by omega) (by omega)).2
    refine ⟨by decide, fun _ => ⟨by omega, fun _ _ => ⟨fun h => by simpa using h, fun _ => ⟨fun h => by simpa using h, ?_⟩, fun h => ?_⟩⟩⟩
    · rcases hpl with e | e <;> simp [e]
    · simp only [Bool.or_eq_false_iff, decide_eq_false_iff_not, Classical.not_not] at h
      have hq := goMod_bd k js.length (by omega)
      have hb := goMod_bd by' 1000 (by omega)
      have hr := relaxed_ok js now (goMod k js.length) (goMod by' 1000) hok ⟨hn1, hn2⟩ hlen hq (by omega) h.2
      have hd : ∀ i : Nat, i < js.length → (js.getD i (0, 0)).2 ≤ 10000 ∧ 0 ≤ (js.getD i (0, 0)).2 := fun i hi => by
        have : js.getD i (0, 0) ∈ js := by
          rw [List.getD_eq_getElem?_getD, List.getElem?_eq_getElem hi]
          exact List.getElem_mem _
        have := hok _ this
        omega
      have hd2 := hd (goMod k js.length).toNat (by omega)
      refine ⟨by omega, fun _ _ => ⟨hq, fun _ => ⟨hq, fun _ _ => ⟨by omega, hq, fun _ => ⟨hq, by omega, by rw [List.length_set]; omega, ?_⟩⟩⟩⟩⟩
      exact fun _ => hr _ (by split <;> omega))
end Go.Proofs.Ytjghgckdndggoaa
