/- The contracts of the functions that the statements about the crane reach: the order by due times, the plan. -/
import Derived.Test.YtfhbjmoegceelaaCpOToR
set_option linter.unusedSimpArgs false
set_option linter.unusedVariables false
set_option maxRecDepth 100000
set_option maxHeartbeats 4000000
namespace Go.Proofs.Ytfhbjmoegceelaa
open Go.Ev Go.Cp

def con42 : Con := { ps := [.o 3 (.int .i64), .d false (.int .i64), .d false (.int .i64), .d false (.int .i64), .cl 32 [.p 22 (.sl (.pair (.int .i64) (.int .i64)))]], rs := [], pre := fun (x : List Int × Int × Int × Int × (Jobs × Unit) × Unit) => 0 ≤ x.2.1 ∧ x.2.1 < x.2.2.1 ∧ x.2.2.1 < x.2.2.2.1 ∧ x.2.2.2.1 ≤ x.1.length ∧ x.1.length ≤ 1000 ∧ x.2.2.2.1 - x.2.1 ≤ ((1000 : Nat) : Int) ∧ (∀ k ∈ x.1, 0 ≤ k ∧ k < x.2.2.2.2.1.1.length) ∧ SrtK (dueOf x.2.2.2.2.1.1) (seg x.1 x.2.1.toNat x.2.2.1.toNat) ∧ SrtK (dueOf x.2.2.2.2.1.1) (seg x.1 x.2.2.1.toNat x.2.2.2.1.toNat), out := fun x => (), nw := fun x => (sg (dueOf x.2.2.2.2.1.1) x.1 x.2.1.toNat x.2.2.2.1.toNat, x.2) }
theorem c42 : CtrOk Try.prog 42 con42.ctr := symOk 1000
/-- What the row keeps while it is put in order. -/
def Kept (js : Jobs) (l r : List Int) : Prop := r.length = l.length ∧ r.Perm l ∧ ∀ d, fk (dueOf js) d r = fk (dueOf js) d l
theorem Kept.sg {js : Jobs} {l r : List Int} {a b : Nat} (h : Kept js l r) (hab : a ≤ b) (hb : b ≤ r.length) : Kept js l (sg (dueOf js) r a b) :=
 ⟨(sg_len _ hab hb).trans h.1, (sg_perm _ hab).trans h.2.1, fun d => (sg_fk _ hab d).trans (h.2.2 d)⟩
def con37 : Con := { ps := [.o 3 (.int .i64), .d false (.int .i64), .cl 32 [.p 22 (.sl (.pair (.int .i64) (.int .i64)))]], rs := [], pre := fun (x : List Int × Int × (Jobs × Unit) × Unit) => x.2.1 = x.1.length ∧ x.1.length ≤ 1000 ∧ ∀ k ∈ x.1, 0 ≤ k ∧ k < x.2.2.1.1.length, out := fun x => (), nw := fun x => (isort (dueLt x.2.2.1.1) x.1, x.2) }
theorem c37 : CtrOk Try.prog 37 con37.ctr :=
 con_sound (G := ⟨[(41, con41.ctr), (42, con42.ctr)], [], [], [], []⟩) tab_ok (EnvOk.cons c41 has41 (EnvOk.cons c42 has42 EnvOk.nil)) rfl Try.func37 rfl con37 18014433942971335 (by kernel_rfl) (by decide) (by decide) rfl (by decide) rfl (by
  rintro ⟨(l : List Int), (n : Int), ⟨(js : Jobs), _⟩, _⟩ hpre hwf X hT hG hk hK
  obtain ⟨rfl, h3, h4⟩ : n = l.length ∧ l.length ≤ 1000 ∧ ∀ k ∈ l, 0 ≤ k ∧ k < js.length := hpre
  (simp -implicitDefEqProofs (maxSteps := 4000000) only [go_sem, con37, con41, con42, hT, hG, hk, hK, Try.results37] at hwf ⊢); (try simp (disch := decide +kernel) only [drawn, true_and, and_true])
  have hk4 : ∀ r : List Int, Kept js l r → ∀ k : Int, k ∈ r → 0 ≤ k ∧ k < js.length := fun r h k hk => h4 k (h.2.1.mem_iff.1 hk)
  clear hwf
  refine evk_loop ⟨{ q : List Int × Nat // Kept js l q.1 ∧ Ist (dueOf js) 20 q.1 q.2 }, 1000,
   fun q => [(0, .one (.row 0)), (1, .one (.int .i64 l.length)), (2, .one (.fn 32 [.loc 16 0])), (6, .one (.int .i64 20)), (7, .one (.int .i64 q.1.2)), (8, .one (.int .i64 ((q.1.2 : Int) + 20)))],
   fun q => [(0, .row 3 (.int .i64) q.1.1), (16, .cells 22 [.sl (.pair (.int .i64) (.int .i64)) js false])], fun q => l.length - q.1.2⟩ ⟨(l, 0), ⟨rfl, List.Perm.refl _, fun _ => rfl⟩, ist_zero⟩ ?_ ?_
  · simp only [go_sem]
    try omega
  · rintro ⟨⟨r, a⟩, (hr : Kept js l r), (hi : Ist (dueOf js) 20 r a)⟩
    (simp -implicitDefEqProofs (maxSteps := 4000000) only [go_sem, con37, con41, con42, hT, hG, hk, hK, Try.results37]); (try simp (disch := decide +kernel) only [drawn, true_and, and_true])
    have hrl := hr.1
    have hia := hi.2.1
    have e1 : ((a : Int) + 20).toNat = a + 20 := by omega
    simp only [e1, Int.toNat_natCast]
    refine ⟨fun hle => ?_, fun hgt => ⟨⟨by omega, by omega, by omega, by omega, hk4 r hr⟩, ?_⟩⟩
    · refine ⟨⟨by omega, by omega, by omega, by omega, hk4 r hr⟩, by omega, fin_lp ⟨(sg (dueOf js) r a (a + 20), a + 20), hr.sg (by omega) (by omega), ist_step hi (by omega) (by omega)⟩ ?_ ?_⟩
      · simp only [go_sem]
        try omega
      · show l.length - (a + 20) < l.length - a
        omega
    · have hb0 : Blk (dueOf js) 20 (sg (dueOf js) r a l.length) := by rw [← hrl]; exact ist_end hi (by omega)
      have hk0 : Kept js l (sg (dueOf js) r a l.length) := hr.sg (by omega) (by omega)
      generalize sg (dueOf js) r a l.length = r0 at hb0 hk0 ⊢
      clear hgt hia hrl hi hr e1
      refine evk_loop ⟨{ q : List Int × Nat // Kept js l q.1 ∧ 0 < q.2 ∧ q.2 ≤ 2000 ∧ Blk (dueOf js) q.2 q.1 }, 2000,
       fun q => [(0, .one (.row 0)), (1, .one (.int .i64 l.length)), (2, .one (.fn 32 [.loc 16 0])), (6, .one (.int .i64 q.1.2))],
       fun q => [(0, .row 3 (.int .i64) q.1.1), (16, .cells 22 [.sl (.pair (.int .i64) (.int .i64)) js false])], fun q => l.length - q.1.2⟩ ⟨(r0, 20), hk0, by simp only; omega, by simp only; omega, hb0⟩ ?_ ?_
      · simp only [go_sem]
        try rfl
      · rintro ⟨⟨r, s⟩, (hr : Kept js l r), (hs : 0 < s), (hs2 : s ≤ 2000), (hb : Blk (dueOf js) s r)⟩
        (simp -implicitDefEqProofs (maxSteps := 4000000) only [go_sem, con37, con41, con42, hT, hG, hk, hK, Try.results37]); (try simp (disch := decide +kernel) only [drawn, true_and, and_true])
        refine ⟨fun hlt => ?_, fun hge => ?_⟩
        · refine ⟨by omega, ?_⟩
          refine evk_loop ⟨{ q : List Int × Nat // Kept js l q.1 ∧ Mst (dueOf js) s q.1 q.2 }, 3000,
           fun q => [(0, .one (.row 0)), (1, .one (.int .i64 l.length)), (2, .one (.fn 32 [.loc 16 0])), (6, .one (.int .i64 s)), (7, .one (.int .i64 q.1.2)), (8, .one (.int .i64 ((q.1.2 : Int) + 2 * s)))],
           fun q => [(0, .row 3 (.int .i64) q.1.1), (16, .cells 22 [.sl (.pair (.int .i64) (.int .i64)) js false])], fun q => l.length - q.1.2⟩ ⟨(r, 0), hr, mst_zero hs hb⟩ ?_ ?_
          · simp only [go_sem]
            try omega
          · rintro ⟨⟨r, a⟩, (hr : Kept js l r), (hm : Mst (dueOf js) s r a)⟩
            (simp -implicitDefEqProofs (maxSteps := 4000000) only [go_sem, con37, con41, con42, hT, hG, hk, hK, Try.results37]); (try simp (disch := decide +kernel) only [drawn, true_and, and_true])
            have hrl := hr.1
            have hma := hm.2.1
            have e1 : ((a : Int) + 2 * s).toNat = a + 2 * s := by omega
            have e2 : ((a : Int) + s).toNat = a + s := by omega
            simp only [e1, e2, Int.toNat_natCast]
            refine ⟨fun hle => ?_, fun hgt => ⟨by omega, fun hmn => ?_, fun hmn => ?_⟩⟩
            · obtain ⟨p1, p2, p3⟩ := mst_step hm hs (by omega)
              refine ⟨by omega, ⟨by omega, by omega, by omega, by omega, by omega, by omega, hk4 r hr, p1, p2⟩, by omega, by omega, fin_lp ⟨(sg (dueOf js) r a (a + 2 * s), a + 2 * s), hr.sg (by omega) (by omega), p3⟩ ?_ ?_⟩
              · simp only [go_sem]
                try omega
              · show l.length - (a + 2 * s) < l.length - a
                omega
            · obtain ⟨p1, p2, p3⟩ := mst_end hm (by omega) (by omega)
              rw [hrl] at p2 p3
              refine ⟨⟨by omega, by omega, by omega, by omega, by omega, by omega, hk4 r hr, p1, p2⟩, by omega, fin_lp ⟨(sg (dueOf js) r a l.length, 2 * s), hr.sg (by omega) (by omega), by simp only; omega, by simp only; omega, p3⟩ ?_ ?_⟩
              · simp only [go_sem]
                try omega
              · show l.length - 2 * s < l.length - s
                omega
            · have hms : r.length ≤ a + s := by omega
              have hbk := mst_end' hm hs hms
              refine ⟨by omega, fin_lp ⟨(r, 2 * s), hr, by simp only; omega, by simp only; omega, hbk⟩ ?_ ?_⟩
              · simp only [go_sem]
                try omega
              · show l.length - 2 * s < l.length - s
                omega
        · show r = isort (dueLt js) l
          exact isort_eq (blk_end hb (by have := hr.1; omega)) hr.2.2)
def con31 : Con := { ps := [.o 3 (.int .i64), .cl 32 [.p 22 (.sl (.pair (.int .i64) (.int .i64)))]], rs := [], pre := fun (x : List Int × (Jobs × Unit) × Unit) => x.1.length ≤ 1000 ∧ ∀ k ∈ x.1, 0 ≤ k ∧ k < x.2.1.1.length, out := fun x => (), nw := fun x => (isort (dueLt x.2.1.1) x.1, x.2) }
theorem c31 : CtrOk Try.prog 31 con31.ctr :=
 con_sound (G := ⟨[(37, con37.ctr)], [], [], [], []⟩) tab_ok (EnvOk.cons c37 has37 EnvOk.nil) rfl Try.func31 rfl con31 3 (by kernel_rfl) (by decide) (by decide) rfl (by decide) rfl (by
  rintro ⟨(l : List Int), ⟨(js : Jobs), _⟩, _⟩ hpre hwf X hT hG hk hK
  obtain ⟨h3, h4⟩ : l.length ≤ 1000 ∧ ∀ k ∈ l, 0 ≤ k ∧ k < js.length := hpre
  (simp -implicitDefEqProofs (maxSteps := 4000000) only [go_sem, con31, con37, hT, hG, hk, hK, Try.results31] at hwf ⊢); (try simp (disch := decide +kernel) only [drawn, true_and, and_true])
  exact fun _ => ⟨h3, h4⟩)
/-- The numbers of the jobs. -/
def idxs (n : Nat) : List Int := (List.range n).map Int.ofNat
theorem idxs_succ (n : Nat) : idxs (n + 1) = idxs n ++ [(n : Int)] := by simp [idxs, List.range_succ]
theorem idxs_len (n : Nat) : (idxs n).length = n := by simp [idxs]
theorem idxs_mem {n : Nat} {k : Int} (h : k ∈ idxs n) : 0 ≤ k ∧ k < n := by
 simp only [idxs, List.mem_map, List.mem_range] at h
 obtain ⟨a, h1, rfl⟩ := h
 simp; omega
def con22 : Con := { ps := [.d false (.sl (.pair (.int .i64) (.int .i64)))], rs := [.o 3 (.int .i64)], pre := fun x => x.1.length ≤ 200, out := fun x => (isort (dueLt x.1) (idxs x.1.length), ()), nw := id }
theorem c22 : CtrOk Try.prog 22 con22.ctr :=
 con_sound (G := ⟨[(31, con31.ctr)], [], [], [], []⟩) tab_ok (EnvOk.cons c31 has31 EnvOk.nil) rfl Try.func22 rfl con22 479 (by kernel_rfl) (by decide) (by decide) rfl (by decide) rfl (by
  rintro ⟨(js : Jobs), _⟩ hpre hwf X hT hG hk hK
  have h3 : js.length ≤ 200 := hpre
  (simp -implicitDefEqProofs (maxSteps := 4000000) only [go_sem, con22, con31, hT, hG, hk, hK, Try.results22] at hwf ⊢); (try simp (disch := decide +kernel) only [drawn, true_and, and_true])
  intro hl
  refine evk_loop ⟨{ i : Nat // i ≤ js.length }, 1000,
   fun q => [(1, .one (.loc 40 0)), (3, .one (.row 64)), (6, .one (.int .i64 js.length)), (7, .one (.int .i64 q.1))],
   fun q => [(40, .cells 22 [.sl (.pair (.int .i64) (.int .i64)) js false]), (64, .row 3 (.int .i64) (idxs q.1))], fun q => js.length - q.1⟩ ⟨0, Nat.zero_le _⟩ ?_ ?_
  · simp only [go_sem]
    exact ⟨rfl, rfl⟩
  · rintro ⟨i, hi⟩
    (simp -implicitDefEqProofs (maxSteps := 4000000) only [go_sem, con22, con31, hT, hG, hk, hK, Try.results22]); (try simp (disch := decide +kernel) only [drawn, true_and, and_true])
    refine ⟨fun hlt => ?_, fun hge => ?_⟩
    · have hl2 := idxs_len i
      refine ⟨by omega, ⟨by omega, by omega⟩, fin_lp ⟨i + 1, by omega⟩ ?_ ?_⟩
      · simp only [go_sem]
        exact ⟨by rw [idxs_succ], by omega⟩
      · show js.length - (i + 1) < js.length - i
        omega
    · have hi0 : i ≤ js.length := hi
      obtain rfl : i = js.length := by omega
      exact ⟨⟨by rw [idxs_len]; omega, fun k hk => idxs_mem hk⟩, rfl⟩)
theorem checked_zero {now : Int} {js : Jobs} (h : checkedV now js = 0) : js.length ≤ 200 ∧ 0 ≤ now ∧ now ≤ 1048576 ∧ ∀ x ∈ js, okJob x = true := by
 unfold checkedV at h
 split at h
 · cases h
 · split at h
   · cases h
   · split at h
     · rename_i hj; exact ⟨by omega, by omega, by omega, List.all_eq_true.1 hj⟩
     · cases h
def lateV (now : Int) (js : Jobs) (ks : List Int) : Int := firstLate js 0 (finV js now ks) ks
def planE (now : Int) (js : Jobs) : Int := if checkedV now js ≠ 0 then checkedV now js else if lateV now js (isort (dueLt js) (idxs js.length)) ≥ 0 then 12 else 0
def con7 : Con := { ps := [.d false (.int .i64), .d false (.sl (.pair (.int .i64) (.int .i64)))], rs := [.d false (.sl (.int .i64)), .d false (.int .i64)], pre := fun _ => True, out := fun x => (if planE x.1 x.2.1 = 0 then isort (dueLt x.2.1) (idxs x.2.1.length) else [], planE x.1 x.2.1, ()), nw := id }
theorem c7 : CtrOk Try.prog 7 con7.ctr :=
 con_sound (G := ⟨[(21, con21.ctr), (22, con22.ctr), (23, con23.ctr)], [], [], [], []⟩) tab_ok (EnvOk.cons c21 has21 (EnvOk.cons c22 has22 (EnvOk.cons c23 has23 EnvOk.nil))) rfl Try.func7 rfl con7 1052915 (by kernel_rfl) (by decide) (by decide) rfl (by decide) rfl (by
  rintro ⟨(now : Int), (js : Jobs), _⟩ hpre hwf X hT hG hk hK
  (simp -implicitDefEqProofs (maxSteps := 4000000) only [go_sem, con7, con21, con22, con23, hT, hG, hk, hK, Try.results7] at hwf ⊢); (try simp (disch := decide +kernel) only [drawn, true_and, and_true])
  intro _
  have hz : ∀ {e : Int}, planE now js = e → e ≠ 0 → ([] : List Int) = if planE now js = 0 then isort (dueLt js) (idxs js.length) else [] := fun h1 h2 => by rw [if_neg (by rw [h1]; exact h2)]
  refine ⟨fun h => ?_, fun h => ?_⟩
  · have e : planE now js = checkedV now js := by unfold planE; rw [if_pos h]
    exact ⟨e.symm, hz e h⟩
  · have h0 : checkedV now js = 0 := Classical.not_not.1 h
    have h3 := (checked_zero h0).1
    refine ⟨h3, fun _ => ?_⟩
    have hb : 0 ≤ now ∧ now ≤ 1048576 := by
     unfold checkedV at h0
     split at h0
     · cases h0
     · split at h0
       · cases h0
       · omega
    have hpm := isort_perm (dueLt js) (idxs js.length)
    refine ⟨⟨hb.1, hb.2, by rw [isort_len, idxs_len]; omega, fun k hk => idxs_mem (hpm.mem_iff.1 hk)⟩, fun _ => ⟨fun h5 => ?_, fun h5 => ?_⟩⟩
    · have h6 : lateV now js (isort (dueLt js) (idxs js.length)) ≥ 0 := h5
      have e : planE now js = 12 := by unfold planE; rw [if_neg h, if_pos h6]
      exact ⟨e.symm, hz e (by decide)⟩
    · have h6 : ¬ lateV now js (isort (dueLt js) (idxs js.length)) ≥ 0 := h5
      have e : planE now js = 0 := by unfold planE; rw [if_neg h, if_neg h6]
      exact ⟨e.symm, by rw [if_pos e]⟩)
end Go.Proofs.Ytfhbjmoegceelaa

/- The contracts of the functions that the statements about the crane reach: jobs out of numbers. -/
set_option linter.unusedSimpArgs false
set_option linter.unusedVariables false
set_option maxRecDepth 100000
set_option maxHeartbeats 4000000
namespace Go.Proofs.Ytfhbjmoegceelaa
open Go.Ev Go.Cp

/-- Jobs out of numbers. -/
def someL : Nat → Src → Int → Jobs
 | 0, _, _ => []
 | n + 1, s, t =>
     (goMod s.raw 5, if t + (2 * goMod s.raw 5 + 2) + (-6 + goMod s.step.raw 15) > 0 then t + (2 * goMod s.raw 5 + 2) + (-6 + goMod s.step.raw 15) else 0) :: someL n s.step.step (t + (2 * goMod s.raw 5 + 2))
def someV (l : List Int) (most : Int) : Int × Jobs :=
 let s : Src := (l.take 2000, 0)
 (goMod s.raw 5, someL (goMod s.step.raw (most + 1)).toNat s.step.step (goMod s.raw 5))
def con5 : Con := { ps := [.d false (.sl (.int .i64)), .d false (.int .i64)], rs := [.d false (.int .i64), .d false (.sl (.pair (.int .i64) (.int .i64)))], pre := fun x => 0 ≤ x.2.1 ∧ x.2.1 ≤ 1000, out := fun x => ((someV x.1 x.2.1).1, (someV x.1 x.2.1).2, ()), nw := id }
theorem c5 : CtrOk Try.prog 5 con5.ctr :=
 con_sound (G := ⟨[(19, con19.ctr), (18, con18.ctr), (20, con20.ctr)], [], [], [], []⟩) tab_ok (EnvOk.cons c19 has19 (EnvOk.cons c18 has18 (EnvOk.cons c20 has20 EnvOk.nil))) rfl Try.func5 rfl con5 4198387 (by kernel_rfl) (by decide) (by decide) rfl (by decide) rfl (by
  rintro ⟨(l : List Int), (most : Int), _⟩ hpre hwf X hT hG hk hK
  obtain ⟨hm1, hm2⟩ : 0 ≤ most ∧ most ≤ 1000 := hpre
  (simp -implicitDefEqProofs (maxSteps := 4000000) only [go_sem, con5, con19, con18, con20, hT, hG, hk, hK, Try.results5] at hwf ⊢); (try simp (disch := decide +kernel) only [drawn, true_and, and_true])
  intro _
  have h5 : ∀ x, 0 ≤ goMod x 5 ∧ goMod x 5 < 5 := fun x => goMod_bd x 5 (by omega)
  have h0 : 0 ≤ (Src.step (List.take 2000 l, 0)).2 := Src.step_pos _ (Int.le_refl 0)
  refine ⟨Int.le_refl 0, fun _ => ⟨⟨by omega, by omega⟩, h0, fun _ => ?_⟩⟩
  have hq := h5 (Src.raw (List.take 2000 l, 0))
  have hv : someV l most = (goMod (Src.raw (List.take 2000 l, 0)) 5, someL (goMod (Src.raw (Src.step (List.take 2000 l, 0))) (most + 1)).toNat (Src.step (Src.step (List.take 2000 l, 0))) (goMod (Src.raw (List.take 2000 l, 0)) 5)) := rfl
  have hn0 := goMod_bd (Src.raw (Src.step (List.take 2000 l, 0))) (most + 1) (by omega)
  have h1 := Src.step_pos _ h0
  generalize hs1 : Src.step (List.take 2000 l, 0) = s1 at h0 h1 hn0 hv ⊢
  generalize ht0 : goMod (Src.raw (List.take 2000 l, 0)) 5 = t0 at hq hv ⊢
  have es : (s1.1, s1.2) = s1 := rfl
  try rw [es]
  generalize hs2 : Src.step s1 = s2 at h1 hv ⊢
  generalize hn : goMod (Src.raw s1) (most + 1) = n0 at hn0 hv ⊢
  refine evk_loop ⟨{ q : Src × Int × Nat × Jobs // 0 ≤ q.1.2 ∧ 0 ≤ q.2.1 ∧ q.2.1 + 10 * q.2.2.1 ≤ 20000 ∧ q.2.2.2.length + q.2.2.1 ≤ 1000 ∧ someL n0.toNat s2 t0 = q.2.2.2 ++ someL q.2.2.1 q.1 q.2.1 }, 1000,
   fun q => [(6, .one (.loc 128 0)), (7, .one (.int .i64 t0)), (8, .one (.row 160)), (9, .one (.int .i64 q.1.2.1)), (10, .one (.int .i64 q.1.2.2.1))],
   fun q => [(128, .cells 48 [.sl (.int .i64) q.1.1.1 false, .int .i64 q.1.1.2]), (160, .row 38 (.pair (.int .i64) (.int .i64)) q.1.2.2.2)], fun q => q.1.2.2.1⟩
   ⟨(s2, t0, n0.toNat, []), h1, hq.1, by simp only; omega, by simp only [List.length_nil]; omega, by simp⟩ ?_ ?_
  · simp only [go_sem]
    omega
  · rintro ⟨⟨⟨sl, sa⟩, t, n, out⟩, hp, ht, htn, hl, he⟩
    (simp -implicitDefEqProofs (maxSteps := 4000000) only [go_sem, con5, con19, con18, con20, hT, hG, hk, hK, Try.results5]); (try simp (disch := decide +kernel) only [drawn, true_and, and_true])
    have hp' : 0 ≤ sa := hp
    have ht' : 0 ≤ t := ht
    have htn' : t + 10 * (n : Int) ≤ 20000 := htn
    have hl' : out.length + n ≤ 1000 := hl
    have he' : someL n0.toNat s2 t0 = out ++ someL n (sl, sa) t := he
    have e15 : (8 - -6 + 1 : Int) = 15 := by decide
    rw [e15]
    refine ⟨fun hpos => ?_, fun hneg => ?_⟩
    · obtain ⟨k, rfl⟩ : ∃ k, n = k + 1 := ⟨n - 1, by omega⟩
      rw [someL] at he'
      have hq5 := h5 (Src.raw (sl, sa))
      have hst := Src.step_pos (sl, sa) hp'
      have hst2 := Src.step_pos _ hst
      have hr := goMod_bd (Src.raw (Src.step (sl, sa))) 15 (by omega)
      have es : ((Src.step (sl, sa)).1, (Src.step (sl, sa)).2) = Src.step (sl, sa) := rfl
      try rw [es]
      generalize hd : (if t + (2 * goMod (Src.raw (sl, sa)) 5 + 2) + (-6 + goMod (Src.raw (Src.step (sl, sa))) 15) > 0 then t + (2 * goMod (Src.raw (sl, sa)) 5 + 2) + (-6 + goMod (Src.raw (Src.step (sl, sa))) 15) else 0) = d at he' ⊢
      generalize hg5 : goMod (Src.raw (sl, sa)) 5 = g at hq5 he' hd ⊢
      generalize hg6 : goMod (Src.raw (Src.step (sl, sa))) 15 = g6 at hr hd ⊢
      refine ⟨hp', fun _ => ⟨by omega, by omega, by omega, ⟨hst, by decide, by decide, by decide⟩, fun _ => ⟨by omega, by omega, by omega, fin_lp ⟨(Src.step (Src.step (sl, sa)), t + (2 * g + 2), k, out ++ [(g, d)]), hst2, by simp only; omega, by simp only; omega, by simp only [List.length_append, List.length_cons, List.length_nil]; omega, by rw [he']; simp⟩ ?_ ?_⟩⟩⟩
      · simp only [go_sem]
        omega
      · show k < k + 1
        omega
    · obtain rfl : n = 0 := by omega
      rw [someL, List.append_nil] at he'
      rw [hv, ← he']
      exact ⟨rfl, rfl⟩)
end Go.Proofs.Ytfhbjmoegceelaa

/- The contracts of the functions that the statements about the crane reach: lists compared, overload, the examples. -/
set_option linter.unusedSimpArgs false
set_option linter.unusedVariables false
set_option maxRecDepth 100000
set_option maxHeartbeats 4000000
namespace Go.Proofs.Ytfhbjmoegceelaa
open Go.Ev Go.Cp

def con9 : Con := { ps := [.d false (.sl (.int .i64)), .d false (.sl (.int .i64))], rs := [.d false .bool], pre := fun x => True, out := fun x => (decide (x.1 = x.2.1), ()), nw := id }
theorem c9 : CtrOk Try.prog 9 con9.ctr :=
 con_sound (G := ⟨[], [], [], [], []⟩) tab_ok EnvOk.nil rfl Try.func9 rfl con9 33571891 (by kernel_rfl) (by decide) (by decide) rfl (by decide) rfl (by
  rintro ⟨(a : List Int), (b : List Int), _⟩ hpre hwf X hT hG hk hK
  (simp -implicitDefEqProofs (maxSteps := 4000000) only [go_sem, con9, hT, hG, hk, hK, Try.results9] at hwf ⊢); (try simp (disch := decide +kernel) only [drawn, true_and, and_true])
  intro hla hlb
  refine ⟨fun h => (decide_eq_false (fun e => h (by rw [e]))).symm, fun h => ?_⟩
  have hab : a.length = b.length := by omega
  refine evk_loop ⟨{ i : Nat // i ≤ a.length ∧ a.take i = b.take i }, 1000, fun q => [(0, .one (.sl (.int .i64) a false)), (1, .one (.sl (.int .i64) b false)), (5, .one (.int .i64 q.1))], fun _ => [], fun q => a.length - q.1⟩ ⟨0, by simp⟩ ?_ ?_
  · simp only [go_sem]
    rfl
  · rintro ⟨i, hi, he⟩
    (simp -implicitDefEqProofs (maxSteps := 4000000) only [go_sem, con9, hT, hG, hk, hK, Try.results9]); (try simp (disch := decide +kernel) only [drawn, true_and, and_true])
    intro _
    have hi0 : i ≤ a.length := hi
    have he0 : a.take i = b.take i := he
    refine ⟨fun hlt => ?_, fun hge => ?_⟩
    · have hi1 : i < a.length := by omega
      have hi2 : i < b.length := by omega
      have ea : a.getD (i : Int).toNat 0 = a[i] := by simp [hi1]
      have eb : b.getD (i : Int).toNat 0 = b[i] := by simp [hi2]
      rw [ea, eb]
      refine ⟨⟨by omega, hlt⟩, fun _ _ => ⟨⟨by omega, by omega⟩, fun _ _ => ⟨fun hne => ?_, fun hq => ⟨by simp only [maxLen] at hla; omega, fin_lp ⟨i + 1, by omega, ?_⟩ ?_ ?_⟩⟩⟩⟩
      · refine (decide_eq_false (fun e => hne ?_)).symm
        subst e; rfl
      · rw [List.take_succ_eq_append_getElem hi1, List.take_succ_eq_append_getElem hi2, he0, Classical.not_not.1 hq]
      · simp only [go_sem]
        rfl
      · show a.length - (i + 1) < a.length - i
        omega
    · rw [List.take_of_length_le (by omega), List.take_of_length_le (by omega)] at he0
      exact (decide_eq_true he0).symm)
theorem firstLate_bd (js : Jobs) : ∀ (ts ks : List Int) (i : Int), firstLate js i ts ks = -1 ∨ (i ≤ firstLate js i ts ks ∧ firstLate js i ts ks < i + ks.length)
 | [], _, _ => .inl (by unfold firstLate; rfl)
 | _ :: _, [], _ => .inl (by unfold firstLate; rfl)
 | t :: ts, k :: ks, i => by
   unfold firstLate
   split
   · right; simp only [List.length_cons]; omega
   · rcases firstLate_bd js ts ks (i + 1) with h | h
     · exact .inl h
     · right; simp only [List.length_cons]; omega
def overV (now : Int) (js : Jobs) : List Int := if checkedV now js ≠ 0 then [] else (isort (dueLt js) (idxs js.length)).take (lateV now js (isort (dueLt js) (idxs js.length)) + 1).toNat
def con12 : Con := { ps := [.d false (.int .i64), .d false (.sl (.pair (.int .i64) (.int .i64)))], rs := [.d false (.sl (.int .i64))], pre := fun _ => True, out := fun x => (overV x.1 x.2.1, ()), nw := id }
theorem c12 : CtrOk Try.prog 12 con12.ctr :=
 con_sound (G := ⟨[(21, con21.ctr), (22, con22.ctr), (23, con23.ctr)], [], [], [], []⟩) tab_ok (EnvOk.cons c21 has21 (EnvOk.cons c22 has22 (EnvOk.cons c23 has23 EnvOk.nil))) rfl Try.func12 rfl con12 563 (by kernel_rfl) (by decide) (by decide) rfl (by decide) rfl (by
  rintro ⟨(now : Int), (js : Jobs), _⟩ hpre hwf X hT hG hk hK
  (simp -implicitDefEqProofs (maxSteps := 4000000) only [go_sem, con12, con21, con22, con23, hT, hG, hk, hK, Try.results12] at hwf ⊢); (try simp (disch := decide +kernel) only [drawn, true_and, and_true])
  intro _
  refine ⟨fun h => by unfold overV; rw [if_pos h], fun h => ?_⟩
  have h0 : checkedV now js = 0 := Classical.not_not.1 h
  have h3 := (checked_zero h0).1
  refine ⟨h3, fun _ => ?_⟩
  have hb : 0 ≤ now ∧ now ≤ 1048576 := by
   unfold checkedV at h0
   split at h0
   · cases h0
   · split at h0
     · cases h0
     · omega
  have hpm := isort_perm (dueLt js) (idxs js.length)
  have hln : (isort (dueLt js) (idxs js.length)).length = js.length := by rw [isort_len, idxs_len]
  have hfb := firstLate_bd js (finV js now (isort (dueLt js) (idxs js.length))) (isort (dueLt js) (idxs js.length)) 0
  refine ⟨⟨hb.1, hb.2, by omega, fun k hk => idxs_mem (hpm.mem_iff.1 hk)⟩, fun _ => ⟨by omega, by omega, ?_⟩⟩
  unfold overV lateV
  rw [if_neg h] <;> rfl)
def con4 : Con := { ps := [], rs := [.d false .bool], pre := fun _ => True, out := fun _ => (true, ()), nw := id }
theorem c4 : CtrOk Try.prog 4 con4.ctr :=
 con_sound (G := ⟨[(7, con7.ctr), (16, con16.ctr), (12, con12.ctr), (9, con9.ctr)], [], [], [], []⟩) tab_ok (EnvOk.cons c7 has7 (EnvOk.cons c16 has16 (EnvOk.cons c12 has12 (EnvOk.cons c9 has9 EnvOk.nil)))) rfl Try.func4 rfl con4 23 (by kernel_rfl) (by decide) (by decide) rfl (by decide) rfl (by
  rintro ⟨⟩ hpre hwf X hT hG hk hK
  (simp -implicitDefEqProofs (maxSteps := 4000000) only [go_sem, con4, con7, con16, con12, con9, hT, hG, hk, hK, Try.results4] at hwf ⊢); (try simp (disch := decide +kernel) only [drawn, true_and, and_true])
  first | done | (intros; decide))
end Go.Proofs.Ytfhbjmoegceelaa
