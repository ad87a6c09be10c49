/- The plain law: what fits, what has moved, for allocations along a way; the trial of all ways. -/
import Derived.Test.YtfaoonbnbdlgaaaRlRL1ToRSt
import Derived.Test.YtfaoonbnbdlgaaaEvTab
import Derived.OpenShut
import Derived.JoinedCond
import Derived.Below
import Derived.ChangeSame
import Derived.ChangeArms
import Derived.WideKeyArgs
import Derived.Test.YtfaoonbnbdlgaaaRlTab
import Derived.WalkKit
import Derived.ProofKit
set_option linter.unusedSimpArgs false
set_option linter.unusedVariables false
set_option maxRecDepth 100000
set_option maxHeartbeats 4000000
namespace Go.Proofs.Ytfaoonbnbdlgaaa
open Go.Ev

theorem alcs_isW {A : List Dep} {cs : List Int} {w : List Nat} (h1 : w.length = A.length) (h2 : ∀ c ∈ w, c < cs.length) : IsW A cs w (alcs A cs w) := ⟨h1, h2, List.Perm.refl _⟩
theorem mov_count (cs : List Int) (was p : List All) : (movV cs was p).length = p.countP (movB cs was) := by
 unfold movV; rw [List.length_map, List.countP_eq_length_filter]
theorem price_mov {cs : List Int} (ha : cs.Pairwise (· < ·)) {was fx : List All} {d : Dep} {c : Nat} (hc : c < cs.length) :
 RlM.price (toNd (ndA cs was fx d)) c = if movB cs was (d.1, cs.getD c 0) = true then 1 else 0 := by
 have e : (toNd (ndA cs was fx d)).home = homeV cs was d.1 := rfl
 unfold RlM.price movB
 rw [e]
 rcases home_spec cs was d.1 with ⟨h1, h2⟩ | ⟨k, h1, h2, h3, h4, h5⟩
 · rw [h1, if_neg (by omega), if_neg]
   intro h
   simp only [Bool.and_eq_true] at h
   rw [h.1.1, h.2] at h2; cases h2
 · rw [h2, h3, h4]
   by_cases hk : k = c
   · subst hk
     rw [if_neg (by omega), if_neg]
     rw [← h5 0]; simp
   · rw [if_pos ⟨by omega, by omega⟩, if_pos]
     have : ¬ (chV was d.1).1 = cs.getD c 0 := fun h => hk (asc_at ha h1 hc ((h5 0).trans h))
     rw [decide_eq_false this]; rfl
theorem cost_mov {cs : List Int} (ha : cs.Pairwise (· < ·)) (was fx : List All) : ∀ (A : List Dep) (w : List Nat), w.length = A.length → (∀ c ∈ w, c < cs.length) →
 RlM.cost (A.map (fun d => toNd (ndA cs was fx d))) w = ((alcs A cs w).countP (movB cs was) : Int)
 | [], [], _, _ => rfl
 | [], _ :: _, h, _ => by simp at h
 | _ :: _, [], h, _ => by simp at h
 | d :: A, c :: w, h, hl => by
   have ih := cost_mov ha was fx A w (by simpa using h) (fun c hc => hl c (List.mem_cons_of_mem _ hc))
   have hp := price_mov (was := was) (fx := fx) (d := d) ha (hl c List.mem_cons_self)
   show RlM.price _ c + RlM.cost _ w = (((d.1, cs.getD c 0) :: alcs A cs w).countP (movB cs was) : Int)
   rw [ih, hp, List.countP_cons]
   split <;> omega
theorem mov_cost {l : List Dep} {cs : List Int} {was p : List All} {t : Int} {w : List Nat} (ha : cs.Pairwise (· < ·)) (h : IsW (actV l t) cs w p) :
 ((movV cs was p).length : Int) = RlM.cost (ndsV l cs was t) w := by
 rw [mov_count, h.perm.countP_eq]
 exact (cost_mov ha was (fixV l cs was t) (actV l t) w h.len h.lt).symm
theorem getD_at {α : Type} {A : List α} {i : Nat} (h : i < A.length) (z : α) : A.getD i z = A[i] := by
 rw [List.getD_eq_getElem?_getD, List.getElem?_eq_getElem h]; rfl
/-- Allocations along a way are a repair exactly if the way fits. -/
theorem fit_iff {l : List Dep} {cs : List Int} {was p : List All} {t : Int} {w : List Nat} (hv : ∀ d ∈ l, validV d = true) (hn : (l.map (fun d => d.1)).Nodup) (ha : cs.Pairwise (· < ·))
 (h : IsW (actV l t) cs w p) : fitB l cs was p t = true ↔ RlM.Fit cs.length (ndsV l cs was t) w := by
 have hnA := act_flts (l := l) (t := t) hn
 have hdep := h.dep hnA ha
 have hw := h.map hnA ha
 have hasc := nds_asc (cs := cs) (old := was) (t := t) hv
 unfold ndsV at hasc
 have hsym := RlM.fit_sym (n := cs.length) (g := fun d : Dep => gF cs p d.1) hasc (fun d hd => (act_time hv hd).2.1)
 rw [show ndsV l cs was t = (actV l t).map (fun d => toNd (ndA cs was (fixV l cs was t) d)) from rfl, hw, hsym]
 have hlen : p.length = (actV l t).length := by
  rw [h.perm.length_eq]; unfold alcs; rw [List.length_map, List.length_zip, h.len]; omega
 unfold fitB
 rw [decide_eq_true hlen, Bool.true_and, Bool.and_eq_true, List.all_eq_true, List.all_eq_true]
 have hin : ∀ i (hi : i < (actV l t).length), (chV p ((actV l t).getD i zD).1).2 = true ∧ cs.any (fun y : Int => decide ((chV p ((actV l t).getD i zD).1).1 = y)) = true := fun i hi => by
  rw [getD_at hi]
  obtain ⟨k1, k2, _⟩ := hdep _ (List.getElem_mem hi)
  rw [k2]
  refine ⟨rfl, ?_⟩
  rw [List.any_eq_true]
  exact ⟨cs.getD (gF cs p ((actV l t)[i]).1) 0, by rw [getD_at k1]; exact List.getElem_mem k1, by simp⟩
 have hcl : ∀ i j (hi : i < (actV l t).length) (hj : j < (actV l t).length), clsh (actV l t) p j i = true ↔ (gF cs p ((actV l t)[i]).1 = gF cs p ((actV l t)[j]).1 ∧ RlM.Ovl (toNd (ndA cs was (fixV l cs was t) (actV l t)[i])) (toNd (ndA cs was (fixV l cs was t) (actV l t)[j]))) := fun i j hi hj => by
  unfold clsh
  rw [getD_at hi, getD_at hj]
  obtain ⟨k1, k2, _⟩ := hdep _ (List.getElem_mem hi)
  obtain ⟨k3, k4, _⟩ := hdep _ (List.getElem_mem hj)
  rw [k2, k4]
  simp only [Bool.and_eq_true, decide_eq_true_eq]
  constructor
  · rintro ⟨⟨e1, e2⟩, e3⟩
    exact ⟨(asc_at ha k3 k1 e1).symm, e2, e3⟩
  · rintro ⟨e1, e2, e3⟩
    exact ⟨⟨by rw [e1], e2⟩, e3⟩
 constructor
 · rintro ⟨h1, h2⟩
   refine ⟨fun d hd => ⟨(hdep d hd).1, fun hf => ?_⟩, ?_⟩
   · obtain ⟨_, _, _, _, m, k, g1, g2, g3⟩ := fix_home (show (chV (fixV l cs was t) d.1).2 = true from hf)
     have e1 := of_decide_eq_true (h2 _ m)
     obtain ⟨k1, k2, _⟩ := hdep d hd
     have e1 : (chV p d.1).1 = (chV was d.1).1 := e1
     rw [k2] at e1
     have := asc_at ha k1 g1 (e1.trans (g3 0).symm)
     show (gF cs p d.1 : Int) = homeV cs was d.1
     rw [g2, this]
   · rw [List.pairwise_iff_getElem]
     intro i j hi hj hij e o
     have h3 := h1 j (List.mem_range.2 hj)
     unfold fitI at h3
     simp only [Bool.and_eq_true, List.all_eq_true] at h3
     have h4 := h3.2 i (List.mem_range.2 hij)
     rw [(hcl i j hi hj).2 ⟨e, o⟩] at h4
     cases h4
 · rintro ⟨h1, h2⟩
   refine ⟨fun j hj => ?_, fun a hm => ?_⟩
   · have hj := List.mem_range.1 hj
     unfold fitI
     rw [(hin j hj).1, (hin j hj).2, Bool.true_and, Bool.true_and, List.all_eq_true]
     intro i hi
     have hi := List.mem_range.1 hi
     cases hc : clsh (actV l t) p j i with
     | false => rfl
     | true =>
       obtain ⟨e, o⟩ := (hcl i j (by omega) hj).1 hc
       exact absurd o (List.pairwise_iff_getElem.1 h2 i j (by omega) hj hi e)
   · obtain ⟨d0, hd, hb, rfl⟩ := fix_mem hm
     have hb2 := hb
     unfold fixB at hb
     simp only [Bool.and_eq_true] at hb
     have hA := mem_act hd (open_act (Int.le_refl t) hd hb.1.2)
     have hf : (chV (fixV l cs was t) d0.1).2 = true := by rw [chV_mem (fix_keys hn) (mem_fix hd hb2)]
     have h3 := (h1 _ hA).2 hf
     obtain ⟨k1, k2, _⟩ := hdep _ hA
     obtain ⟨_, _, _, _, _, k, g1, g2, g3⟩ := fix_home hf
     have h3 : (gF cs p d0.1 : Int) = homeV cs was d0.1 := h3
     have e : gF cs p d0.1 = k := by omega
     have k2 : chV p d0.1 = (cs.getD (gF cs p d0.1) 0, true) := k2
     refine decide_eq_true ?_
     show (chV p d0.1).1 = (chV was d0.1).1
     rw [k2, e]; exact g3 0
/-- The trial. -/
def fK (l : List Dep) (cs : List Int) (was : List All) (t : Int) (k : Nat) : Bool := fitB l cs was (alcs (actV l t) cs (RlM.dig cs.length (actV l t).length k)) t
def mK (l : List Dep) (cs : List Int) (was : List All) (t : Int) (k : Nat) : Int := ((movV cs was (alcs (actV l t) cs (RlM.dig cs.length (actV l t).length k))).length : Int)
theorem same_fit {l : List Dep} {cs : List Int} {was p q : List All} {t : Int} {w : List Nat} (hv : ∀ d ∈ l, validV d = true) (hn : (l.map (fun d => d.1)).Nodup) (ha : cs.Pairwise (· < ·))
 (h : IsW (actV l t) cs w p) (h' : IsW (actV l t) cs w q) : fitB l cs was p t = fitB l cs was q t := by
 rw [Bool.eq_iff_iff, fit_iff hv hn ha h, fit_iff hv hn ha h']
theorem dig_isW {l : List Dep} {cs : List Int} {t : Int} {k : Nat} (h : k < cs.length ^ (actV l t).length) : IsW (actV l t) cs (RlM.dig cs.length (actV l t).length k) (alcs (actV l t) cs (RlM.dig cs.length (actV l t).length k)) := by
 refine alcs_isW (RlM.dig_len _ _ _) ?_
 cases hL : (actV l t).length with
 | zero => intro c hc; simp [RlM.dig] at hc
 | succ m =>
   rw [hL] at h
   refine RlM.dig_lt ?_ _ _
   rcases Nat.eq_zero_or_pos cs.length with e | e
   · rw [e, Nat.zero_pow (by omega)] at h; omega
   · exact e
theorem trial_law {l : List Dep} {cs : List Int} {was : List All} {t : Int} (h0 : argR l cs t = 0) :
 (List.range (cs.length ^ (actV l t).length)).foldl (RlM.stepB (fK l cs was t) (mK l cs was t)) (1000, none) =
   if lsV (needV l cs was (fixV l cs was t) t) cs.length st0 < 17 then (lsV (needV l cs was (fixV l cs was t) t) cs.length st0, some (RlM.num cs.length (pathR (needV l cs was (fixV l cs was t) t) cs.length))) else (1000, none) := by
 obtain ⟨a1, a2, a3, a4, a5, a6⟩ := argR_all h0
 have ha := ascI_pair a6
 have hlen : (ndsV l cs was t).length = (actV l t).length := by rw [nds_len, actV_len]
 have hT := RlM.trial_search (n := cs.length) (ds := ndsV l cs was t) (fr := List.replicate 6 0) (f := fK l cs was t) (m := mK l cs was t) (big := 1000)
  (by rw [nds_len]; show (_ : Int) < 17; omega) (by decide)
  (fun k hk => by
    rw [hlen] at hk ⊢
    unfold fK
    rw [fit_iff a1 a2 ha (dig_isW hk), RlM.path0 (nds_asc a1) a4])
  (fun k hk _ => by
    rw [hlen] at hk ⊢
    unfold mK
    exact mov_cost ha (dig_isW hk))
 rw [hlen] at hT
 rw [hT, ← ls_eq]
 have e : RlM.first cs.length (ndsV l cs was t) (List.replicate 6 0) (lsV (needV l cs was (fixV l cs was t) t) cs.length st0) = pathR (needV l cs was (fixV l cs was t) t) cs.length := by
  unfold pathR; rw [nds_eq]; rfl
 rw [e]; rfl
/-- The least number of moves, as the law asks. -/
theorem least_law {l : List Dep} {cs : List Int} {was : List All} {t : Int} (h0 : argR l cs t = 0) (h : (repV l cs was t).2 = 0) :
 fitB l cs was (repV l cs was t).1 t = true ∧ lsV (needV l cs was (fixV l cs was t) t) cs.length st0 < 17 ∧ ((movV cs was (repV l cs was t).1).length : Int) = lsV (needV l cs was (fixV l cs was t) t) cs.length st0 ∧
 RlM.dig cs.length (actV l t).length (RlM.num cs.length (pathR (needV l cs was (fixV l cs was t) t) cs.length)) = pathR (needV l cs was (fixV l cs was t) t) cs.length ∧
 (pathR (needV l cs was (fixV l cs was t) t) cs.length).length = (actV l t).length ∧
 ∀ i (hi : i < (actV l t).length), (chV (repV l cs was t).1 ((actV l t)[i]).1).1 = cs.getD ((pathR (needV l cs was (fixV l cs was t) t) cs.length).getD i 0) 0 := by
 obtain ⟨a1, a2, a3, a4, a5, a6⟩ := argR_all h0
 have ha := ascI_pair a6
 obtain ⟨x1, x2, x3, x4⟩ := rep_facts h h0
 have hpo := path_ok x2
 refine ⟨(fit_iff a1 a2 ha x3).2 ((RlM.path0 (nds_asc a1) a4).1 hpo.1), x2, ?_, ?_, x3.len, fun i hi => ?_⟩
 · rw [mov_cost ha x3, hpo.2]
 · exact RlM.dig_num _ _ x3.len x3.lt
 · have hnA := act_flts (l := l) (t := t) a2
   have hz : ((actV l t)[i], (pathR (needV l cs was (fixV l cs was t) t) cs.length).getD i 0) ∈ (actV l t).zip (pathR (needV l cs was (fixV l cs was t) t) cs.length) := by
    rw [getD_at (by rw [x3.len]; exact hi)]
    rw [List.mem_iff_getElem]
    exact ⟨i, by rw [List.length_zip, x3.len]; omega, by rw [List.getElem_zip]⟩
   rw [(x3.at_ hnA ha _ hz).2.1]
/-- The allocations that the trial builds, from the end on. -/
theorem placeV_perm (p : List All) (a : All) : (placeV p a).Perm (a :: p) := by
 unfold placeV
 have := List.takeWhile_append_dropWhile (p := fun x : All => decide (fltC x.1 a.1 < 0)) (l := p)
 conv => rhs; rw [← this]
 exact List.perm_middle
end Go.Proofs.Ytfaoonbnbdlgaaa

/- The law: no other assignment of chutes is a repair with fewer moves, or one with as many moves that comes before it. -/
set_option linter.unusedSimpArgs false
set_option linter.unusedVariables false
set_option maxRecDepth 100000
set_option maxHeartbeats 16000000
namespace Go.Proofs.Ytfaoonbnbdlgaaa
open Go.Ev

def chsOf (cs : List Int) (w : List Nat) : List Int := w.map (fun c => cs.getD c 0)
def firstV (cs : List Int) (L : Nat) : Option Nat → List Int
 | some i => chsOf cs (RlM.dig cs.length L i)
 | none => []
theorem rvd_seven {l : List Dep} {cs : List Int} {old : List All} {t : Int} (h0 : argR l cs t = 0) (h : (repV l cs old t).2 = 7) : rvdV l cs old t = 7 := by
 have := (rep_err h0).2.1 h
 unfold rvdV
 rw [if_neg (by omega), if_pos this]
theorem pow_le {n L : Nat} (h1 : n ≤ 3) (h2 : L ≤ 5) : n ^ L ≤ 243 := by
 rcases (by omega : n = 0 ∨ n = 1 ∨ n = 2 ∨ n = 3) with rfl | rfl | rfl | rfl <;> rcases (by omega : L = 0 ∨ L = 1 ∨ L = 2 ∨ L = 3 ∨ L = 4 ∨ L = 5) with rfl | rfl | rfl | rfl | rfl | rfl <;> decide
theorem stepB_keep {f : Nat → Bool} {m : Nat → Int} {tot k : Nat} (hk : k < tot) : (List.range (k + 1)).foldl (RlM.stepB f m) (1000, none) = RlM.stepB f m ((List.range k).foldl (RlM.stepB f m) (1000, none)) k := by
 rw [List.range_succ, List.foldl_append]; rfl
def trB (l : List Dep) (cs : List Int) (was : List All) (t : Int) (k : Nat) : Int × Option Nat := (List.range k).foldl (RlM.stepB (fK l cs was t) (mK l cs was t)) (1000, none)
def con3 : Con := { ps := [.d false (.sl (.int .i64))], rs := [.d false .bool], pre := fun _ => True, out := fun _ => (true, ()), nw := id }
theorem c3 : CtrOk Try.prog 3 con3.ctr :=
 con_sound (G := ⟨[(6, con6.ctr), (7, con7.ctr), (8, con8.ctr), (9, con9.ctr), (10, con10.ctr), (12, con12.ctr), (15, con15.ctr), (19, con19.ctr), (16, con16.ctr), (17, con17.ctr), (14, con14.ctr), (11, con11.ctr), (18, con18.ctr), (13, con13.ctr)], [], [], [], []⟩) tab_ok (EnvOk.cons c6 has6 (EnvOk.cons c7 has7 (EnvOk.cons c8 has8 (EnvOk.cons c9 has9 (EnvOk.cons c10 has10 (EnvOk.cons c12 has12 (EnvOk.cons c15 has15 (EnvOk.cons c19 has19 (EnvOk.cons c16 has16 (EnvOk.cons c17 has17 (EnvOk.cons c14 has14 (EnvOk.cons c11 has11 (EnvOk.cons c18 has18 (EnvOk.cons c13 has13 EnvOk.nil)))))))))))))) rfl Try.func3 rfl con3 6130066930605909709349521576037070269222483488025870333 (by kernel_rfl) (by decide) (by decide) rfl (by decide) rfl (by
  rintro ⟨(l : List Int), _⟩ hpre hwf X hT hG hk hK
  (simp -implicitDefEqProofs (maxSteps := 4000000) only [go_sem, Bool.not_eq_true', Bool.not_eq_false', Bool.or_eq_true, Bool.or_eq_false_iff, Bool.and_eq_true, Bool.and_eq_false_iff, decide_eq_true_eq, decide_eq_false_iff_not, Classical.not_not, not_or, maxLen, con3, con6, con7, con8, con9, con10, con12, con15, con19, con16, con17, con14, con11, con18, con13, hT, hG, hk, hK, Try.results3] at hwf ⊢); (try simp (disch := decide +kernel) only [drawn, true_and, and_true])
  clear hwf
  have s1 := schedV_pos (l.take 2000, 0) 5 (Int.le_refl 0)
  have s2 := schedV_len (l.take 2000, 0) 5 (by decide)
  have s3 := sched_validate (l.take 2000, 0) 5 (by decide) (by decide)
  generalize schedV (l.take 2000, 0) 5 = S at s1 s2 s3 ⊢
  obtain ⟨x, s⟩ := S
  dsimp only at s1 s2 s3 ⊢
  obtain ⟨c2, c3, c4, c1⟩ := chsV_ok s 3 (by decide)
  have c1 := c1 s1
  generalize chsV s 3 = C at c1 c2 c3 c4 ⊢
  obtain ⟨c, s⟩ := C
  dsimp only at c1 c2 c3 c4 ⊢
  have o1 := oldL_pos true (refP x [1, 2, 3, 4, 5, 6]).1.1 s c1
  rw [show oldL true (refP x [1, 2, 3, 4, 5, 6]).1.1 s = oldV s x true from rfl] at o1
  generalize oldV s x true = O at o1 ⊢
  obtain ⟨was, s⟩ := O
  dsimp only at o1 ⊢
  generalize goMod s.raw 50 = t
  have h0 : argR x c t = 0 := gen_args s3 (by omega) (by omega) c3 c4
  have he := (rep_err (old := was) h0).1
  have h7 := rvd_seven (old := was) h0
  have hTr := trial_law (was := was) h0
  have hL := least_law (was := was) h0
  have hrep : (repV x c was t).2 = 11 → 17 ≤ lsV (needV x c was (fixV x c was t) t) c.length st0 := fun h => by
   by_cases hx : ((fixV x c was t).map (fun a => a.2)).Nodup
   · rw [rep_of h0 hx] at h
     by_cases h2 : 17 ≤ lsV (needV x c was (fixV x c was t) t) c.length st0
     · exact h2
     · rw [if_neg h2] at h; simp at h
   · have := (rep_err (old := was) h0).2.2 hx
     omega
  have hAl := (actV_len x t).symm ▸ actN_le x t
  have hpl : (repV x c was t).2 = 0 → (repV x c was t).1.length ≤ 5 := fun h => by
   obtain ⟨_, _, x3, _⟩ := rep_facts h h0
   rw [x3.perm.length_eq]; unfold alcs; rw [List.length_map, List.length_zip]; omega
  generalize hR : repV x c was t = R at he h7 hL hrep hpl ⊢
  obtain ⟨p, (e : Int)⟩ := R
  dsimp only at he h7 hL hrep hpl ⊢
  generalize hlv : lsV (needV x c was (fixV x c was t) t) c.length st0 = lv at hTr hL hrep
  generalize hpv : pathR (needV x c was (fixV x c was t) t) c.length = pv at hTr hL
  (repeat' (with_reducible (first | refine And.intro ?_ ?_ | intro _))) <;> (try (first | with_reducible (first | done | assumption | omega | contradiction) | decide))
  · have h9 : (e = 0 ∧ fitB x c was p t = false) ∨ (¬ e = 0 ∧ ¬ e = 11) := by assumption
    rcases h9 with ⟨h1, h2⟩ | ⟨h1, h2⟩
    · rw [(hL h1).1] at h2; cases h2
    · omega
  have he : e = 0 ∨ e = 11 := by omega
  clear h7
  generalize hA : actV x t = A at hTr hL hAl ⊢
  refine evk_loop ⟨{ i : Nat // i ≤ A.length }, 2000, fun i => [(4, .one (.sl yDP x false)), (5, .one (.sl (.int .i64) c false)), (6, .one (.sl (.pair yFL (.int .i64)) was false)), (7, .one (.int .i64 t)), (8, .one (.sl (.pair yFL (.int .i64)) p false)), (9, .one (.int .i64 e)), (10, .one (.sl yDP A false)), (11, .one (.int .i64 1000)), (12, .one (.bool false)), (13, .one (.sl (.int .i64) [] false)), (14, .one (.int .i64 ((c.length ^ i.1 : Nat) : Int))), (78, .one (.int .i64 A.length)), (79, .one (.int .i64 i.1))], fun i => [], fun i => A.length - i.1⟩ ⟨0, Nat.zero_le _⟩ ?_ ?_
  · simp only [go_sem]
    exact ⟨rfl, rfl⟩
  rintro ⟨i, (hi : i ≤ A.length)⟩
  (simp -implicitDefEqProofs (maxSteps := 4000000) only [go_sem, Bool.not_eq_true', Bool.not_eq_false', Bool.or_eq_true, Bool.or_eq_false_iff, Bool.and_eq_true, Bool.and_eq_false_iff, decide_eq_true_eq, decide_eq_false_iff_not, Classical.not_not, not_or, maxLen, con3, con6, con7, con8, con9, con10, con12, con15, con19, con16, con17, con14, con11, con18, con13, hT, hG, hk, hK, Try.results3]); (try simp (disch := decide +kernel) only [drawn, true_and, and_true])
  refine ⟨fun hlt => ?_, fun hge => ?_⟩
  · have hp1 := pow_le (n := c.length) (L := i) (by omega) (by omega)
    have hp2 := pow_le (n := c.length) (L := i + 1) (by omega) (by omega)
    have hp3 : (((c.length ^ i : Nat) : Int)) * (c.length : Int) = ((c.length ^ (i + 1) : Nat) : Int) := by rw [Nat.pow_succ, Int.natCast_mul]
    rw [hp3]
    (repeat' (with_reducible (first | refine And.intro ?_ ?_ | intro _))) <;> (try (first | with_reducible (first | done | assumption | omega | contradiction) | decide))
    refine fin_lp ⟨i + 1, by omega⟩ ?_ ?_
    · simp only [go_sem]
      rfl
    · dsimp only; omega
  have hiA : i = A.length := by omega
  subst hiA
  clear hge
  have hp1 := pow_le (n := c.length) (L := A.length) (by omega) (by omega)
  refine evk_loop ⟨{ k : Nat // k ≤ c.length ^ A.length }, 3000, fun k => [(4, .one (.sl yDP x false)), (5, .one (.sl (.int .i64) c false)), (6, .one (.sl (.pair yFL (.int .i64)) was false)), (7, .one (.int .i64 t)), (8, .one (.sl (.pair yFL (.int .i64)) p false)), (9, .one (.int .i64 e)), (10, .one (.sl yDP A false)), (11, .one (.int .i64 (trB x c was t k.1).1)), (12, .one (.bool (trB x c was t k.1).2.isSome)), (13, .one (.sl (.int .i64) (firstV c A.length (trB x c was t k.1).2) false)), (14, .one (.int .i64 ((c.length ^ A.length : Nat) : Int))), (15, .one (.int .i64 k.1))], fun k => [], fun k => c.length ^ A.length - k.1⟩ ⟨0, Nat.zero_le _⟩ ?_ ?_
  · simp only [go_sem]
    and_intros <;> rfl
  rintro ⟨k, (hkk : k ≤ c.length ^ A.length)⟩
  (simp -implicitDefEqProofs (maxSteps := 4000000) only [go_sem, Bool.not_eq_true', Bool.not_eq_false', Bool.or_eq_true, Bool.or_eq_false_iff, Bool.and_eq_true, Bool.and_eq_false_iff, decide_eq_true_eq, decide_eq_false_iff_not, Classical.not_not, not_or, maxLen, con3, con6, con7, con8, con9, con10, con12, con15, con19, con16, con17, con14, con11, con18, con13, hT, hG, hk, hK, Try.results3]); (try simp (disch := decide +kernel) only [drawn, true_and, and_true])
  refine ⟨fun hlt => ?_, fun hge => ?_⟩
  · have hlt : k < c.length ^ A.length := by omega
    intro _
    refine ⟨by omega, ?_⟩
    refine evk_loop ⟨{ y : Nat × Nat × List Nat × List All // y.1 ≤ A.length ∧ y.2.1 ≤ 243 ∧ RlM.dig c.length A.length k = RlM.dig c.length y.1 y.2.1 ++ y.2.2.1 ∧ y.2.2.1.length + y.1 = A.length ∧ (∀ d ∈ y.2.2.1, d < c.length) ∧ y.2.2.2.Perm (alcs (A.drop y.1) c y.2.2.1) }, 4000, fun y => [(4, .one (.sl yDP x false)), (5, .one (.sl (.int .i64) c false)), (6, .one (.sl (.pair yFL (.int .i64)) was false)), (7, .one (.int .i64 t)), (8, .one (.sl (.pair yFL (.int .i64)) p false)), (9, .one (.int .i64 e)), (10, .one (.sl yDP A false)), (11, .one (.int .i64 (trB x c was t k).1)), (12, .one (.bool (trB x c was t k).2.isSome)), (13, .one (.sl (.int .i64) (firstV c A.length (trB x c was t k).2) false)), (14, .one (.int .i64 ((c.length ^ A.length : Nat) : Int))), (15, .one (.int .i64 k)), (16, .one (.sl (.pair yFL (.int .i64)) y.1.2.2.2 false)), (17, .one (.sl (.int .i64) (chsOf c y.1.2.2.1) false)), (18, .one (.int .i64 y.1.2.1)), (19, .one (.int .i64 ((y.1.1 : Int) - 1)))], fun y => [], fun y => y.1.1⟩ ⟨⟨A.length, k, [], []⟩, Nat.le_refl _, Nat.le_of_lt (Nat.lt_of_lt_of_le hlt hp1), by rw [List.append_nil], by simp, by simp, by simp [alcs]⟩ ?_ ?_
    · simp only [go_sem]
      and_intros <;> rfl
    rintro ⟨⟨j, rest, ws, qq⟩, (hj : j ≤ A.length), (hrs : rest ≤ 243), (hdg : RlM.dig c.length A.length k = RlM.dig c.length j rest ++ ws), (hwl : ws.length + j = A.length), (hws : ∀ d ∈ ws, d < c.length), (hqp : qq.Perm (alcs (A.drop j) c ws))⟩
    (simp -implicitDefEqProofs (maxSteps := 4000000) only [go_sem, Bool.not_eq_true', Bool.not_eq_false', Bool.or_eq_true, Bool.or_eq_false_iff, Bool.and_eq_true, Bool.and_eq_false_iff, decide_eq_true_eq, decide_eq_false_iff_not, Classical.not_not, not_or, maxLen, con3, con6, con7, con8, con9, con10, con12, con15, con19, con16, con17, con14, con11, con18, con13, hT, hG, hk, hK, Try.results3]); (try simp (disch := decide +kernel) only [drawn, true_and, and_true])
    refine ⟨fun hlt2 => ?_, fun hge2 => ?_⟩
    · obtain ⟨j, rfl⟩ : ∃ i, j = i + 1 := ⟨j - 1, by omega⟩
      have hn : 0 < c.length := by
       rcases Nat.eq_zero_or_pos c.length with h | h
       · rw [h, Nat.zero_pow (by omega)] at hlt; omega
       · exact h
      have e1 : (((j + 1 : Nat) : Int) - 1) = (j : Int) := by omega
      have e2 : (rest : Int).tmod (c.length : Int) = ((rest % c.length : Nat) : Int) := (Int.ofNat_tmod rest c.length).symm
      have e3 : (rest : Int).tdiv (c.length : Int) = ((rest / c.length : Nat) : Int) := (Int.ofNat_tdiv rest c.length).symm
      have ek : ∀ z, A.getD j z = A[j] := fun z => by simp [show j < A.length by omega]
      have hmd : rest % c.length < c.length := Nat.mod_lt _ hn
      have hdv : rest / c.length ≤ 243 := Nat.le_trans (Nat.div_le_self _ _) hrs
      have hcl : (chsOf c ws).length ≤ 5 := by unfold chsOf; rw [List.length_map]; omega
      have hql : qq.length ≤ 5 := by rw [hqp.length_eq]; unfold alcs; rw [List.length_map, List.length_zip]; omega
      simp only [e1, e2, e3, Int.toNat_natCast, ek]
      have hnew : j ≤ A.length ∧ rest / c.length ≤ 243 ∧ RlM.dig c.length A.length k = RlM.dig c.length j (rest / c.length) ++ (rest % c.length :: ws) ∧ (rest % c.length :: ws).length + j = A.length ∧ (∀ d ∈ (rest % c.length :: ws), d < c.length) ∧ (placeV qq ((A[j]).1, c.getD (rest % c.length) 0)).Perm (alcs (A.drop j) c (rest % c.length :: ws)) := by
       refine ⟨by omega, hdv, ?_, by rw [List.length_cons]; omega, ?_, ?_⟩
       · rw [hdg]
         show (RlM.dig c.length j (rest / c.length) ++ [rest % c.length]) ++ ws = _
         rw [List.append_assoc]; rfl
       · intro d hd
         rcases List.mem_cons.1 hd with rfl | hd
         · exact hmd
         · exact hws d hd
       · refine (placeV_perm _ _).trans ?_
         rw [List.drop_eq_getElem_cons (show j < A.length by omega)]
         exact hqp.cons _
      generalize rest % c.length = md at *
      generalize rest / c.length = dv at *
      (repeat' (with_reducible (first | refine And.intro ?_ ?_ | intro _))) <;> (try (first | with_reducible (first | done | assumption | omega | contradiction) | decide))
      refine fin_lp ⟨⟨j, dv, md :: ws, placeV qq ((A[j]).1, c.getD md 0)⟩, hnew⟩ ?_ ?_
      · simp only [go_sem]
        and_intros <;> rfl
      · dsimp only; omega
    · have hj0 : j = 0 := by omega
      subst hj0
      rw [List.drop_zero] at hqp
      have hdg : RlM.dig c.length A.length k = ws := hdg
      have hiw : IsW (actV x t) c ws qq := ⟨by rw [hA]; omega, hws, by rw [hA]; exact hqp⟩
      obtain ⟨a1, a2, a3, a4, a5, a6⟩ := argR_all h0
      have ha := ascI_pair a6
      have hdi := dig_isW (cs := c) (l := x) (t := t) (k := k) (by rw [hA]; exact hlt)
      rw [hA, hdg, ← hA] at hdi
      have hf : fK x c was t k = fitB x c was qq t := by
       unfold fK; rw [hA, hdg, ← hA]; exact same_fit a1 a2 ha hdi hiw
      have hm : mK x c was t k = ((movV c was qq).length : Int) := by
       unfold mK; rw [hA, hdg, ← hA]; exact (mov_cost ha hdi).trans (mov_cost ha hiw).symm
      have hql : qq.length ≤ 5 := by rw [hqp.length_eq]; unfold alcs; rw [List.length_map, List.length_zip]; omega
      have hst : trB x c was t (k + 1) = RlM.stepB (fK x c was t) (mK x c was t) (trB x c was t k) k := stepB_keep (tot := k + 1) (Nat.lt_succ_self k)
      unfold RlM.stepB at hst
      rw [hf, hm] at hst
      refine ⟨by omega, fun _ _ => ⟨by omega, fun hy => ?_, fun hno => ?_⟩⟩
      · rw [if_pos hy] at hst
        refine ⟨by omega, ?_⟩
        refine fin_lp ⟨k + 1, hlt⟩ ?_ ?_
        · simp only [go_sem]
          simp only [hst, firstV, hdg]
          and_intros <;> first | trivial | rfl
        · dsimp only; omega
      · rw [if_neg (fun h => by rcases hno with h1 | h1; · rw [h1] at h; cases h.1
                                · exact h1 h.2)] at hst
        refine ⟨by omega, ?_⟩
        refine fin_lp ⟨k + 1, hlt⟩ ?_ ?_
        · simp only [go_sem]
          simp only [hst]
          and_intros <;> first | trivial | rfl
        · dsimp only; omega
  · have hkL : k = c.length ^ A.length := by omega
    have hB : trB x c was t k = if lv < 17 then (lv, some (RlM.num c.length pv)) else (1000, none) := by rw [hkL]; exact hTr
    refine ⟨fun hn => ?_, fun hy => ?_⟩
    · rcases he with he | he
      · rw [hB, if_pos (hL he).2.1] at hn; cases hn
      · exact he
    · have hlv2 : lv < 17 := by
       by_cases h : lv < 17
       · exact h
       · rw [hB, if_neg h] at hy; cases hy
      rw [if_pos hlv2] at hB
      have he0 : e = 0 := by
       rcases he with he | he
       · exact he
       · have := hrep he; omega
      subst he0
      obtain ⟨l1, l2, l3, l4, l5, l6⟩ := hL rfl
      have hpl := hpl rfl
      rw [hB]
      have hfi : firstV c A.length (some (RlM.num c.length pv)) = chsOf c pv := by show chsOf c _ = _; rw [l4]
      simp only [hfi, l3]
      have hcl : (chsOf c pv).length = A.length := by unfold chsOf; rw [List.length_map, l5]
      refine ⟨fun _ => by omega, fun _ _ => ⟨fun h => by rcases h with h | h <;> exact h trivial, fun _ _ => ?_⟩⟩
      refine evk_loop ⟨{ i : Nat // i ≤ A.length }, 5000, fun i => [(8, .one (.sl (.pair yFL (.int .i64)) p false)), (10, .one (.sl yDP A false)), (13, .one (.sl (.int .i64) (chsOf c pv) false)), (163, .one (.int .i64 A.length)), (164, .one (.int .i64 i.1))], fun i => [], fun i => A.length - i.1⟩ ⟨0, Nat.zero_le _⟩ ?_ ?_
      · simp only [go_sem]
        try rfl
      rintro ⟨i, (hi : i ≤ A.length)⟩
      (simp -implicitDefEqProofs (maxSteps := 4000000) only [go_sem, Bool.not_eq_true', Bool.not_eq_false', Bool.or_eq_true, Bool.or_eq_false_iff, Bool.and_eq_true, Bool.and_eq_false_iff, decide_eq_true_eq, decide_eq_false_iff_not, Classical.not_not, not_or, maxLen, con3, con6, con7, con8, con9, con10, con12, con15, con19, con16, con17, con14, con11, con18, con13, hT, hG, hk, hK, Try.results3]); (try simp (disch := decide +kernel) only [drawn, true_and, and_true])
      intro hlt
      have hi' : i < A.length := by omega
      have ek : ∀ z, A.getD (i : Int).toNat z = A[i] := fun z => by simp [hi']
      have ec : (chsOf c pv).getD (i : Int).toNat 0 = c.getD (pv.getD i 0) 0 := by
       rw [Int.toNat_natCast]; unfold chsOf
       rw [List.getD_eq_getElem?_getD, List.getElem?_map, List.getElem?_eq_getElem (show i < pv.length by omega), getD_at (show i < pv.length by omega)]; rfl
      simp only [ek, ec, l6 i hi', not_true_eq_false, false_implies, true_implies, true_and]
      (repeat' (with_reducible (first | refine And.intro ?_ ?_ | intro _))) <;> (try (first | with_reducible (first | done | assumption | omega | contradiction) | decide))
      refine fin_lp ⟨i + 1, by omega⟩ ?_ ?_
      · simp only [go_sem]
        try first | rfl | omega
      · dsimp only; omega)
end Go.Proofs.Ytfaoonbnbdlgaaa

/- The rows: what the arguments read as; a law's contract gives its row. -/
set_option linter.unusedSimpArgs false
set_option linter.unusedVariables false
namespace Go.Ev
open Go.RowKit Go.WideShapes Go.ChangeShapes

/-- A type of the program is a type of plain data. -/
def tyB (P : Program) : Nat → TypeId → Ty → Bool
 | 0, _, _ => false
 | d + 1, t, u => decide (P.cellsOf t = u.n) && decide (0 < u.n) && (match P.underlying t with
   | some (.struct fs) => tyFs (tyB P d) fs.toList 0 u
   | some (.int k) => (match u with | .int k' => decide (k = k') | _ => false)
   | some .bool => (match u with | .bool => true | _ => false)
   | some .string => (match u with | .str => true | _ => false)
   | some (.slice e) => (match u with | .sl v => tyB P d e v | _ => false)
   | _ => false)
where tyFs (f : TypeId → Ty → Bool) : List Field → Nat → Ty → Bool
 | [], _, _ => false
 | [x], off, u => decide (x.offset = off) && f x.type u
 | x :: y :: xs, off, .pair a b => decide (x.offset = off) && f x.type a && tyFs f (y :: xs) (off + a.n) b
 | _, _, _ => false

/-- The size of data. -/
def sz : (t : Ty) → t.den → Nat
 | .int _, _ => 1
 | .bool, _ => 1
 | .str, s => s.size + 1
 | .unit, _ => 0
 | .sl t, xs => (xs.map (sz t)).sum + 1
 | .pair a b, p => sz a p.1 + sz b p.2

structure Bulk {H : Type} (B : DataW H → Nat) (BA : List (DataW H) → Nat) : Prop where
 lit : ∀ l, 1 ≤ B (.lit l)
 str : ∀ b, b.length + 1 ≤ B (.lit (.string b))
 nil : 1 ≤ B .nil
 sl : ∀ a b, BA a + 1 ≤ B (.slice a b)
 agg : ∀ a, BA a ≤ B (.agg a)
 cons : ∀ d r, BA (d :: r) = B d + BA r

section
variable {H : Type} {enc : TypeId × Value → H} {P : Program} {w : World} {B : DataW H → Nat} {BA : List (DataW H) → Nat}

theorem mapM_at {α β : Type} {f : α → Option β} : ∀ {l : List α} {r : List β}, l.mapM f = some r → r.length = l.length ∧ ∀ (i : Nat) (x : α) (y : β), l[i]? = some x → r[i]? = some y → f x = some y
 | [], r, h => by simp at h; subst h; exact ⟨rfl, fun i x y h => by simp at h⟩
 | a :: l, r, h => by
   rw [List.mapM_cons] at h
   cases hf : f a with
   | none => rw [hf] at h; cases h
   | some b =>
     rw [hf] at h
     cases hl : l.mapM f with
     | none => simp only [hl] at h; cases h
     | some bs =>
       simp only [hl] at h
       cases h
       obtain ⟨h1, h2⟩ := mapM_at hl
       refine ⟨by simp [h1], fun i x y hx hy => ?_⟩
       cases i with
       | zero => simp at hx hy; subst hx; subst hy; exact hf
       | succ i => simp at hx hy; exact h2 i x y hx hy

theorem cells?_spec {a : Addr} {n : Nat} {cs : List Value} (h : w.cells? 0 a n = some cs) : cs.length = n ∧ ∀ j u, cs[j]? = some u → w.cell? (a.add j) = some u := by
 unfold World.cells? at h
 rw [if_pos (Nat.zero_le _)] at h
 obtain ⟨h1, h2⟩ := mapM_at h
 refine ⟨by simpa using h1, fun j u hu => ?_⟩
 have hj : j < cs.length := (List.getElem?_eq_some_iff.1 hu).1
 have hjn : j < n := by simp at h1; omega
 exact h2 j j u (by simp [hjn]) hu

theorem sum_le {B : DataW H → Nat} {BA : List (DataW H) → Nat} (hB : Bulk B BA) {t : Ty} : ∀ (ys : List t.den) (ds : List (DataW H)), ys.length = ds.length → (∀ (i : Nat) (y : t.den) (d : DataW H), ys[i]? = some y → ds[i]? = some d → sz t y ≤ B d) → (ys.map (sz t)).sum ≤ BA ds
 | [], ds, _, _ => by simp
 | y :: ys, [], h, _ => by simp at h
 | y :: ys, d :: ds, h, hs => by
   have h0 := hs 0 y d rfl rfl
   have := sum_le hB ys ds (by simpa using h) (fun i y d hy hd => hs (i + 1) y d (by simpa using hy) (by simpa using hd))
   simp only [List.map_cons, List.sum_cons, hB.cons]
   omega

theorem roAll_mk {α : Type} {r : α → List Value → Prop} : ∀ (ys : List α) (cs : List (List Value)), ys.length = cs.length → (∀ (i : Nat) (y : α) (c : List Value), ys[i]? = some y → cs[i]? = some c → r y c) → roAll r ys cs.flatten
 | [], [], _, _ => rfl
 | [], _ :: _, h, _ => by simp at h
 | _ :: _, [], h, _ => by simp at h
 | y :: ys, c :: cs, h, hr => ⟨c, cs.flatten, by simp, hr 0 y c rfl rfl, roAll_mk ys cs (by simpa using h) (fun i z d hz hd => hr (i + 1) z d (by simpa using hz) (by simpa using hd))⟩

theorem pickQ {α : Type} {Q : Nat → α → Prop} : ∀ (n : Nat), (∀ i, i < n → ∃ y, Q i y) → ∃ ys : List α, ys.length = n ∧ ∀ (i : Nat) (y : α), ys[i]? = some y → Q i y
 | 0, _ => ⟨[], rfl, fun i y h => by simp at h⟩
 | n + 1, h => by
   obtain ⟨ys, h1, h2⟩ := pickQ n (fun i hi => h i (by omega))
   obtain ⟨y, hy⟩ := h n (by omega)
   refine ⟨ys ++ [y], by simp [h1], fun i z hz => ?_⟩
   by_cases e : i < n
   · rw [List.getElem?_append_left (by omega)] at hz; exact h2 i z hz
   · have hlt := (List.getElem?_eq_some_iff.1 hz).1
     have : i = n := by simp at hlt; omega
     subst this
     rw [List.getElem?_append_right (by omega), h1] at hz
     simp at hz; subst hz; exact hy

theorem pick_rows {α : Type} (f : Nat → Option α) : ∀ (n : Nat), (∀ i, i < n → ∃ y, f i = some y) → ∃ ys : List α, ys.length = n ∧ ∀ i, i < n → f i = ys[i]?
 | 0, _ => ⟨[], rfl, fun i hi => by omega⟩
 | n + 1, h => by
   obtain ⟨ys, h1, h2⟩ := pick_rows f n (fun i hi => h i (by omega))
   obtain ⟨y, hy⟩ := h n (by omega)
   refine ⟨ys ++ [y], by simp [h1], fun i hi => ?_⟩
   by_cases e : i = n
   · subst e; rw [hy, List.getElem?_append_right (by omega), h1]; simp
   · rw [h2 i (by omega), List.getElem?_append_left (by omega)]

theorem flatten_at {n : Nat} : ∀ (cs : List (List Value)), (∀ c ∈ cs, c.length = n) → ∀ (j : Nat) (u : Value), cs.flatten[j]? = some u → ∃ i q c, cs[i]? = some c ∧ c[q]? = some u ∧ j = i * n + q
 | [], _, j, u, h => by simp at h
 | c :: cs, hl, j, u, h => by
   rw [List.flatten_cons] at h
   by_cases hj : j < c.length
   · rw [List.getElem?_append_left hj] at h
     exact ⟨0, j, c, rfl, h, by omega⟩
   · rw [List.getElem?_append_right (by omega)] at h
     obtain ⟨i, q, d, h1, h2, h3⟩ := flatten_at cs (fun d hd => hl d (by simp [hd])) _ u h
     have := hl c (by simp)
     exact ⟨i + 1, q, d, by simpa using h1, h2, by rw [Nat.add_mul]; omega⟩

theorem add_add (a : Addr) (i j : Nat) (h : a.spot = none) : (a.add i).add j = a.add (i + j) := by
 obtain ⟨b, o, s⟩ := a
 simp only at h
 subst h
 simp [add_none, Nat.add_assoc]

/-- DATA THAT CAN BE READ. -/
theorem trod_ro (hB : Bulk B BA) : ∀ (fuel d : Nat) (t : TypeId) (u : Ty) (cs : List Value) (x : DataW H × List MemPlace), tyB P d t u = true → DataW.trod enc P w 0 (fun _ => true) true fuel t cs = some x → ∃ y : u.den, ro w (fun _ => False) u y cs ∧ sz u y ≤ B x.1
 | 0, d, t, u, cs, x, _, h => by simp [DataW.trod] at h
 | fuel + 1, 0, t, u, cs, x, ht, h => by cases ht
 | fuel + 1, d + 1, t, u, cs, x, ht, h => by
   simp only [tyB, Bool.and_eq_true, decide_eq_true_eq] at ht
   obtain ⟨⟨hn, hpos⟩, ht⟩ := ht
   cases hu : P.underlying t with
   | none => rw [hu] at ht; cases ht
   | some de =>
     rw [hu] at ht
     cases de <;> simp only at ht <;> try (cases ht; done)
     case bool =>
      cases u <;> simp only at ht <;> try (cases ht; done)
      obtain ⟨b, rfl, rfl⟩ := DataW.trod_bool hu h
      exact ⟨b, rfl, hB.lit _⟩
     case string =>
      cases u <;> simp only at ht <;> try (cases ht; done)
      obtain ⟨s, rfl, rfl, hs⟩ := DataW.trod_string hu h
      exact ⟨s, ⟨rfl, hs⟩, by have := hB.str s.data.toList; simpa [sz] using this⟩
     case int k =>
      cases u <;> simp only at ht <;> try (cases ht; done)
      simp only [decide_eq_true_eq] at ht
      subst ht
      obtain ⟨n, rfl, rfl, hs⟩ := DataW.trod_int hu h
      refine ⟨n, ⟨rfl, ?_⟩, hB.lit _⟩
      simpa [Lit.wf, InR] using hs
     case slice e =>
      cases u <;> simp only at ht <;> try (cases ht; done)
      rename_i v
      have hcell : P.cellsOf e = v.n ∧ 0 < v.n := by
       cases d with
       | zero => cases ht
       | succ d => simp only [tyB, Bool.and_eq_true, decide_eq_true_eq] at ht; exact ht.1
      rcases DataW.trod_slice hu h with ⟨rfl, rfl⟩ | ⟨a, len, cap, elems, rest, n, e1, rfl, rfl, _, hlc, hcm, hel, helem, hsp, _⟩
      · exact ⟨[], ⟨none, 0, 0, rfl, rfl, Nat.le_refl _, by simp [maxLen], .inl rfl⟩, by simpa [sz] using hB.nil⟩
      · cases e1
        obtain ⟨hrl, hrest⟩ := hsp rfl
        have hspot : 0 < cap → a.spot = none := by
         intro hc
         have key : ∀ i y, (w.cells? 0 (a.add (i * P.cellsOf e)) (P.cellsOf e)).bind (DataW.trod enc P w 0 (fun _ => true) true fuel e) = some y → i = 0 → a.spot = none := by
          rintro i y hy rfl
          rw [Nat.zero_mul] at hy
          cases hcs : w.cells? 0 (a.add 0) (P.cellsOf e) with
          | none => rw [hcs] at hy; cases hy
          | some c0 =>
            obtain ⟨g1, g2⟩ := cells?_spec hcs
            have hp : 0 < c0.length := by omega
            have g3 := g2 0 c0[0] (by simp [hp])
            simp only [Addr.add, if_true] at g3
            unfold World.cell? at g3
            split at g3
            · split at g3
              · cases g3
              · rename_i hs; simpa using hs
            · cases g3
         by_cases hl : 0 < len
         · have := helem 0 hl
           rw [List.getElem?_eq_getElem (by omega)] at this
           exact key 0 _ this rfl
         · have := hrest 0 (by omega)
           rw [List.getElem?_eq_getElem (by omega)] at this
           exact key _ _ this (by omega)
        -- the elements
        have hex : ∀ i, i < len → ∃ c, w.cells? 0 (a.add (i * P.cellsOf e)) (P.cellsOf e) = some c := fun i hi => by
         have := helem i hi
         rw [List.getElem?_eq_getElem (by omega)] at this
         cases hc : w.cells? 0 (a.add (i * P.cellsOf e)) (P.cellsOf e) with
         | none => rw [hc] at this; cases this
         | some c => exact ⟨c, rfl⟩
        obtain ⟨css, hcl, hcs⟩ := pick_rows _ len hex
        have hrow : ∀ (i : Nat) (c : List Value), css[i]? = some c → ∃ y : v.den, ro w (fun _ => False) v y c ∧ ∃ q, elems[i]? = some q ∧ sz v y ≤ B q.1 := by
         intro i c hc
         have hi : i < len := by have := (List.getElem?_eq_some_iff.1 hc).1; omega
         have h1 := helem i hi
         rw [hcs i hi, hc] at h1
         simp only [Option.bind_some] at h1
         rw [List.getElem?_eq_getElem (by omega)] at h1
         obtain ⟨y, g1, g2⟩ := trod_ro hB fuel d e v c _ ht h1
         exact ⟨y, g1, _, List.getElem?_eq_getElem (by omega), g2⟩
        obtain ⟨ys, hyl, hyat⟩ := pickQ (Q := fun i (y : v.den) => ∀ c, css[i]? = some c → ro w (fun _ => False) v y c ∧ ∃ q, elems[i]? = some q ∧ sz v y ≤ B q.1) len (fun i hi => by
         obtain ⟨y, g⟩ := hrow i css[i] (List.getElem?_eq_getElem (by omega))
         exact ⟨y, fun c hc => by
          have : css[i] = c := by rw [List.getElem?_eq_getElem (by omega)] at hc; exact Option.some.inj hc
          rw [← this]; exact g⟩)
        have hro : roAll (ro w (fun _ => False) v) ys css.flatten := roAll_mk ys css (by omega) (fun i y c hy hc => (hyat i y hy c hc).1)
        refine ⟨ys, ⟨some a, len, cap, rfl, hyl.symm, hlc, hcm, ?_⟩, ?_⟩
        · by_cases hc0 : cap = 0
          · exact .inl hc0
          · have hs := hspot (by omega)
            refine .inr ⟨a.block, a.off, css.flatten, by obtain ⟨b, o, s⟩ := a; simp only at hs; subst hs; rfl, hro, fun j q hq => ⟨fun h => h, ?_⟩⟩
            obtain ⟨i, r, c, g1, g2, g3⟩ := flatten_at (n := v.n) css (fun c hc => by
             obtain ⟨i, hi, rfl⟩ := List.mem_iff_getElem.1 hc
             have := hcs i (by omega)
             rw [List.getElem?_eq_getElem hi] at this
             rw [(cells?_spec this).1]; exact hcell.1) j q hq
            have hi : i < len := by have := (List.getElem?_eq_some_iff.1 g1).1; omega
            have := hcs i hi
            rw [g1] at this
            have := (cells?_spec this).2 r q g2
            rw [add_add _ _ _ hs] at this
            obtain ⟨b, o, s⟩ := a
            simp only at hs; subst hs
            rw [add_none] at this
            rw [g3, ← hcell.1]
            exact this
        · have := sum_le hB ys (elems.map (·.1)) (by simp; omega) (fun i y q hy hq => by
           have hi : i < len := by have := (List.getElem?_eq_some_iff.1 hy).1; omega
           obtain ⟨_, z, g1, g2⟩ := hyat i y hy css[i] (List.getElem?_eq_getElem (by omega))
           rw [List.getElem?_map, g1] at hq
           simp at hq; subst hq; exact g2)
          have h2 := hB.sl (elems.map (·.1)) (rest.map (·.1))
          simp only [sz]
          omega
     case struct fs =>
      obtain ⟨xs, n, e1, rfl, hcl, hxl, hf⟩ := DataW.trod_struct hu h
      cases e1
      -- field by field
      have key : ∀ (fl : List Field) (off : Nat) (u : Ty) (i : Nat), tyB.tyFs (tyB P d) fl off u = true → (∀ (j : Nat) (f : Field), fl[j]? = some f → fs[i + j]? = some f) → i + fl.length = fs.size → off + u.n ≤ cs.length →
       ∃ y : u.den, ro w (fun _ => False) u y ((cs.drop off).take u.n) ∧ sz u y ≤ BA ((xs.drop i).map (·.1)) := by
       intro fl
       induction fl with
       | nil => intro off u i h _ _ _; cases h
       | cons f fl ih =>
         intro off u i hfl hat hlen hoff
         have h0 := hat 0 f rfl
         have hf0 := hf i f (by simpa using h0)
         have hi : i < xs.length := by simp at hlen; omega
         have hdrop : xs.drop i = xs[i] :: xs.drop (i + 1) := List.drop_eq_getElem_cons hi
         have hlast : ∀ u, f.offset = off → tyB P d f.type u = true → ∃ y : u.den, ro w (fun _ => False) u y ((cs.drop off).take u.n) ∧ sz u y ≤ B xs[i].1 := by
          intro u e1 e2
          rw [List.getElem?_eq_getElem hi, e1] at hf0
          have hc : P.cellsOf f.type = u.n := by
           cases d with
           | zero => cases e2
           | succ d => simp only [tyB, Bool.and_eq_true, decide_eq_true_eq] at e2; exact e2.1.1
          rw [hc] at hf0
          exact trod_ro hB fuel d f.type u _ _ e2 hf0
         match fl, hfl with
         | [], hfl =>
           simp only [tyB.tyFs, Bool.and_eq_true, decide_eq_true_eq] at hfl
           obtain ⟨y, g1, g2⟩ := hlast u hfl.1 hfl.2
           refine ⟨y, g1, ?_⟩
           rw [hdrop, List.map_cons, hB.cons]; omega
         | f2 :: fl, hfl =>
           cases u <;> simp only [tyB.tyFs] at hfl <;> try (cases hfl; done)
           rename_i a b _
           simp only [Bool.and_eq_true, decide_eq_true_eq] at hfl
           obtain ⟨y, g1, g2⟩ := hlast a hfl.1.1 hfl.1.2
           simp only [Ty.n] at hoff
           obtain ⟨z, k1, k2⟩ := ih (off + a.n) b (i + 1) hfl.2 (fun j g hg => by have := hat (j + 1) g (by simpa using hg); rwa [show i + (j + 1) = i + 1 + j by omega] at this) (by simp at hlen ⊢; omega) (by omega)
           refine ⟨(y, z), ⟨_, _, ?_, g1, k1⟩, ?_⟩
           · simp only [Ty.n]
             rw [← List.drop_drop, ← List.take_add]
           · rw [hdrop, List.map_cons, hB.cons]
             simp only [sz]; omega
      obtain ⟨y, g1, g2⟩ := key fs.toList 0 u 0 ht (fun j f hj => by simpa using hj) (by simp) (by omega)
      refine ⟨y, ?_, ?_⟩
      · rw [List.drop_zero, List.take_of_length_le (by omega)] at g1; exact g1
      · rw [List.drop_zero] at g2
        exact Nat.le_trans g2 (hB.agg _)

end
end Go.Ev

/- A law: its contract gives its row. -/
set_option linter.unusedSimpArgs false
set_option linter.unusedVariables false
namespace Go.Ev
open Go.RowKit Go.WideShapes Go.ChangeShapes

def lawPs (tys : List (Bool × Ty)) : List PK := tys.map fun p => .d p.1 p.2

/-- A law's contract: true. -/
def lawCon (tys : List (Bool × Ty)) (pre : dens (lawPs tys) → Prop) : Con := ⟨lawPs tys, [.d false .bool], pre, fun _ => (true, ()), id⟩

def szs : (tys : List (Bool × Ty)) → dens (lawPs tys) → Nat
 | [], _ => 0
 | p :: tys, x => sz p.2 x.1 + szs tys x.2

def tyBs (P : Program) : List TypeId → List (Bool × Ty) → Bool
 | [], [] => true
 | t :: ts, p :: tys => tyB P 20 t p.2 && (isAggB P t == p.1) && tyBs P ts tys
 | _, _ => false

theorem impl_expl (m : Mem) : ∀ (t : Ty) (y : t.den), impl m t (expl t y) = some y
 | .int k, n => by simp [impl, expl, implI]
 | .bool, b => rfl
 | .str, s => rfl
 | .unit, _ => rfl
 | .sl t, xs => by simp [impl, expl, implL, view, castTy_self]
 | .pair a b, p => by
   simp only [impl, expl]
   rw [List.take_append_of_le_length (by rw [expl_len]; omega), List.take_of_length_le (by rw [expl_len]; omega), List.drop_append_of_le_length (by rw [expl_len]; omega), List.drop_of_length_le (by rw [expl_len]; omega), List.nil_append]
   rw [impl_expl m a, impl_expl m b]
   rfl

section
variable {H : Type} {enc : TypeId × Value → H} {P : Program} {W : World} {B : DataW H → Nat} {BA : List (DataW H) → Nat}

theorem tyB_und {d : Nat} {t : TypeId} {u : Ty} (h : tyB P d t u = true) : ∃ de, P.underlying t = some de ∧ (match de with | .struct _ | .int _ | .bool | .string | .slice _ => True | _ => False) := by
 cases d with
 | zero => cases h
 | succ d =>
   simp only [tyB, Bool.and_eq_true] at h
   have h2 := h.2
   cases hu : P.underlying t with
   | none => rw [hu] at h2; cases h2
   | some de =>
     rw [hu] at h2
     refine ⟨de, rfl, ?_⟩
     cases de <;> first | trivial | (cases h2; done)

theorem val_rep (hB : Bulk B BA) {t : TypeId} {ag : Bool} {u : Ty} {v : Value} {d : DataW H} {ps : List MemPlace} {base : Nat} (hty : tyB P 20 t u = true) (hag : isAggB P t = ag) (hv : Value.okWide P W .any base t v)
 (h : DataW.Trod enc P W 0 (fun _ => true) true t v d ps) : ∃ y : u.den, repA ⟨W, fun _ => False, fun _ => .int .i64 0, fun _ => True⟩ (avOf ag (expl u y)) v ∧ sz u y ≤ B d ∧ Wf u y ∧ (ag = false → (expl u y).length = 1) := by
 obtain ⟨fuel, h⟩ := h
 obtain ⟨y, h1, h2⟩ := trod_ro hB fuel 20 t u _ _ hty h
 have h3 := expl_rep (x := ⟨W, fun _ => False, fun _ => .int .i64 0, fun _ => True⟩) u y _ h1
 have hl := repCs_len _ _ h3
 have hwf := ro_wf u y _ h1
 cases ag with
 | true =>
   refine ⟨y, ?_, h2, hwf, fun e => by cases e⟩
   have : ∃ cs, v = .agg cs := by
    unfold Value.okWide at hv
    unfold isAggB at hag
    cases hu : P.underlying t with
    | none => rw [hu] at hag; cases hag
    | some de =>
      rw [hu] at hv hag
      cases de <;> simp [aggB] at hag <;> (obtain ⟨cs, e, _⟩ := hv; exact ⟨cs, e⟩)
   obtain ⟨cs, rfl⟩ := this
   unfold avOf repA
   simp only [if_true]
   exact ⟨cs.toList, by simp, h3⟩
 | false =>
   have : v.cells.toList = [v] := by
    unfold Value.okWide at hv
    unfold isAggB at hag
    obtain ⟨de, hu, hde⟩ := tyB_und hty
    · rw [hu] at hv hag
      cases de <;> simp [aggB] at hag <;> simp only at hv hde <;> first
       | exact hde.elim
       | (unfold Cell.okWide Cell.ok at hv; rw [hu] at hv; cases v <;> first | rfl | exact False.elim hv)
   rw [this] at h3 hl
   refine ⟨y, ?_, h2, hwf, fun _ => by simpa using hl.symm⟩
   match hx : expl u y, hl with
   | [c], _ =>
     rw [hx] at h3
     obtain ⟨v', r, e, g1, _⟩ := repCs_cons.1 h3
     cases e
     unfold avOf repA
     simp only [Bool.false_eq_true, if_false]
     exact g1

/-- The arguments. -/
theorem args_rep (hB : Bulk B BA) : ∀ (ts : List TypeId) (tys : List (Bool × Ty)) (vs : List Value) (ds : List (DataW H)) (ps : List MemPlace) (base : Nat), tyBs P ts tys = true → DataW.TrodAll enc P W 0 (fun _ => true) true ts vs ds ps →
 (∀ (j : Nat) (t : TypeId) (v : Value), ts[j]? = some t → vs[j]? = some v → Value.okWide P W .any base t v) → ∃ (x : dens (lawPs tys)) (avs : List AV), repAs ⟨W, fun _ => False, fun _ => .int .i64 0, fun _ => True⟩ avs vs ∧ rds (fun _ => .dead) (lawPs tys) avs = some x ∧ pids (fun _ => Blk.dead) (lawPs tys) avs = [] ∧ szs tys x ≤ BA ds ∧ pwf (lawPs tys) x
 | [], [], vs, ds, ps, base, _, h, _ => by
   obtain ⟨rfl, rfl, rfl⟩ := trodAll_nil h
   exact ⟨(), [], by unfold repAs; rfl, rfl, rfl, Nat.zero_le _, trivial⟩
 | [], _ :: _, _, _, _, _, h, _, _ => by cases h
 | _ :: _, [], _, _, _, _, h, _, _ => by cases h
 | t :: ts, (ag, u) :: tys, vs, ds, ps, base, hty, h, hv => by
   obtain ⟨v, vs, d, ds, p, q, rfl, rfl, rfl, h1, h2⟩ := trodAll_cons h
   simp only [tyBs, Bool.and_eq_true, beq_iff_eq] at hty
   obtain ⟨y, g1, g2, g3, g4⟩ := val_rep hB hty.1.1 hty.1.2 (hv 0 t v rfl rfl) h1
   obtain ⟨x, avs, k1, k2, k3, k4, k5⟩ := args_rep hB ts tys vs ds q base hty.2 h2 (fun j t v ht hj => hv (j + 1) t v (by simpa using ht) (by simpa using hj))
   refine ⟨(y, x), avOf ag (expl u y) :: avs, by unfold repAs; exact ⟨v, vs, rfl, g1, k1⟩, ?_, ?_, ?_, ⟨g3, k5⟩⟩
   · have : rd (fun _ => Blk.dead) (.d ag u) (avOf ag (expl u y)) = some y := by
      cases ag with
      | true => simp only [avOf, if_true, rd]; exact impl_expl _ u y
      | false =>
        have := g4 rfl
        match hx : expl u y, this with
        | [c], _ =>
          simp only [avOf, Bool.false_eq_true, if_false, rd]
          rw [← hx]; exact impl_expl _ u y
     show implP (rd _ (.d ag u) _) (rds _ (lawPs tys) avs) = _
     rw [this, k2]; rfl
   · show pid (fun _ => Blk.dead) (.d ag u) (avOf ag (expl u y)) ++ pids _ (lawPs tys) avs = []
     have : pid (fun _ => Blk.dead) (.d ag u) (avOf ag (expl u y)) = [] := by
      cases avOf ag (expl u y) with
      | one c => cases c <;> rfl
      | _ => rfl
     rw [this]; exact k3
   · rw [hB.cons]
     simp only [szs]
     omega

theorem law_calls (hB : Bulk B BA) {f : FuncId} {tys : List (Bool × Ty)} {pre : dens (lawPs tys) → Prop} (hC : CtrOk P f (lawCon tys pre).ctr) {ts : List TypeId} (hty : tyBs P ts tys = true) {args : Array Value} {ds : List (DataW H)} {ps : List MemPlace} {base : Nat}
 (hA : DataW.TrodAll enc P W 0 (fun _ => true) true ts args.toList ds ps) (hv : ∀ (j : Nat) (t : TypeId) (v : Value), ts[j]? = some t → args.toList[j]? = some v → Value.okWide P W .any base t v)
 (hpre : ∀ x, szs tys x ≤ BA ds → pwf (lawPs tys) x → pre x) : Calls P f args W fun e W' => e = .returned (.bool true) ∧ Below W.heap.size W W' := by
 obtain ⟨x, avs, h1, h2, h3, h4, h5⟩ := args_rep hB ts tys _ ds ps base hty hA hv
 let cx : Cx := ⟨W, fun _ => False, fun _ => False, 0, fun _ => .int .i64 0, [], fun _ => none, False, []⟩
 have hM : RepM cx (fun _ => .int .i64 0) (fun _ => True) (fun _ => .dead) W :=
  ⟨fun _ => trivial, fun _ _ => rfl, fun _ _ _ h => (by cases h), fun _ _ h => (by cases h), fun _ _ h => (by cases h), ⟨rfl, rfl, rfl, fun _ => Nat.le_refl _, Nat.le_refl _, fun _ _ _ => rfl⟩, fun _ h => h.elim, fun _ => rfl, fun _ h => absurd h (Nat.not_lt_zero _), (fun _ h => by cases h), fun _ _ h => by cases h⟩
 have hr : repAs (rx cx (fun _ => .int .i64 0) (fun _ => True) (fun _ => .dead) W) avs args.toList := by
  refine repAs_keep (x := ⟨W, fun _ => False, fun _ => .int .i64 0, fun _ => True⟩) (y := rx cx (fun _ => .int .i64 0) (fun _ => True) (fun _ => .dead) W) ⟨.ex fun b _ _ => ⟨?_, rfl⟩, fun _ _ => rfl, fun _ h => h⟩ avs _ h1
  rintro (h | ⟨id, h, _⟩)
  · exact h
  · cases h
 have hp := hpre x h4 h5
 have hE : (lawCon tys pre).ctr avs (fun _ => .dead) 0 = (lawCon tys pre).eff avs (fun _ => .dead) 0 x := by
  show (lawCon tys pre).effO avs (fun _ => .dead) 0 (rds (fun _ => .dead) (lawPs tys) avs) = _
  rw [h2]
  show (if okIds (pids _ (lawPs tys) avs) (rws _ (lawPs tys) avs) then _ else _) = _
  rw [h3, if_pos ⟨List.nodup_nil, rfl⟩]
 have := hC False [] False.elim cx ⟨rfl, rfl⟩ (fun _ => .int .i64 0) (fun _ => True) (fun _ => .dead) W 0 avs args.toList hM (fun _ _ _ => trivial) hr (by rw [hE]; exact hp)
 rw [Array.toArray_toList] at this
 refine this.mono fun e W' he => ?_
 obtain ⟨v, rfl, σ', g1, g2, g3, _⟩ := he
 rw [hE] at g3
 have hb : v = .bool true := of_bool g3
 subst hb
 exact ⟨rfl, g1.evo.os, g1.evo.tape, g1.evo.output, g1.evo.size, fun k hk => g1.evo.block k hk (fun h => h)⟩

theorem trodAll_stays (hl : laidOutB P = true) {W' : World} {sp : Nat → Bool} : ∀ (ts : List TypeId) (vs : List Value) (ds : List (DataW H)) (ps : List MemPlace), (ts.all fun t => P.readableRec t && decide (t < P.types.size)) = true → DataW.TrodAll enc P W 0 (fun _ => true) true ts vs ds ps →
 (∀ p ∈ ps, W.sameAt W' p) → (∀ p ∈ ps, sp p.block = true) → DataW.TrodAll enc P W' 0 sp true ts vs ds ps
 | [], vs, ds, ps, _, h, _, _ => by obtain ⟨rfl, rfl, rfl⟩ := trodAll_nil h; exact trodAll_mk0
 | t :: ts, vs, ds, ps, hr, h, hs, hsp => by
   obtain ⟨v, vs, d, ds, p, q, rfl, rfl, rfl, h1, h2⟩ := trodAll_cons h
   simp only [List.all_cons, Bool.and_eq_true, decide_eq_true_eq] at hr
   exact ⟨p, q, WideElems.Trod_stays hl hr.1.1 hr.1.2 h1 (fun x hx => hs x (by simp [hx])) (fun x hx => hsp x (by simp [hx])),
    trodAll_stays hl ts vs ds q hr.2 h2 (fun x hx => hs x (by simp [hx])) (fun x hx => hsp x (by simp [hx])), rfl⟩

/-- THE ROW's POST: true; what was there is as it was. -/
theorem law_post {f : Func} {s : ChangeSpec} {apart fresh handsOn again : Bool} {W' : World} {args : Array Value} {ds gs : List (DataW H)} {before : List MemPlace} (hl : laidOutB P = true) (hr : (f.params.toList.all fun t => P.readableRec t && decide (t < P.types.size)) = true)
 {tb : TypeId} (hres : f.resultTypes = #[tb]) (htb : P.underlying tb = some .bool) (hvars : s.vars = []) (hsf : (s.fn H (ds ++ gs)).results = [.lit (.bool true)] ∧ (s.fn H (ds ++ gs)).args = ds ∧ (s.fn H (ds ++ gs)).vars = [])
 (hW : DataW.Whole enc P f.params.toList s.vars apart W args.toList ds gs before) (hb : Below W.heap.size W W') : s.post enc P f apart fresh handsOn again W args (.bool true) W' := by
 have hlt : ∀ p ∈ before, p.block < W.heap.size := fun p hp => hW.lt p hp
 obtain ⟨pa, pv, hA, hV, hps, hz, hn⟩ := hW
 rw [hvars] at hV
 obtain ⟨rfl, rfl⟩ := trodVars_none hV
 have hbe : before = pa := by rw [hps, List.append_nil]
 subst hbe
 have hargs : ∀ sp : Nat → Bool, (∀ p ∈ before, sp p.block = true) → DataW.TrodAll enc P W' 0 sp true f.params.toList args.toList ds before := fun sp hsp =>
  trodAll_stays hl _ _ _ _ hr hA (fun p hp => hb.same (hlt p hp)) hsp
 have hbool : ∀ (b : Nat) (sp : Nat → Bool) (hd : Bool), DataW.TrodAll enc P W' b sp hd f.resultTypes.toList ((Value.bool true).resultList f.resultTypes.size) (s.fn H (ds ++ [])).results [] := fun b sp hd => by
  rw [hsf.1, hres]; exact trodAll_cons_mk (shut_bool htb true) trodAll_mk0
 refine ⟨ds, [], before, [], before, [], ⟨before, [], hA, by rw [hvars]; rfl, by simp, hz, hn⟩, hbool _ _ _, ?_, ?_, ?_, fun _ => ?_⟩
 · rw [hsf.2.1]; exact hargs _ (fun p hp => by simpa using hlt p hp)
 · rw [hvars, hsf.2.2]; rfl
 · exact World.keptBut_mono (fun p hp => ⟨hp, .inr (by simpa using hp)⟩) (hb.frame (· ∈ before))
 · refine ⟨ok_one hres rfl (okWide_bool_mk htb true), _, [], [] ++ before, ⟨[] ++ before, [], trodAll_append (hargs _ (fun _ _ => rfl)) (hbool _ _ _), by rw [hvars]; rfl, by simp, fun b off hp => ?_, fun ha => by simpa using hn ha⟩, fun p hp _ => by simpa using hp⟩
   have hp' : MemPlace.cell b off ∈ before := by simpa using hp
   rw [hb.frozen (hlt _ hp')]
   exact hz b off hp'

end
end Go.Ev

/- The bulk of the second form's premise fits our reading of data; the program's frame. -/
namespace Go.Proofs.Ytfaoonbnbdlgaaa
open Go.Ev Go.ChangeShapes Go.WideShapes Go.ChangeAt Go.RowKit

theorem bulk_ok (H : Type) : Bulk (H := H) Rows.uptoBulk Rows.uptoBulkAll where
 lit l := by cases l <;> simp [Rows.uptoBulk]
 str b := by simp [Rows.uptoBulk]
 nil := by simp [Rows.uptoBulk]
 sl a b := by simp only [Rows.uptoBulk]; omega
 agg a := by simp only [Rows.uptoBulk]; omega
 cons d r := by simp only [Rows.uptoBulkAll]

theorem own : ownKnob Try.prog.godebug = none := by kernel_rfl
theorem laid : laidOutB Try.prog = true := by kernel_rfl
end Go.Proofs.Ytfaoonbnbdlgaaa
