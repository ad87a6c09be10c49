/- The plain law: the needs are the active departures; what a repair is. -/
import Derived.Test.YtfaoonbnbdlgaaaRlRB2ToRAw
set_option linter.unusedSimpArgs false
set_option linter.unusedVariables false
set_option maxRecDepth 100000
set_option maxHeartbeats 4000000
namespace Go.Proofs.Ytfaoonbnbdlgaaa
open Go.Ev

theorem insN_map (f : Dep → Ned) (hf : ∀ d, (f d).frm = d.opens) (x : Dep) : ∀ l : List Dep, insN (f x) (l.map f) = (insV x l).map f
 | [] => rfl
 | y :: l => by
   simp only [List.map_cons, insN, insV, hf]
   by_cases h : x.opens < y.opens
   · rw [if_pos h, if_pos h]; rfl
   · rw [if_neg h, if_neg h, insN_map f hf x l]; rfl
theorem isortN_map (f : Dep → Ned) (hf : ∀ d, (f d).frm = d.opens) (l : List Dep) : isortN (l.map f) = (isort l).map f := by
 have key : ∀ (l acc : List Dep), (l.map f).foldl (fun acc x => insN x acc) (acc.map f) = (l.foldl (fun acc x => insV x acc) acc).map f := by
  intro l
  induction l with
  | nil => intro acc; rfl
  | cons x l ih =>
    intro acc
    simp only [List.map_cons, List.foldl_cons]
    rw [insN_map f hf, ih]
 exact key l []
/-- A need, as an active departure gives it. -/
def ndA (cs : List Int) (old fx : List All) (d : Dep) : Ned := (d.1, d.opens, d.closes, homeV cs old d.1, (chV fx d.1).2)
theorem need_act (l : List Dep) (cs : List Int) (old fx : List All) (t : Int) : needV l cs old fx t = (actV l t).map (ndA cs old fx) := by
 unfold needV actV
 rw [← isortN_map (ndA cs old fx) (fun d => rfl)]
 unfold rawN rawA
 rw [List.map_map]
 rfl
theorem act_mem {l : List Dep} {t : Int} {d : Dep} (h : d ∈ actV l t) : ∃ d0 ∈ l, closedV d0 t = false ∧ d = opn t d0 := by
 unfold actV at h
 have h := (isort_perm _).mem_iff.1 h
 unfold rawA at h
 obtain ⟨d0, h1, rfl⟩ := List.mem_map.1 h
 obtain ⟨h2, h3⟩ := List.mem_filter.1 h1
 exact ⟨d0, h2, by simpa using h3, rfl⟩
theorem mem_act {l : List Dep} {t : Int} {d : Dep} (h : d ∈ l) (hc : closedV d t = false) : opn t d ∈ actV l t := by
 unfold actV
 refine (isort_perm _).mem_iff.2 ?_
 unfold rawA
 exact List.mem_map_of_mem (List.mem_filter.2 ⟨h, by rw [hc]; rfl⟩)
theorem opn_opens (t : Int) (d : Dep) : (opn t d).opens = max d.opens t := by
 show (if t > d.2.2.1 then t else d.2.2.1) = max d.2.2.1 t
 split <;> omega
theorem act_time {l : List Dep} {t : Int} (hv : ∀ d ∈ l, validV d = true) {d : Dep} (h : d ∈ actV l t) : 0 ≤ d.opens ∧ d.opens < d.closes ∧ t ≤ d.opens ∧ t < d.closes ∧ d.state = 0 ∧ d.closes ≤ 1048576 := by
 obtain ⟨d0, h1, h2, rfl⟩ := act_mem h
 have h3 := validV_times (hv d0 h1)
 have h4 := closed_not h2
 have h5 := opn_opens t d0
 have h6 : (opn t d0).closes = d0.closes := rfl
 have h7 : (opn t d0).state = d0.state := rfl
 omega
theorem act_flts {l : List Dep} {t : Int} (hn : (l.map (fun d => d.1)).Nodup) : ((actV l t).map (fun d => d.1)).Nodup := by
 unfold actV
 refine ((isort_perm _).map (fun d => d.1)).nodup_iff.2 ?_
 unfold rawA
 rw [List.map_map]
 exact ((List.filter_sublist (l := l)).map (fun d : Dep => d.1)).nodup hn
theorem act_sorted (l : List Dep) (t : Int) : (actV l t).Pairwise (fun a b => a.opens ≤ b.opens) := isort_sorted _
theorem nodup_uniq {α β : Type} {f : α → β} : ∀ {l : List α}, (l.map f).Nodup → ∀ {a b : α}, a ∈ l → b ∈ l → f a = f b → a = b
 | [], _, a, _, ha, _, _ => by cases ha
 | x :: l, h, a, b, ha, hb, e => by
   rw [List.map_cons, List.nodup_cons] at h
   rcases List.mem_cons.1 ha with e1 | ha <;> rcases List.mem_cons.1 hb with e2 | hb
   · rw [e1, e2]
   · exact absurd (show f x ∈ l.map f by rw [← e1, e]; exact List.mem_map_of_mem hb) h.1
   · exact absurd (show f x ∈ l.map f by rw [← e2, ← e]; exact List.mem_map_of_mem ha) h.1
   · exact nodup_uniq h.2 ha hb e
theorem chV_in : ∀ {l : List All} {f : Flt}, (chV l f).2 = true → (f, (chV l f).1) ∈ l
 | [], f, h => by cases h
 | a :: l, f, h => by
   unfold chV at h ⊢
   by_cases e : a.1 = f
   · rw [if_pos e]; subst e; exact List.mem_cons_self
   · rw [if_neg e] at h ⊢; exact List.mem_cons_of_mem _ (chV_in h)
theorem chV_mem : ∀ {l : List All}, (l.map (fun a => a.1)).Nodup → ∀ {a : All}, a ∈ l → chV l a.1 = (a.2, true)
 | [], _, a, ha => by cases ha
 | x :: l, h, a, ha => by
   rw [List.map_cons, List.nodup_cons] at h
   unfold chV
   rcases List.mem_cons.1 ha with rfl | ha
   · rw [if_pos rfl]
   · have : ¬ x.1 = a.1 := fun e => h.1 (e ▸ List.mem_map_of_mem ha)
     rw [if_neg this]
     exact chV_mem h.2 ha
theorem fix_keys {l : List Dep} {cs : List Int} {old : List All} {t : Int} (hn : (l.map (fun d => d.1)).Nodup) : ((fixV l cs old t).map (fun a => a.1)).Nodup := by
 unfold fixV
 rw [List.map_map]
 exact ((List.filter_sublist (l := l)).map (fun d : Dep => d.1)).nodup hn
theorem fix_mem {l : List Dep} {cs : List Int} {old : List All} {t : Int} {a : All} (h : a ∈ fixV l cs old t) : ∃ d ∈ l, fixB cs old t d = true ∧ a = (d.1, (chV old d.1).1) := by
 unfold fixV at h
 obtain ⟨d, h1, rfl⟩ := List.mem_map.1 h
 obtain ⟨h2, h3⟩ := List.mem_filter.1 h1
 exact ⟨d, h2, h3, rfl⟩
theorem mem_fix {l : List Dep} {cs : List Int} {old : List All} {t : Int} {d : Dep} (h : d ∈ l) (hb : fixB cs old t d = true) : (d.1, (chV old d.1).1) ∈ fixV l cs old t := by
 unfold fixV
 exact List.mem_map_of_mem (f := fun d : Dep => (d.1, (chV old d.1).1)) (List.mem_filter.2 ⟨h, hb⟩)
/-- What a departure that is fixed says. -/
theorem fix_home {l : List Dep} {cs : List Int} {old : List All} {t : Int} {f : Flt} (h : (chV (fixV l cs old t) f).2 = true) :
 ∃ d ∈ l, d.1 = f ∧ isOpenV d t = true ∧ (f, (chV old f).1) ∈ fixV l cs old t ∧ ∃ k : Nat, k < cs.length ∧ homeV cs old f = k ∧ ∀ z, cs.getD k z = (chV old f).1 := by
 have h1 := chV_in h
 obtain ⟨d, hd, hb, e⟩ := fix_mem h1
 have e1 : d.1 = f := (congrArg Prod.fst e).symm
 subst e1
 have hm := mem_fix hd hb
 unfold fixB at hb
 simp only [Bool.and_eq_true] at hb
 obtain ⟨⟨b1, b2⟩, b3⟩ := hb
 refine ⟨d, hd, rfl, b2, hm, ?_⟩
 rcases home_spec cs old d.1 with ⟨_, g2⟩ | ⟨k, g1, g2, _, _, g5⟩
 · rw [b1, b3] at g2; cases g2
 · exact ⟨k, g1, g2, g5⟩
/-- The needs, for the plain search. -/
def ndsV (l : List Dep) (cs : List Int) (old : List All) (t : Int) : List RlM.Nd := (actV l t).map (fun d => toNd (ndA cs old (fixV l cs old t) d))
theorem nds_eq (l : List Dep) (cs : List Int) (old : List All) (t : Int) : (needV l cs old (fixV l cs old t) t).map toNd = ndsV l cs old t := by
 rw [need_act, List.map_map]; rfl
theorem nds_asc {l : List Dep} {cs : List Int} {old : List All} {t : Int} (hv : ∀ d ∈ l, validV d = true) : RlM.Asc (ndsV l cs old t) := by
 unfold ndsV
 refine ⟨fun d hd => ?_, ?_⟩
 · obtain ⟨d0, h1, rfl⟩ := List.mem_map.1 hd
   exact (act_time hv h1).1
 · rw [List.pairwise_map]
   exact act_sorted l t
theorem nds_pos {l : List Dep} {cs : List Int} {old : List All} {t : Int} (hv : ∀ d ∈ l, validV d = true) : ∀ d ∈ ndsV l cs old t, d.frm < d.to := by
 intro d hd
 obtain ⟨d0, h1, rfl⟩ := List.mem_map.1 hd
 exact (act_time hv h1).2.1
theorem nds_fix {l : List Dep} {cs : List Int} {old : List All} {t : Int} (hv : ∀ d ∈ l, validV d = true) (hn : (l.map (fun d => d.1)).Nodup) :
 ∀ d ∈ ndsV l cs old t, d.fixed = true → 0 ≤ d.home ∧ d.home < (cs.length : Nat) ∧ ∀ e ∈ ndsV l cs old t, d.frm ≤ e.frm := by
 intro d hd hf
 obtain ⟨d1, h1, rfl⟩ := List.mem_map.1 hd
 obtain ⟨d2, h2, e2, h3, _, k, h4, h5, _⟩ := fix_home (show (chV (fixV l cs old t) d1.1).2 = true from hf)
 have hh : (toNd (ndA cs old (fixV l cs old t) d1)).home = (k : Int) := h5
 refine ⟨by omega, by omega, fun e he => ?_⟩
 obtain ⟨e1, h6, rfl⟩ := List.mem_map.1 he
 obtain ⟨d0, h7, h8, rfl⟩ := act_mem h1
 have : d2 = d0 := nodup_uniq (f := fun d : Dep => d.1) hn h2 h7 e2
 subst this
 have h9 := (act_time hv h6).2.2.1
 have h10 := opn_opens t d2
 have h11 := (isOpenV_iff d2 t).1 h3
 show (opn t d2).opens ≤ e1.opens
 omega
theorem nds_apart {l : List Dep} {cs : List Int} {old : List All} {t : Int} (hn : (l.map (fun d => d.1)).Nodup) (hx : ((fixV l cs old t).map (fun a => a.2)).Nodup) :
 (ndsV l cs old t).Pairwise (fun a b => a.fixed = true → b.fixed = true → a.home ≠ b.home) := by
 unfold ndsV
 rw [List.pairwise_map]
 have h := act_flts (l := l) (t := t) hn
 rw [List.Nodup, List.pairwise_map] at h
 refine h.imp ?_
 intro a b hab ha hb e
 obtain ⟨_, _, _, _, m1, k1, c1, c2, c3⟩ := fix_home (show (chV (fixV l cs old t) a.1).2 = true from ha)
 obtain ⟨_, _, _, _, m2, k2, c4, c5, c6⟩ := fix_home (show (chV (fixV l cs old t) b.1).2 = true from hb)
 have e1 : homeV cs old a.1 = homeV cs old b.1 := e
 have e2 : k1 = k2 := by omega
 subst e2
 have e3 : (chV old a.1).1 = (chV old b.1).1 := (c3 0).symm.trans (c6 0)
 have := nodup_uniq (f := fun a : All => a.2) hx m1 m2 e3
 exact hab (Prod.mk.inj this).1
theorem ls_eq (l : List Dep) (cs : List Int) (old : List All) (t : Int) (n : Nat) : lsV (needV l cs old (fixV l cs old t) t) n st0 = RlM.least n (ndsV l cs old t) (List.replicate 6 0) := by
 unfold lsV
 rw [← nds_eq]; rfl
theorem nds_len (l : List Dep) (cs : List Int) (old : List All) (t : Int) : (ndsV l cs old t).length = actN l t := by
 unfold ndsV; rw [List.length_map, actV_len]
theorem opn_cnt {l : List Dep} {cs : List Int} {old : List All} {t : Int} (hv : ∀ d ∈ l, validV d = true) (x : Int) : (ndsV l cs old t).countP (RlM.opn x) = cnt (actV l t) x := by
 unfold ndsV cnt
 rw [List.countP_map]
 refine List.countP_congr fun d hd => ?_
 have h := (act_time hv hd).2.2.2.2.1
 show (decide (d.opens ≤ x) && decide (x < d.closes)) = true ↔ isOpenV d x = true
 unfold isOpenV
 rw [decide_eq_true h, Bool.true_and]
/-- There is a repair exactly if at no time too many are open. -/
theorem ls_iff {l : List Dep} {cs : List Int} {old : List All} {t : Int} (hv : ∀ d ∈ l, validV d = true) (hn : (l.map (fun d => d.1)).Nodup) (hx : ((fixV l cs old t).map (fun a => a.2)).Nodup)
 (ha : actN l t ≤ 16) (hc : cs.length ≤ 6) : lsV (needV l cs old (fixV l cs old t) t) cs.length st0 < 17 ↔ ∀ x, cnt (actV l t) x ≤ cs.length := by
 rw [ls_eq]
 have h1 := RlM.least_iff (n := cs.length) (ds := ndsV l cs old t) (fr := List.replicate 6 0) (by rw [nds_len]; show (_ : Int) < 17; omega)
 rw [show (RlM.nn : Int) = 17 from rfl] at h1
 rw [h1]
 constructor
 · rintro ⟨p, hp⟩ x
   rw [← opn_cnt (cs := cs) (old := old) hv]
   exact RlM.exists_only ((RlM.path0 (nds_asc hv) hc).1 hp) x
 · intro h
   exact RlM.exists_of (nds_asc hv) (nds_pos hv) hc (nds_fix hv hn) (nds_apart hn hx) (fun x => by rw [opn_cnt hv]; exact h x)
theorem argR_all {l : List Dep} {cs : List Int} {t : Int} (h : argR l cs t = 0) : (∀ d ∈ l, validV d = true) ∧ (l.map (fun d => d.1)).Nodup ∧ actN l t ≤ 16 ∧ cs.length ≤ 6 ∧ cs.all (fun c => decide (0 ≤ c)) = true ∧ ascI cs = true := by
 unfold argR at h
 by_cases h1 : validateV l = 0
 · rw [if_neg (by omega)] at h
   by_cases h2 : (actN l t : Int) > 16 ∨ (cs.length : Int) > 6
   · rw [if_pos h2] at h; omega
   · rw [if_neg h2] at h
     by_cases h3 : cs.all (fun c => decide (0 ≤ c)) = false
     · rw [if_pos h3] at h; omega
     · rw [if_neg h3] at h
       by_cases h4 : ascI cs = false
       · rw [if_pos h4] at h; omega
       · have h5 := valid_ok h1
         exact ⟨h5.2.1, nodup_flts h5.2.2, by omega, by omega, by simpa using h3, by simpa using h4⟩
 · rw [if_pos h1] at h; omega
/-- The way that is found. -/
theorem path_ok {l : List Dep} {cs : List Int} {old : List All} {t : Int} (h : lsV (needV l cs old (fixV l cs old t) t) cs.length st0 < 17) :
 RlM.Path cs.length (ndsV l cs old t) (List.replicate 6 0) (pathR (needV l cs old (fixV l cs old t) t) cs.length) ∧
 RlM.cost (ndsV l cs old t) (pathR (needV l cs old (fixV l cs old t) t) cs.length) = lsV (needV l cs old (fixV l cs old t) t) cs.length st0 := by
 have h2 := ls_eq l cs old t cs.length
 have h3 := RlM.first_ok (n := cs.length) (ds := ndsV l cs old t) (fr := List.replicate 6 0) (rest := lsV (needV l cs old (fixV l cs old t) t) cs.length st0) h2.symm h
 have e : pathR (needV l cs old (fixV l cs old t) t) cs.length = RlM.first cs.length (ndsV l cs old t) (List.replicate 6 0) (lsV (needV l cs old (fixV l cs old t) t) cs.length st0) := by
  unfold pathR; rw [nds_eq]; rfl
 rw [e]
 exact ⟨h3.1, h3.2.1⟩
theorem allR_len {ds : List Ned} {cs : List Int} {p : List Nat} (h : p.length = ds.length) : (allR ds cs p).length = ds.length := by
 unfold allR; rw [List.length_map, List.length_zip]; omega
end Go.Proofs.Ytfaoonbnbdlgaaa

/- The law: there is a repair exactly if at no time too many are open. -/
set_option linter.unusedSimpArgs false
set_option linter.unusedVariables false
set_option maxRecDepth 100000
set_option maxHeartbeats 8000000
namespace Go.Proofs.Ytfaoonbnbdlgaaa
open Go.Ev

theorem schedL_pos : ∀ (n : Nat) (s : Src) (k : Int), 0 ≤ s.2 → 0 ≤ (schedL n s k).2.2
 | 0, _, _, h => h
 | n + 1, s, k, h => by
   have h1 := Src.step_pos s h
   unfold schedL
   split
   · split
     · exact h1
     · exact schedL_pos n _ _ (Src.step_pos _ (Src.step_pos _ (Src.step_pos _ (Src.step_pos _ (Src.step_pos _ (Src.step_pos _ h1))))))
   · exact h
theorem schedV_pos (s : Src) (n : Int) (h : 0 ≤ s.2) : 0 ≤ (schedV s n).2.2 := schedL_pos _ _ _ (Src.step_pos s h)
/-- What is valid: the repair, in two cases. -/
theorem rvd_ok {l : List Dep} {cs : List Int} {old : List All} {t : Int} (h : rvdV l cs old t = 0) : argR l cs t = 0 ∧ ((fixV l cs old t).map (fun a => a.2)).Nodup := by
 unfold rvdV at h
 by_cases h1 : argR l cs t = 0
 · rw [if_neg (by omega)] at h
   refine ⟨h1, ?_⟩
   apply Classical.byContradiction
   intro h2
   rw [if_pos h2] at h; omega
 · rw [if_pos h1] at h; exact absurd h h1
theorem rep_of {l : List Dep} {cs : List Int} {old : List All} {t : Int} (h : argR l cs t = 0) (hx : ((fixV l cs old t).map (fun a => a.2)).Nodup) :
 repV l cs old t = if 17 ≤ lsV (needV l cs old (fixV l cs old t) t) cs.length st0 then ([], 11)
  else (sortAl (allR (needV l cs old (fixV l cs old t) t) cs (pathR (needV l cs old (fixV l cs old t) t) cs.length)), 0) := by
 unfold repV
 rw [if_neg (by omega), if_neg (by simp only [Classical.not_not]; exact hx)]
theorem exists_law {l : List Dep} {cs : List Int} {old : List All} {t : Int} (h : rvdV l cs old t = 0) :
 ((peakV (actV l t)).2 > (cs.length : Int) → repV l cs old t = ([], 11)) ∧ (¬ (peakV (actV l t)).2 > (cs.length : Int) → (repV l cs old t).2 = 0 ∧ (repV l cs old t).1.length = (actV l t).length) := by
 obtain ⟨h1, h2⟩ := rvd_ok h
 obtain ⟨a1, a2, a3, a4, _, _⟩ := argR_all h1
 have hi := ls_iff a1 a2 h2 a3 a4
 have hp := pk_facts (actV l t)
 simp only [openV_cnt] at hp
 rw [rep_of h1 h2]
 refine ⟨fun hk => ?_, fun hk => ?_⟩
 · rw [if_pos]
   apply Classical.byContradiction
   intro hl
   have := hi.1 (by omega) (peakV (actV l t)).1
   omega
 · have hl := hi.2 (fun x => by have := hp.2.2.2.1 x; omega)
   rw [if_neg (by omega)]
   refine ⟨rfl, ?_⟩
   rw [(sortAl_perm _).length_eq]
   have hpl := RlM.path_len (path_ok hl).1
   rw [nds_len] at hpl
   rw [allR_len (by rw [hpl, need_act, List.length_map, actV_len]), need_act, List.length_map]
def con4 : Con := { ps := [.d false (.sl (.int .i64))], rs := [.d false .bool], pre := fun _ => True, out := fun _ => (true, ()), nw := id }
theorem c4 : CtrOk Try.prog 4 con4.ctr :=
 con_sound (G := ⟨[(6, con6.ctr), (7, con7.ctr), (8, con8.ctr), (9, con9.ctr), (10, con10.ctr), (12, con12.ctr), (15, con15.ctr), (20, con20.ctr), (11, con11.ctr), (13, con13.ctr)], [], [], [], []⟩) tab_ok (EnvOk.cons c6 has6 (EnvOk.cons c7 has7 (EnvOk.cons c8 has8 (EnvOk.cons c9 has9 (EnvOk.cons c10 has10 (EnvOk.cons c12 has12 (EnvOk.cons c15 has15 (EnvOk.cons c20 has20 (EnvOk.cons c11 has11 (EnvOk.cons c13 has13 EnvOk.nil)))))))))) rfl Try.func4 rfl con4 140737756794621 (by kernel_rfl) (by decide) (by decide) rfl (by decide) rfl (by
  rintro ⟨(l : List Int), _⟩ hpre hwf X hT hG hk hK
  (simp -implicitDefEqProofs (maxSteps := 4000000) only [go_sem, Bool.not_eq_true', Bool.not_eq_false', Bool.or_eq_true, Bool.or_eq_false_iff, Bool.and_eq_true, Bool.and_eq_false_iff, decide_eq_true_eq, decide_eq_false_iff_not, Classical.not_not, not_or, maxLen, con4, con6, con7, con8, con9, con10, con12, con15, con20, con11, con13, hT, hG, hk, hK, Try.results4] at hwf ⊢); (try simp (disch := decide +kernel) only [drawn, true_and, and_true])
  clear hwf
  have s1 := schedV_pos (l.take 2000, 0) 9 (Int.le_refl 0)
  have s2 := schedV_len (l.take 2000, 0) 9 (by decide)
  generalize schedV (l.take 2000, 0) 9 = S at s1 s2 ⊢
  obtain ⟨x, s⟩ := S
  dsimp only at s1 s2 ⊢
  have c1 : 0 ≤ (chsV s 4).2.2 := (chX_ok _ _ _).2.2.2 (Src.step_pos s s1)
  generalize chsV s 4 = C at c1 ⊢
  obtain ⟨c, s⟩ := C
  dsimp only at c1 ⊢
  have o1 := oldL_pos false (refP x [1, 2, 3, 4, 5, 6]).1.1 s c1
  rw [show oldL false (refP x [1, 2, 3, 4, 5, 6]).1.1 s = oldV s x false from rfl] at o1
  generalize oldV s x false = O at o1 ⊢
  obtain ⟨was, s⟩ := O
  dsimp only at o1 ⊢
  generalize goMod s.raw 50 = t
  have h0 := fun h => exists_law (l := x) (cs := c) (old := was) (t := t) h
  have hal := (actV_len x t).symm ▸ actN_le x t
  generalize actV x t = A at h0 hal ⊢
  generalize repV x c was t = R at h0 ⊢
  generalize rvdV x c was t = V at h0 ⊢
  (repeat' (with_reducible (first | refine And.intro ?_ ?_ | intro _))) <;> (try (first | with_reducible (first | done | assumption | omega | contradiction) | decide))
  all_goals
   have hV : V = 0 := by assumption
   have h1 := h0 hV
   by_cases hp : (peakV A).2 > (c.length : Int)
   · have e := h1.1 hp
     first | (rw [e]; done) | (rw [e]; rfl) | omega
   · have e := h1.2 hp
     omega)
end Go.Proofs.Ytfaoonbnbdlgaaa

/- The contract of fits: whether allocations are a repair. -/
set_option linter.unusedSimpArgs false
set_option linter.unusedVariables false
set_option maxRecDepth 100000
set_option maxHeartbeats 8000000
namespace Go.Proofs.Ytfaoonbnbdlgaaa
open Go.Ev

def zD : Dep := ((ByteArray.empty, 0, ByteArray.empty, 0), ByteArray.empty, 0, 0, 0, 0, 0)
/-- Two departures with one chute at one time. -/
def clsh (A : List Dep) (p : List All) (i k : Nat) : Bool :=
 decide ((chV p (A.getD i zD).1).1 = (chV p (A.getD k zD).1).1) && decide ((A.getD k zD).opens < (A.getD i zD).closes) && decide ((A.getD i zD).opens < (A.getD k zD).closes)
def fitI (A : List Dep) (cs : List Int) (p : List All) (i : Nat) : Bool :=
 (chV p (A.getD i zD).1).2 && cs.any (fun y : Int => decide ((chV p (A.getD i zD).1).1 = y)) && (List.range i).all (fun k => !clsh A p i k)
def fitB (l : List Dep) (cs : List Int) (was p : List All) (t : Int) : Bool :=
 decide (p.length = (actV l t).length) && (List.range (actV l t).length).all (fitI (actV l t) cs p) && (fixV l cs was t).all (fun a => decide ((chV p a.1).1 = a.2))
theorem all_range_succ (f : Nat → Bool) (i : Nat) (h : (List.range i).all f = true) (hf : f i = true) : (List.range (i + 1)).all f = true := by
 rw [List.range_succ, List.all_append, h]; simp [hf]
theorem all_range_not {f : Nat → Bool} {n i : Nat} (hi : i < n) (hf : f i = false) : (List.range n).all f = false := by
 rw [List.all_eq_false]
 exact ⟨i, List.mem_range.2 hi, by rw [hf]; simp⟩
def con14 : Con := { ps := [.d false (.sl yDP), .d false (.sl (.int .i64)), .d false (.sl (.pair yFL (.int .i64))), .d false (.sl (.pair yFL (.int .i64))), .d false (.int .i64)], rs := [.d false .bool], pre := fun (x : List Dep × List Int × List All × List All × Int × Unit) => x.1.length ≤ 1000, out := fun (x : List Dep × List Int × List All × List All × Int × Unit) => (fitB x.1 x.2.1 x.2.2.1 x.2.2.2.1 x.2.2.2.2.1, ()), nw := id }
theorem c14 : CtrOk Try.prog 14 con14.ctr :=
 con_sound (G := ⟨[(15, con15.ctr), (19, con19.ctr), (38, con38.ctr), (40, con40.ctr)], [], [], [], []⟩) tab_ok (EnvOk.cons c15 has15 (EnvOk.cons c19 has19 (EnvOk.cons c38 has38 (EnvOk.cons c40 has40 EnvOk.nil)))) rfl Try.func14 rfl con14 332383137210405176294911573023652895 (by kernel_rfl) (by decide) (by decide) rfl (by decide) rfl (by
  rintro ⟨(l : List Dep), (cs : List Int), (was : List All), (p : List All), (t : Int), _⟩ hpre hwf X hT hG hk hK
  have hl : l.length ≤ 1000 := hpre
  (simp -implicitDefEqProofs (maxSteps := 4000000) only [go_sem, Bool.not_eq_true', Bool.not_eq_false', Bool.or_eq_true, Bool.or_eq_false_iff, Bool.and_eq_true, Bool.and_eq_false_iff, decide_eq_true_eq, decide_eq_false_iff_not, Classical.not_not, not_or, maxLen, con14, con15, con19, con38, con40, hT, hG, hk, hK, Try.results14] at hwf ⊢); (try simp (disch := decide +kernel) only [drawn, true_and, and_true])
  clear hwf
  have eF : fitB l cs was p t = (decide (p.length = (actV l t).length) && (List.range (actV l t).length).all (fitI (actV l t) cs p) && (fixV l cs was t).all (fun a => decide ((chV p a.1).1 = a.2))) := rfl
  have hAl := (actV_len l t).symm ▸ actN_le l t
  generalize actV l t = A at eF hAl ⊢
  refine ⟨hl, fun _ _ _ => ⟨fun h => ?_, fun hpl _ => ?_⟩⟩
  · rw [eF, decide_eq_false (by omega)]; rfl
  rw [decide_eq_true (show p.length = A.length by omega), Bool.true_and] at eF
  refine evk_loop ⟨{ i : Nat // i ≤ A.length ∧ (List.range i).all (fitI A cs p) = true }, 1000, fun i => [(0, .one (.sl yDP l false)), (1, .one (.sl (.int .i64) cs false)), (2, .one (.sl (.pair yFL (.int .i64)) was false)), (3, .one (.sl (.pair yFL (.int .i64)) p false)), (4, .one (.int .i64 t)), (11, .one (.sl yDP A false)), (31, .one (.int .i64 A.length)), (32, .one (.int .i64 i.1))],
   fun i => [], fun i => A.length - i.1⟩ ⟨0, Nat.zero_le _, rfl⟩ ?_ ?_
  · simp only [go_sem]
    rfl
  · rintro ⟨i, (hi : i ≤ A.length), (hall : (List.range i).all (fitI A cs p) = true)⟩
    (simp -implicitDefEqProofs (maxSteps := 4000000) only [go_sem, Bool.not_eq_true', Bool.not_eq_false', Bool.or_eq_true, Bool.or_eq_false_iff, Bool.and_eq_true, Bool.and_eq_false_iff, decide_eq_true_eq, decide_eq_false_iff_not, Classical.not_not, not_or, maxLen, con14, con15, con19, con38, con40, hT, hG, hk, hK, Try.results14]); (try simp (disch := decide +kernel) only [drawn, true_and, and_true])
    refine ⟨fun hlt => ?_, fun hge => ?_⟩
    · have hi' : i < A.length := by omega
      obtain ⟨di, hdi⟩ : ∃ di : Dep, A.getD (i : Int).toNat ((ByteArray.empty, 0, ByteArray.empty, 0), ByteArray.empty, 0, 0, 0, 0, 0) = di := ⟨_, rfl⟩
      have hdi2 : A.getD i zD = di := hdi
      rw [hdi]
      have hF1 : (chV p di.1).2 = false → fitI A cs p i = false := fun h => by unfold fitI; rw [hdi2, h]; rfl
      have hF2 : cs.any (fun y : Int => decide ((chV p di.1).1 = y)) = false → fitI A cs p i = false := fun h => by unfold fitI; rw [hdi2, h, Bool.and_false, Bool.false_and]
      have hFF : fitI A cs p i = false → fitB l cs was p t = false := fun h => by rw [eF, all_range_not hi' h, Bool.false_and]
      refine ⟨by omega, fun _ _ _ => ⟨fun h => ?_, fun h => ?_⟩⟩
      · rw [hFF (h.elim hF1 hF2)]
      · refine evk_loop ⟨{ k : Nat // k ≤ i ∧ (List.range k).all (fun k => !clsh A p i k) = true }, 2000, fun k => [(0, .one (.sl yDP l false)), (1, .one (.sl (.int .i64) cs false)), (2, .one (.sl (.pair yFL (.int .i64)) was false)), (3, .one (.sl (.pair yFL (.int .i64)) p false)), (4, .one (.int .i64 t)), (11, .one (.sl yDP A false)), (31, .one (.int .i64 A.length)), (32, .one (.int .i64 i)), (12, .one (.int .i64 i)), (13, .one (.int .i64 (chV p di.1).1)), (15, .one (.int .i64 k.1))],
         fun k => [], fun k => i - k.1⟩ ⟨0, Nat.zero_le _, rfl⟩ ?_ ?_
        · simp only [go_sem]
          try rfl
        · rintro ⟨k, (hk' : k ≤ i), (hkall : (List.range k).all (fun k => !clsh A p i k) = true)⟩
          (simp -implicitDefEqProofs (maxSteps := 4000000) only [go_sem, Bool.not_eq_true', Bool.not_eq_false', Bool.or_eq_true, Bool.or_eq_false_iff, Bool.and_eq_true, Bool.and_eq_false_iff, decide_eq_true_eq, decide_eq_false_iff_not, Classical.not_not, not_or, maxLen, con14, con15, con19, con38, con40, hT, hG, hk, hK, Try.results14]); (try simp (disch := decide +kernel) only [drawn, true_and, and_true])
          rw [hdi]
          obtain ⟨dk, hdk⟩ : ∃ dk : Dep, A.getD (k : Int).toNat ((ByteArray.empty, 0, ByteArray.empty, 0), ByteArray.empty, 0, 0, 0, 0, 0) = dk := ⟨_, rfl⟩
          have hdk2 : A.getD k zD = dk := hdk
          rw [hdk]
          have hcl : clsh A p i k = (decide ((chV p di.1).1 = (chV p dk.1).1) && decide (dk.2.2.1 < di.2.2.2.1) && decide (di.2.2.1 < dk.2.2.2.1)) := by unfold clsh; rw [hdi2, hdk2]; rfl
          refine ⟨fun hlt => ?_, fun hge => ?_⟩
          · have hno : clsh A p i k = true → fitB l cs was p t = false := fun h2 => hFF (by
             unfold fitI
             rw [all_range_not (f := fun k => !clsh A p i k) (show k < i by omega) (by rw [h2]; rfl), Bool.and_false])
            have hgo : clsh A p i k = false → k + 1 ≤ i ∧ (List.range (k + 1)).all (fun k => !clsh A p i k) = true := fun h2 =>
             ⟨by omega, all_range_succ _ k hkall (by rw [h2]; rfl)⟩
            (repeat' (with_reducible (first | refine And.intro ?_ ?_ | intro _))) <;> (try (first | with_reducible (first | done | assumption | omega | contradiction) | decide))
            · have h2 : ((chV p di.1).1 = (chV p dk.1).1 ∧ dk.2.2.1 < di.2.2.2.1) ∧ di.2.2.1 < dk.2.2.2.1 := by assumption
              rw [hno (by rw [hcl, decide_eq_true h2.1.1, decide_eq_true h2.1.2, decide_eq_true h2.2]; rfl)]
            · have h2 : (¬ (chV p di.1).1 = (chV p dk.1).1 ∨ ¬ dk.2.2.1 < di.2.2.2.1) ∨ ¬ di.2.2.1 < dk.2.2.2.1 := by assumption
              have h3 : clsh A p i k = false := by
               rw [hcl]
               rcases h2 with (h2 | h2) | h2
               · rw [decide_eq_false h2, Bool.false_and, Bool.false_and]
               · rw [decide_eq_false h2, Bool.and_false, Bool.false_and]
               · rw [decide_eq_false h2, Bool.and_false]
              refine fin_lp ⟨k + 1, hgo h3⟩ ?_ ?_
              · simp only [go_sem]
                first | rfl | omega
              · dsimp only; omega
          · have hki : k = i := by omega
            subst hki
            have hF3 : fitI A cs p k = true := by unfold fitI; rw [hdi2, h.1, h.2, hkall]; rfl
            refine ⟨by omega, ?_⟩
            refine fin_lp ⟨k + 1, by omega, all_range_succ _ k hall hF3⟩ ?_ ?_
            · simp only [go_sem]
              first | rfl | omega
            · dsimp only; omega
    · rw [show A.length = i by omega, hall, Bool.true_and] at eF
      refine ⟨by omega, fun _ _ => ?_⟩
      have hfl := fixV_len l cs was t
      generalize fixV l cs was t = fx at eF hfl ⊢
      refine evk_loop ⟨{ j : Nat // j ≤ fx.length ∧ (fx.take j).all (fun a => decide ((chV p a.1).1 = a.2)) = true }, 3000, fun j => [(3, .one (.sl (.pair yFL (.int .i64)) p false)), (102, .one (.sl (.pair yFL (.int .i64)) fx false)), (103, .one (.int .i64 fx.length)), (104, .one (.int .i64 j.1))],
       fun j => [], fun j => fx.length - j.1⟩ ⟨0, Nat.zero_le _, rfl⟩ ?_ ?_
      · simp only [go_sem]
        try rfl
      · rintro ⟨j, (hj : j ≤ fx.length), (hja : (fx.take j).all (fun a => decide ((chV p a.1).1 = a.2)) = true)⟩
        (simp -implicitDefEqProofs (maxSteps := 4000000) only [go_sem, Bool.not_eq_true', Bool.not_eq_false', Bool.or_eq_true, Bool.or_eq_false_iff, Bool.and_eq_true, Bool.and_eq_false_iff, decide_eq_true_eq, decide_eq_false_iff_not, Classical.not_not, not_or, maxLen, con14, con15, con19, con38, con40, hT, hG, hk, hK, Try.results14]); (try simp (disch := decide +kernel) only [drawn, true_and, and_true])
        refine ⟨fun hlt => ?_, fun hge => ?_⟩
        · have hj' : j < fx.length := by omega
          have ek : ∀ z, fx.getD (j : Int).toNat z = fx[j] := fun z => by simp [hj']
          simp only [ek]
          refine ⟨by omega, fun _ _ _ => ⟨fun h => ?_, fun h => ?_⟩⟩
          · have : fx.all (fun a => decide ((chV p a.1).1 = a.2)) = false := by
             rw [List.all_eq_false]
             exact ⟨fx[j], List.getElem_mem hj', by rw [decide_eq_false h]; simp⟩
            rw [eF, this]
          · refine ⟨by omega, ?_⟩
            refine fin_lp ⟨j + 1, by omega, ?_⟩ ?_ ?_
            · rw [List.take_succ_eq_append_getElem hj', List.all_append, hja]
              simp [h]
            · simp only [go_sem]
              first | rfl | omega
            · dsimp only; omega
        · rw [List.take_of_length_le (by omega)] at hja
          rw [eF, hja])
end Go.Proofs.Ytfaoonbnbdlgaaa

/- The plain law: allocations as a function of the flights; a repair of a repair. -/
set_option linter.unusedSimpArgs false
set_option linter.unusedVariables false
set_option maxRecDepth 100000
set_option maxHeartbeats 4000000
namespace Go.Proofs.Ytfaoonbnbdlgaaa
open Go.Ev

theorem ascI_pair : ∀ {cs : List Int}, ascI cs = true → cs.Pairwise (· < ·)
 | [], _ => List.Pairwise.nil
 | [a], _ => List.pairwise_singleton _ _
 | a :: b :: l, h => by
   unfold ascI at h
   simp only [Bool.and_eq_true, decide_eq_true_eq] at h
   have ih := ascI_pair h.2
   refine List.pairwise_cons.2 ⟨fun c hc => ?_, ih⟩
   rcases List.mem_cons.1 hc with rfl | hc
   · exact h.1
   · have := (List.pairwise_cons.1 ih).1 c hc
     omega
theorem asc_at {cs : List Int} (h : cs.Pairwise (· < ·)) {i j : Nat} (hi : i < cs.length) (hj : j < cs.length) (e : cs.getD i 0 = cs.getD j 0) : i = j := by
 rw [List.getD_eq_getElem?_getD, List.getD_eq_getElem?_getD, List.getElem?_eq_getElem hi, List.getElem?_eq_getElem hj] at e
 have e : cs[i] = cs[j] := e
 have hp := List.pairwise_iff_getElem.1 h
 rcases Nat.lt_trichotomy i j with hlt | heq | hlt
 · have := hp i j hi hj hlt; omega
 · exact heq
 · have := hp j i hj hi hlt; omega
/-- The allocations of departures along a way. -/
def alcs (A : List Dep) (cs : List Int) (w : List Nat) : List All := (A.zip w).map (fun q => (q.1.1, cs.getD q.2 0))
theorem alcs_eq (A : List Dep) (cs : List Int) (f : Dep → Ned) (hf : ∀ d, (f d).1 = d.1) : ∀ (A : List Dep) (w : List Nat), allR (A.map f) cs w = alcs A cs w
 | [], _ => rfl
 | _ :: _, [] => rfl
 | d :: A, c :: w => by
   show ((f d).1, cs.getD c 0) :: allR (A.map f) cs w = (d.1, cs.getD c 0) :: alcs A cs w
   rw [hf, alcs_eq A cs f hf A w]
theorem alcs_keys (A : List Dep) (cs : List Int) : ∀ (A : List Dep) (w : List Nat), w.length = A.length → (alcs A cs w).map (fun a => a.1) = A.map (fun d => d.1)
 | [], _, _ => rfl
 | _ :: _, [], h => by simp at h
 | d :: A, c :: w, h => by
   show d.1 :: (alcs A cs w).map (fun a => a.1) = d.1 :: A.map (fun d => d.1)
   rw [alcs_keys A cs A w (by simpa using h)]
theorem map_zip {α β : Type} (g : α → β) : ∀ (A : List α) (w : List β), w.length = A.length → (∀ q ∈ A.zip w, g q.1 = q.2) → w = A.map g
 | [], [], _, _ => rfl
 | [], _ :: _, h, _ => by simp at h
 | _ :: _, [], h, _ => by simp at h
 | a :: A, b :: w, h, hq => by
   rw [List.map_cons, ← map_zip g A w (by simpa using h) (fun q hm => hq q (List.mem_cons_of_mem _ hm)), hq (a, b) List.mem_cons_self]
/-- A list of allocations that is a way's, in any order. -/
structure IsW (A : List Dep) (cs : List Int) (w : List Nat) (p : List All) : Prop where
 len : w.length = A.length
 lt : ∀ c ∈ w, c < cs.length
 perm : p.Perm (alcs A cs w)
section
variable {A : List Dep} {cs : List Int} {w : List Nat} {p : List All}
theorem IsW.keys (h : IsW A cs w p) (hn : (A.map (fun d => d.1)).Nodup) : (p.map (fun a => a.1)).Nodup := by
 refine ((h.perm.map (fun a => a.1)).nodup_iff).2 ?_
 rw [alcs_keys A cs A w h.len]; exact hn
theorem IsW.at_ (h : IsW A cs w p) (hn : (A.map (fun d => d.1)).Nodup) (ha : cs.Pairwise (· < ·)) : ∀ q ∈ A.zip w, q.2 < cs.length ∧ chV p q.1.1 = (cs.getD q.2 0, true) ∧ homeV cs p q.1.1 = (q.2 : Int) := by
 intro q hq
 have h1 := h.lt q.2 (List.of_mem_zip hq).2
 have h2 : (q.1.1, cs.getD q.2 0) ∈ p := h.perm.mem_iff.2 (List.mem_map_of_mem (f := fun q : Dep × Nat => (q.1.1, cs.getD q.2 0)) hq)
 have h3 := chV_mem (h.keys hn) h2
 refine ⟨h1, h3, ?_⟩
 rcases home_spec cs p q.1.1 with ⟨g1, g2⟩ | ⟨k, g1, g2, g3, g4, g5⟩
 · rw [h3] at g2
   have : inC cs (cs.getD q.2 0) = true := by
    unfold inC
    rcases idxF_spec (fun y : Int => decide (cs.getD q.2 0 = y)) cs 0 (Int.le_refl 0) with ⟨e1, e2⟩ | ⟨i, _, e1, _, _⟩
    · have hm : cs.getD q.2 0 ∈ cs := by
       rw [List.getD_eq_getElem?_getD, List.getElem?_eq_getElem h1]; exact List.getElem_mem h1
      have := e2 _ hm
      simp at this
    · rw [e1]; simp
   rw [this] at g2; cases g2
 · have g6 := g5 0
   rw [h3] at g6
   have := asc_at ha g1 h1 g6
   rw [g2, this]
/-- The chute's place, by the flight. -/
def gF (cs : List Int) (p : List All) (f : Flt) : Nat := (homeV cs p f).toNat
theorem IsW.map (h : IsW A cs w p) (hn : (A.map (fun d => d.1)).Nodup) (ha : cs.Pairwise (· < ·)) : w = A.map (fun d => gF cs p d.1) :=
 map_zip (fun d => gF cs p d.1) A w h.len (fun q hq => by
  have := (h.at_ hn ha q hq).2.2
  show (homeV cs p q.1.1).toNat = q.2
  omega)
theorem zip_mem {α β : Type} : ∀ {A : List α} {w : List β}, w.length = A.length → ∀ d ∈ A, ∃ c, (d, c) ∈ A.zip w
 | [], _, _, d, hd => by cases hd
 | a :: A, [], h, d, hd => by simp at h
 | a :: A, c :: w, h, d, hd => by
   rcases List.mem_cons.1 hd with rfl | hd
   · exact ⟨c, List.mem_cons_self⟩
   · obtain ⟨c', hc⟩ := zip_mem (A := A) (w := w) (by simpa using h) d hd
     exact ⟨c', List.mem_cons_of_mem _ hc⟩
theorem IsW.dep (h : IsW A cs w p) (hn : (A.map (fun d => d.1)).Nodup) (ha : cs.Pairwise (· < ·)) : ∀ d ∈ A, gF cs p d.1 < cs.length ∧ chV p d.1 = (cs.getD (gF cs p d.1) 0, true) ∧ homeV cs p d.1 = (gF cs p d.1 : Int) := by
 intro d hd
 obtain ⟨c, hc⟩ := zip_mem h.len d hd
 obtain ⟨h1, h2, h3⟩ := h.at_ hn ha _ hc
 have e : gF cs p d.1 = c := by unfold gF; rw [h3]; rfl
 rw [e]; exact ⟨h1, h2, h3⟩
end
/-- A departure by its flight. -/
def depF (l : List Dep) (f : Flt) : Dep := (l.find? (fun d => decide (d.1 = f))).getD zD
theorem depF_eq {l : List Dep} (hn : (l.map (fun d => d.1)).Nodup) {d : Dep} (hd : d ∈ l) : depF l d.1 = d := by
 unfold depF
 cases h : l.find? (fun e => decide (e.1 = d.1)) with
 | none =>
   have := List.find?_eq_none.1 h d hd
   simp at this
 | some e =>
   have h1 := List.mem_of_find?_eq_some h
   have h2 := List.find?_some h
   exact nodup_uniq (f := fun d : Dep => d.1) hn h1 hd (of_decide_eq_true h2)
/-- The need of a flight. -/
def ndF (l : List Dep) (cs : List Int) (old : List All) (t : Int) (f : Flt) : RlM.Nd := toNd (ndA cs old (fixV l cs old t) (opn t (depF l f)))
theorem nds_flt {l : List Dep} {cs : List Int} {old : List All} {t : Int} (hn : (l.map (fun d => d.1)).Nodup) : ndsV l cs old t = ((actV l t).map (fun d => d.1)).map (ndF l cs old t) := by
 unfold ndsV
 rw [List.map_map]
 refine List.map_congr_left fun d hd => ?_
 obtain ⟨d0, h1, h2, rfl⟩ := act_mem hd
 show _ = ndF l cs old t d0.1
 unfold ndF
 rw [depF_eq hn h1]
/-- What a repair is. -/
theorem rep_facts {l : List Dep} {cs : List Int} {old : List All} {t : Int} (h : (repV l cs old t).2 = 0) (h0 : argR l cs t = 0) :
 ((fixV l cs old t).map (fun a => a.2)).Nodup ∧ lsV (needV l cs old (fixV l cs old t) t) cs.length st0 < 17 ∧
 IsW (actV l t) cs (pathR (needV l cs old (fixV l cs old t) t) cs.length) (repV l cs old t).1 ∧
 (repV l cs old t).1 = sortAl (alcs (actV l t) cs (pathR (needV l cs old (fixV l cs old t) t) cs.length)) := by
 have hx : ((fixV l cs old t).map (fun a => a.2)).Nodup := by
  apply Classical.byContradiction
  intro hx
  unfold repV at h
  rw [if_neg (by omega), if_pos hx] at h
  simp at h
 rw [rep_of h0 hx] at h ⊢
 by_cases hl : 17 ≤ lsV (needV l cs old (fixV l cs old t) t) cs.length st0
 · rw [if_pos hl] at h; simp at h
 · rw [if_neg hl]
   have hp := (path_ok (l := l) (cs := cs) (old := old) (t := t) (by omega)).1
   have h1 := RlM.path_len hp
   rw [nds_len, ← actV_len] at h1
   have e : allR (needV l cs old (fixV l cs old t) t) cs (pathR (needV l cs old (fixV l cs old t) t) cs.length) = alcs (actV l t) cs (pathR (needV l cs old (fixV l cs old t) t) cs.length) := by
    generalize pathR (needV l cs old (fixV l cs old t) t) cs.length = w
    rw [need_act]
    exact alcs_eq (actV l t) cs _ (fun d => rfl) _ w
   refine ⟨hx, by omega, ⟨h1, RlM.path_lt hp, ?_⟩, by rw [e]⟩
   rw [← e]
   exact sortAl_perm _
theorem closed_mono {d : Dep} {t u : Int} (h : t ≤ u) (hc : closedV d u = false) : closedV d t = false := by
 have := closed_not hc
 unfold closedV
 rw [decide_eq_true this.1, decide_eq_false (by omega)]; rfl
theorem actN_mono (l : List Dep) {t u : Int} (h : t ≤ u) : actN l u ≤ actN l t := by
 unfold actN
 refine List.countP_mono_left fun d _ hc => ?_
 rw [closed_mono h (by simpa using hc)]; rfl
theorem argR_mono {l : List Dep} {cs : List Int} {t u : Int} (h : t ≤ u) (h0 : argR l cs t = 0) : argR l cs u = 0 := by
 have hm := actN_mono l h
 unfold argR at h0 ⊢
 by_cases h1 : validateV l = 0
 · rw [if_neg (by omega)] at h0 ⊢
   by_cases h2 : (actN l t : Int) > 16 ∨ (cs.length : Int) > 6
   · rw [if_pos h2] at h0; omega
   · rw [if_neg h2] at h0
     rw [if_neg (by omega)]
     exact h0
 · rw [if_pos h1] at h0; omega
theorem open_act {l : List Dep} {t u : Int} (h : t ≤ u) {d : Dep} (hd : d ∈ l) (ho : isOpenV d u = true) : closedV d t = false := by
 have := (isOpenV_iff d u).1 ho
 unfold closedV
 rw [decide_eq_true this.1, decide_eq_false (by omega)]; rfl
/-- A repair of a repair moves nothing. -/
theorem again_law {l : List Dep} {cs : List Int} {old p : List All} {t u : Int} (htu : t ≤ u) (h0 : argR l cs t = 0) (h : (repV l cs old t).2 = 0) (hp : (repV l cs old t).1 = p) :
 (repV l cs p u).2 = 0 ∧ (repV l cs p u).1.length = (actV l u).length ∧ ∀ a ∈ (repV l cs p u).1, chV p a.1 = (a.2, true) := by
 obtain ⟨a1, a2, a3, a4, a5, a6⟩ := argR_all h0
 have hasc := ascI_pair a6
 obtain ⟨x1, x2, x3, x4⟩ := rep_facts h h0
 rw [hp] at x3
 have hnA := act_flts (l := l) (t := t) a2
 have hnB := act_flts (l := l) (t := u) a2
 have hdep := x3.dep hnA hasc
 have hmap := x3.map hnA hasc
 have hpath := (path_ok x2).1
 have hu0 := argR_mono htu h0
 have hfit := (RlM.path0 (nds_asc a1) a4).1 hpath
 rw [hmap, nds_flt a2, show (actV l t).map (fun d => gF cs p d.1) = ((actV l t).map (fun d => d.1)).map (gF cs p) by rw [List.map_map]; rfl] at hfit
 have hascA : RlM.Asc (((actV l t).map (fun d => d.1)).map (ndF l cs old t)) := by rw [← nds_flt a2]; exact nds_asc a1
 have hascB : RlM.Asc (((actV l u).map (fun d => d.1)).map (ndF l cs p u)) := by rw [← nds_flt a2]; exact nds_asc a1
 have hposA : ∀ f ∈ (actV l t).map (fun d => d.1), (ndF l cs old t f).frm < (ndF l cs old t f).to := fun f hf => by
  refine nds_pos (l := l) (cs := cs) (old := old) (t := t) a1 _ ?_
  rw [nds_flt a2]; exact List.mem_map_of_mem hf
 -- who is open at u has apart chutes
 have hsym := (RlM.fit_sym hascA hposA).1 hfit
 have hx : ((fixV l cs p u).map (fun a => a.2)).Nodup := by
  rw [List.Nodup, List.pairwise_map]
  have hk := fix_keys (l := l) (cs := cs) (old := p) (t := u) a2
  rw [List.Nodup, List.pairwise_map] at hk
  refine hk.imp_of_mem ?_
  intro a b ha hb hab e
  obtain ⟨d, hd, hdb, rfl⟩ := fix_mem ha
  obtain ⟨d', hd', hdb', rfl⟩ := fix_mem hb
  unfold fixB at hdb hdb'
  simp only [Bool.and_eq_true] at hdb hdb'
  have o1 := (isOpenV_iff d u).1 hdb.1.2
  have o2 := (isOpenV_iff d' u).1 hdb'.1.2
  have m1 := mem_act hd (open_act htu hd hdb.1.2)
  have m2 := mem_act hd' (open_act htu hd' hdb'.1.2)
  obtain ⟨k1, k2, _⟩ := hdep _ m1
  obtain ⟨k3, k4, _⟩ := hdep _ m2
  have e : (chV p d.1).1 = (chV p d'.1).1 := e
  rw [show chV p d.1 = _ from k2, show chV p d'.1 = _ from k4] at e
  have eg := asc_at hasc k1 k3 e
  have hne : d.1 ≠ d'.1 := hab
  have n1 : ndF l cs old t d.1 = toNd (ndA cs old (fixV l cs old t) (opn t d)) := by unfold ndF; rw [depF_eq a2 hd]
  have n2 : ndF l cs old t d'.1 = toNd (ndA cs old (fixV l cs old t) (opn t d')) := by unfold ndF; rw [depF_eq a2 hd']
  have q1 := opn_opens t d
  have q2 := opn_opens t d'
  have hov : RlM.Ovl (ndF l cs old t d.1) (ndF l cs old t d'.1) := by
   rw [n1, n2]
   refine ⟨?_, ?_⟩
   · show (opn t d).opens < d'.closes; omega
   · show (opn t d').opens < d.closes; omega
  have hov2 : RlM.Ovl (ndF l cs old t d'.1) (ndF l cs old t d.1) := ⟨hov.2, hov.1⟩
  have hpw := hsym.2
  rw [List.pairwise_map] at hpw
  obtain ⟨i, hi, ei⟩ := List.getElem_of_mem m1
  obtain ⟨j, hj, ej⟩ := List.getElem_of_mem m2
  have hpi := List.pairwise_iff_getElem.1 hpw
  rcases Nat.lt_trichotomy i j with hlt | heq | hlt
  · have := hpi i j hi hj hlt
    rw [ei, ej] at this
    exact this eg hov
  · subst heq
    have e9 : opn t d = opn t d' := ei.symm.trans ej
    exact hne (show (opn t d).1 = (opn t d').1 by rw [e9])
  · have := hpi j i hj hi hlt
    rw [ei, ej] at this
    exact this eg.symm hov2
 -- the way that keeps all
 have hS : (((actV l u).map (fun d => d.1))).Perm (((actV l t).map (fun d => d.1)).filter (fun f => !closedV (depF l f) u)) := by
  rw [List.perm_ext_iff_of_nodup hnB (hnA.filter _)]
  intro f
  rw [List.mem_filter]
  constructor
  · intro hf
    obtain ⟨d, hd, rfl⟩ := List.mem_map.1 hf
    obtain ⟨d0, h1, h2, rfl⟩ := act_mem hd
    refine ⟨List.mem_map.2 ⟨_, mem_act h1 (closed_mono htu h2), rfl⟩, ?_⟩
    show (!closedV (depF l d0.1) u) = true
    rw [depF_eq a2 h1, h2]; rfl
  · rintro ⟨hf, hc⟩
    obtain ⟨d, hd, rfl⟩ := List.mem_map.1 hf
    obtain ⟨d0, h1, h2, rfl⟩ := act_mem hd
    have hc : (!closedV (depF l d0.1) u) = true := hc
    rw [depF_eq a2 h1] at hc
    exact List.mem_map.2 ⟨_, mem_act h1 (by simpa using hc), rfl⟩
 have hag := RlM.again (t := u) hascA hascB hposA (List.filter_sublist (p := fun f => !closedV (depF l f) u)) hS hfit (fun f hf => by
  obtain ⟨d, hd, rfl⟩ := List.mem_map.1 hf
  obtain ⟨d0, h1, h2, rfl⟩ := act_mem hd
  have e1 : (opn u d0).1 = d0.1 := rfl
  have hc := closed_not h2
  have q1 := opn_opens t d0
  have q2 := opn_opens u d0
  obtain ⟨_, _, k3⟩ := hdep _ (mem_act h1 (closed_mono htu h2))
  have e2 : (ndF l cs p u d0.1).to = d0.closes := by unfold ndF; rw [depF_eq a2 h1]; rfl
  have e3 : (ndF l cs old t d0.1).to = d0.closes := by unfold ndF; rw [depF_eq a2 h1]; rfl
  have e4 : (ndF l cs p u d0.1).frm = (opn u d0).opens := by unfold ndF; rw [depF_eq a2 h1]; rfl
  have e5 : (ndF l cs old t d0.1).frm = (opn t d0).opens := by unfold ndF; rw [depF_eq a2 h1]; rfl
  have e6 : (ndF l cs p u d0.1).home = homeV cs p d0.1 := by unfold ndF; rw [depF_eq a2 h1]; rfl
  refine ⟨?_, ?_, ?_, ?_⟩
  · show u < (ndF l cs p u d0.1).to; omega
  · show (ndF l cs p u d0.1).to = (ndF l cs old t d0.1).to; omega
  · show (ndF l cs p u d0.1).frm = max (ndF l cs old t d0.1).frm u; omega
  · show (ndF l cs p u d0.1).home = (gF cs p d0.1 : Int)
    rw [e6]; exact k3)
 rw [← nds_flt a2] at hag
 have hpu := (RlM.path0 (k := 6) (nds_asc a1) a4).2 hag.1
 have hle := RlM.least_le hpu
 rw [hag.2, ← ls_eq] at hle
 have hls := (lsV_bd (needV l cs p (fixV l cs p u) u) cs.length st0).1
 have hrep := rep_of hu0 hx
 rw [if_neg (by omega)] at hrep
 have h2 : (repV l cs p u).2 = 0 := by rw [hrep]
 obtain ⟨y1, y2, y3, y4⟩ := rep_facts h2 hu0
 refine ⟨h2, ?_, fun a ha => ?_⟩
 · rw [y3.perm.length_eq]
   unfold alcs
   rw [List.length_map, List.length_zip, y3.len]; omega
 · have hm := y3.perm.mem_iff.1 ha
   unfold alcs at hm
   obtain ⟨q, hq, rfl⟩ := List.mem_map.1 hm
   have hpo := path_ok y2
   have hz := RlM.zero_home (RlM.path_len hpo.1) (by rw [hpo.2]; omega)
   have hqA := (List.of_mem_zip hq).1
   obtain ⟨d0, h3, h4, e5⟩ := act_mem hqA
   have hq2 : (toNd (ndA cs p (fixV l cs p u) q.1), q.2) ∈ (ndsV l cs p u).zip (pathR (needV l cs p (fixV l cs p u) u) cs.length) := by
    unfold ndsV
    rw [List.zip_map_left]
    exact List.mem_map.2 ⟨q, hq, rfl⟩
   have hz2 := hz _ hq2
   have e6 : q.1.1 = d0.1 := by rw [e5]; rfl
   obtain ⟨k1, k2, k3⟩ := hdep _ (mem_act h3 (closed_mono htu h4))
   have k3 : homeV cs p d0.1 = (gF cs p d0.1 : Int) := k3
   have k2 : chV p d0.1 = (cs.getD (gF cs p d0.1) 0, true) := k2
   have e7 : (toNd (ndA cs p (fixV l cs p u) q.1)).home = homeV cs p q.1.1 := rfl
   dsimp only at hz2
   rw [e7, e6, k3] at hz2
   have e8 := hz2 (by omega)
   have e9 : gF cs p d0.1 = q.2 := by omega
   show chV p q.1.1 = (cs.getD q.2 0, true)
   rw [e6, k2, e9]
end Go.Proofs.Ytfaoonbnbdlgaaa

/- The law: repairing a repair moves nothing. -/
set_option linter.unusedSimpArgs false
set_option linter.unusedVariables false
set_option maxRecDepth 100000
set_option maxHeartbeats 8000000
namespace Go.Proofs.Ytfaoonbnbdlgaaa
open Go.Ev

/-- The arguments of the laws are valid. -/
theorem gen_args {x : List Dep} {c : List Int} {t : Int} (h1 : validateV x = 0) (h2 : x.length ≤ 16) (h3 : c.length ≤ 6) (h4 : ∀ y ∈ c, 0 < y) (h5 : ascI c = true) : argR x c t = 0 := by
 have := actN_le x t
 unfold argR
 rw [if_neg (by omega), if_neg (by omega), if_neg, if_neg (by rw [h5]; simp)]
 rw [Bool.not_eq_false, List.all_eq_true]
 intro y hy
 exact decide_eq_true (by have := h4 y hy; omega)
theorem ascI_of_cons : ∀ {a : Int} {c : List Int}, ascI (a :: c) = true → ascI c = true
 | _, [], _ => rfl
 | _, b :: l, h => by
   unfold ascI at h
   simp only [Bool.and_eq_true] at h
   exact h.2
theorem chsV_ok (s : Src) (n : Int) (h : 0 ≤ n) : ((chsV s n).1.length : Int) ≤ n ∧ (∀ y ∈ (chsV s n).1, 0 < y) ∧ ascI (chsV s n).1 = true ∧ (0 ≤ s.2 → 0 ≤ (chsV s n).2.2) := by
 have hb := goMod_bd s.raw (n + 1) (by omega)
 obtain ⟨h1, h2, h3, h4⟩ := chX_ok (goMod s.raw (n + 1)).toNat s.step 0
 refine ⟨?_, fun y hy => (h2 y hy).1, ascI_of_cons h3, fun h => h4 (Src.step_pos s h)⟩
 show ((chX (goMod s.raw (n + 1)).toNat s.step 0).1.length : Int) ≤ n
 rw [h1]; omega
theorem mov_none {cs : List Int} {p q : List All} (h : ∀ a ∈ q, chV p a.1 = (a.2, true)) : movV cs p q = [] := by
 unfold movV
 rw [List.map_eq_nil_iff, List.filter_eq_nil_iff]
 intro a ha
 unfold movB
 rw [h a ha]; simp
/-- What the repair's errors are. -/
theorem rep_err {l : List Dep} {cs : List Int} {old : List All} {t : Int} (h0 : argR l cs t = 0) : ((repV l cs old t).2 = 0 ∨ (repV l cs old t).2 = 11 ∨ (repV l cs old t).2 = 7) ∧ ((repV l cs old t).2 = 7 ↔ ¬ ((fixV l cs old t).map (fun a => a.2)).Nodup) := by
 unfold repV
 rw [if_neg (by omega)]
 by_cases hx : ((fixV l cs old t).map (fun a => a.2)).Nodup
 · rw [if_neg (by simp only [Classical.not_not]; exact hx)]
   split <;> simp [hx]
 · rw [if_pos hx]; simp [hx]
def con5 : Con := { ps := [.d false (.sl (.int .i64)), .d false (.int .i64)], rs := [.d false .bool], pre := fun _ => True, out := fun _ => (true, ()), nw := id }
theorem c5 : CtrOk Try.prog 5 con5.ctr :=
 con_sound (G := ⟨[(6, con6.ctr), (7, con7.ctr), (8, con8.ctr), (9, con9.ctr), (10, con10.ctr), (15, con15.ctr), (19, con19.ctr), (11, con11.ctr), (18, con18.ctr), (13, con13.ctr)], [], [], [], []⟩) tab_ok (EnvOk.cons c6 has6 (EnvOk.cons c7 has7 (EnvOk.cons c8 has8 (EnvOk.cons c9 has9 (EnvOk.cons c10 has10 (EnvOk.cons c15 has15 (EnvOk.cons c19 has19 (EnvOk.cons c11 has11 (EnvOk.cons c18 has18 (EnvOk.cons c13 has13 EnvOk.nil)))))))))) rfl Try.func5 rfl con5 83076785636818385655972105374134259 (by kernel_rfl) (by decide) (by decide) rfl (by decide) rfl (by
  rintro ⟨(l : List Int), (later : Int), _⟩ hpre hwf X hT hG hk hK
  (simp -implicitDefEqProofs (maxSteps := 4000000) only [go_sem, Bool.not_eq_true', Bool.not_eq_false', Bool.or_eq_true, Bool.or_eq_false_iff, Bool.and_eq_true, Bool.and_eq_false_iff, decide_eq_true_eq, decide_eq_false_iff_not, Classical.not_not, not_or, maxLen, con5, con6, con7, con8, con9, con10, con15, con19, con11, con18, con13, hT, hG, hk, hK, Try.results5] at hwf ⊢); (try simp (disch := decide +kernel) only [drawn, true_and, and_true])
  have hlat : -9223372036854775808 ≤ later ∧ later ≤ 9223372036854775807 := hwf.2
  clear hwf
  have s1 := schedV_pos (l.take 2000, 0) 7 (Int.le_refl 0)
  have s2 := schedV_len (l.take 2000, 0) 7 (by decide)
  have s3 := sched_validate (l.take 2000, 0) 7 (by decide) (by decide)
  generalize schedV (l.take 2000, 0) 7 = S at s1 s2 s3 ⊢
  obtain ⟨x, s⟩ := S
  dsimp only at s1 s2 s3 ⊢
  obtain ⟨c2, c3, c4, c1⟩ := chsV_ok s 4 (by decide)
  have c1 := c1 s1
  generalize chsV s 4 = C at c1 c2 c3 c4 ⊢
  obtain ⟨c, s⟩ := C
  dsimp only at c1 c2 c3 c4 ⊢
  have o1 := oldL_pos true (refP x [1, 2, 3, 4, 5, 6]).1.1 s c1
  rw [show oldL true (refP x [1, 2, 3, 4, 5, 6]).1.1 s = oldV s x true from rfl] at o1
  generalize oldV s x true = O at o1 ⊢
  obtain ⟨was, s⟩ := O
  dsimp only at o1 ⊢
  have ht := goMod_bd s.raw 40 (by omega)
  have o2 := Src.step_pos s o1
  generalize goMod s.raw 40 = t at ht ⊢
  generalize Src.step s = s at o2 ⊢
  have ht2 := goMod_bd s.raw 20 (by omega)
  generalize goMod s.raw 20 = t2 at ht2 ⊢
  have h0 : argR x c t = 0 := gen_args s3 (by omega) (by omega) c3 c4
  have he := (rep_err (old := was) h0).1
  have hag := fun (u : Int) (hu : t ≤ u) h => again_law (old := was) (p := (repV x c was t).1) hu h0 h rfl
  generalize repV x c was t = R at he hag ⊢
  obtain ⟨p, (e : Int)⟩ := R
  dsimp only at he hag ⊢
  obtain ⟨TS, hTS⟩ : ∃ TS : List Int, [t, t + 1 + t2, if later > t then later else t] = TS := ⟨_, rfl⟩
  have hTl : TS.length = 3 := by rw [← hTS]; rfl
  have hTg : ∀ u ∈ TS, t ≤ u := fun u hu => by
   rw [← hTS] at hu
   simp only [List.mem_cons, List.not_mem_nil, or_false] at hu
   rcases hu with rfl | rfl | rfl
   · omega
   · omega
   · split <;> omega
  rw [hTS]
  clear hTS
  (repeat' (with_reducible (first | refine And.intro ?_ ?_ | intro _))) <;> (try (first | with_reducible (first | done | assumption | omega | contradiction) | decide))
  have e0 : e = 0 := by assumption
  have hag := fun u hu => hag u (hTg u hu) e0
  refine evk_loop ⟨{ i : Nat // i ≤ 3 }, 1000, fun i => [(6, .one (.sl yDP x false)), (7, .one (.sl (.int .i64) c false)), (10, .one (.sl (.pair yFL (.int .i64)) p false)), (58, .one (.sl (.int .i64) TS false)), (59, .one (.int .i64 3)), (60, .one (.int .i64 i.1))], fun i => [], fun i => 3 - i.1⟩ ⟨0, Nat.zero_le _⟩ ?_ ?_
  · simp only [go_sem]
    exact ⟨rfl, rfl⟩
  · rintro ⟨i, (hi : i ≤ 3)⟩
    (simp -implicitDefEqProofs (maxSteps := 4000000) only [go_sem, Bool.not_eq_true', Bool.not_eq_false', Bool.or_eq_true, Bool.or_eq_false_iff, Bool.and_eq_true, Bool.and_eq_false_iff, decide_eq_true_eq, decide_eq_false_iff_not, Classical.not_not, not_or, maxLen, con5, con6, con7, con8, con9, con10, con15, con19, con11, con18, con13, hT, hG, hk, hK, Try.results5]); (try simp (disch := decide +kernel) only [drawn, true_and, and_true])
    intro hlt
    have hi' : i < TS.length := by omega
    have ek : ∀ z, TS.getD (i : Int).toNat z = TS[i] := fun z => by simp [hi']
    simp only [ek]
    have hu := hag TS[i] (List.getElem_mem hi')
    have hAl := (actV_len x TS[i]).symm ▸ actN_le x TS[i]
    generalize TS[i] = u at hu hAl ⊢
    generalize actV x u = A at hu hAl ⊢
    generalize repV x c p u = R at hu ⊢
    obtain ⟨q, (f : Int)⟩ := R
    dsimp only at hu ⊢
    obtain ⟨hu1, hu2, hu3⟩ := hu
    subst hu1
    have hmv := mov_none (cs := c) hu3
    rw [hmv]
    simp only [List.length_nil, Int.cast_ofNat_Int, hu2, not_true_eq_false, or_self, false_implies, and_self, true_implies]
    refine ⟨by omega, fun _ _ => ⟨by omega, fun _ => ⟨by omega, fun _ _ _ => ⟨by omega, fun _ _ => ⟨trivial, fun _ => ?_⟩⟩⟩⟩⟩
    refine evk_loop ⟨{ j : Nat // j ≤ A.length }, 2000, fun j => [(6, .one (.sl yDP x false)), (7, .one (.sl (.int .i64) c false)), (10, .one (.sl (.pair yFL (.int .i64)) p false)), (14, .one (.sl (.pair yFL (.int .i64)) q false)), (58, .one (.sl (.int .i64) TS false)), (59, .one (.int .i64 3)), (60, .one (.int .i64 i)), (92, .one (.int .i64 A.length)), (93, .one (.int .i64 j.1))], fun j => [], fun j => A.length - j.1⟩ ⟨0, Nat.zero_le _⟩ ?_ ?_
    · simp only [go_sem]
      try rfl
    · rintro ⟨j, (hj : j ≤ A.length)⟩
      (simp -implicitDefEqProofs (maxSteps := 4000000) only [go_sem, Bool.not_eq_true', Bool.not_eq_false', Bool.or_eq_true, Bool.or_eq_false_iff, Bool.and_eq_true, Bool.and_eq_false_iff, decide_eq_true_eq, decide_eq_false_iff_not, Classical.not_not, not_or, maxLen, con5, con6, con7, con8, con9, con10, con15, con19, con11, con18, con13, hT, hG, hk, hK, Try.results5]); (try simp (disch := decide +kernel) only [drawn, true_and, and_true])
      refine ⟨fun hlt2 => ?_, fun hge2 => ?_⟩
      · have hj' : j < q.length := by omega
        have ek2 : ∀ z, q.getD (j : Int).toNat z = q[j] := fun z => by simp [hj']
        simp only [ek2]
        have hch := hu3 q[j] (List.getElem_mem hj')
        rw [hch]
        refine ⟨by omega, fun _ _ _ => ⟨fun _ => by omega, fun _ _ => ⟨fun h => ?_, fun _ => ⟨by omega, ?_⟩⟩⟩⟩
        · rcases h with h | h
          · cases h
          · exact h rfl
        · refine fin_lp ⟨j + 1, by omega⟩ ?_ ?_
          · simp only [go_sem]
            try first | rfl | omega
          · dsimp only; omega
      · refine ⟨by omega, ?_⟩
        refine fin_lp ⟨i + 1, by omega⟩ ?_ ?_
        · simp only [go_sem]
          try first | rfl | omega
        · dsimp only; omega)
end Go.Proofs.Ytfaoonbnbdlgaaa
