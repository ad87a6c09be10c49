/- The plain law: the needs are the active departures; what a repair is. -/
import Derived.Test.YtdeihcabmpcaoaaGreatRfRTToRAw
set_option linter.unusedSimpArgs false
set_option linter.unusedVariables false
set_option maxRecDepth 100000
set_option maxHeartbeats 4000000
namespace Go.Proofs.YtdeihcabmpcaoaaGreat
open Go.Ev

theorem insN_map (f : Dep → Ned) (hf : ∀ d, (f d).frm = d.opens) (x : Dep) : ∀ l : List Dep, insN (f x) (l.map f) = (insV x l).map f
 | [] => rfl
 | y :: l => by
   simp only [List.map_cons, insN, insV, hf]
   by_cases h : x.opens < y.opens
   · rw [if_pos h, if_pos h]; rfl
   · rw [if_neg h, if_neg h, insN_map f hf x l]; rfl
theorem isortN_map (f : Dep → Ned) (hf : ∀ d, (f d).frm = d.opens) (l : List Dep) : isortN (l.map f) = (isort l).map f := by
 have key : ∀ (l acc : List Dep), (l.map f).foldl (fun acc x => insN x acc) (acc.map f) = (l.foldl (fun acc x => insV x acc) acc).map f := by
  intro l
  induction l with
  | nil => intro acc; rfl
  | cons x l ih =>
    intro acc
    simp only [List.map_cons, List.foldl_cons]
    rw [insN_map f hf, ih]
 exact key l []
/-- A need, as an active departure gives it. -/
def ndA (cs : List Int) (old fx : List All) (d : Dep) : Ned := (d.1, d.opens, d.closes, homeV cs old d.1, (chV fx d.1).2)
theorem need_act (l : List Dep) (cs : List Int) (old fx : List All) (t : Int) : needV l cs old fx t = (actV l t).map (ndA cs old fx) := by
 unfold needV actV
 rw [← isortN_map (ndA cs old fx) (fun d => rfl)]
 unfold rawN rawA
 rw [List.map_map]
 rfl
theorem act_mem {l : List Dep} {t : Int} {d : Dep} (h : d ∈ actV l t) : ∃ d0 ∈ l, closedV d0 t = false ∧ d = opn t d0 := by
 unfold actV at h
 have h := (isort_perm _).mem_iff.1 h
 unfold rawA at h
 obtain ⟨d0, h1, rfl⟩ := List.mem_map.1 h
 obtain ⟨h2, h3⟩ := List.mem_filter.1 h1
 exact ⟨d0, h2, by simpa using h3, rfl⟩
theorem mem_act {l : List Dep} {t : Int} {d : Dep} (h : d ∈ l) (hc : closedV d t = false) : opn t d ∈ actV l t := by
 unfold actV
 refine (isort_perm _).mem_iff.2 ?_
 unfold rawA
 exact List.mem_map_of_mem (List.mem_filter.2 ⟨h, by rw [hc]; rfl⟩)
theorem opn_opens (t : Int) (d : Dep) : (opn t d).opens = max d.opens t := by
 show (if t > d.2.2.1 then t else d.2.2.1) = max d.2.2.1 t
 split <;> omega
theorem act_time {l : List Dep} {t : Int} (hv : ∀ d ∈ l, validV d = true) {d : Dep} (h : d ∈ actV l t) : 0 ≤ d.opens ∧ d.opens < d.closes ∧ t ≤ d.opens ∧ t < d.closes ∧ d.state = 0 ∧ d.closes ≤ 1048576 := by
 obtain ⟨d0, h1, h2, rfl⟩ := act_mem h
 have h3 := validV_times (hv d0 h1)
 have h4 := closed_not h2
 have h5 := opn_opens t d0
 have h6 : (opn t d0).closes = d0.closes := rfl
 have h7 : (opn t d0).state = d0.state := rfl
 omega
theorem act_flts {l : List Dep} {t : Int} (hn : (l.map (fun d => d.1)).Nodup) : ((actV l t).map (fun d => d.1)).Nodup := by
 unfold actV
 refine ((isort_perm _).map (fun d => d.1)).nodup_iff.2 ?_
 unfold rawA
 rw [List.map_map]
 exact ((List.filter_sublist (l := l)).map (fun d : Dep => d.1)).nodup hn
theorem act_sorted (l : List Dep) (t : Int) : (actV l t).Pairwise (fun a b => a.opens ≤ b.opens) := isort_sorted _
theorem nodup_uniq {α β : Type} {f : α → β} : ∀ {l : List α}, (l.map f).Nodup → ∀ {a b : α}, a ∈ l → b ∈ l → f a = f b → a = b
 | [], _, a, _, ha, _, _ => by cases ha
 | x :: l, h, a, b, ha, hb, e => by
   rw [List.map_cons, List.nodup_cons] at h
   rcases List.mem_cons.1 ha with e1 | ha <;> rcases List.mem_cons.1 hb with e2 | hb
   · rw [e1, e2]
   · exact absurd (show f x ∈ l.map f by rw [← e1, e]; exact List.mem_map_of_mem hb) h.1
   · exact absurd (show f x ∈ l.map f by rw [← e2, ← e]; exact List.mem_map_of_mem ha) h.1
   · exact nodup_uniq h.2 ha hb e
theorem chV_in : ∀ {l : List All} {f : Flt}, (chV l f).2 = true → (f, (chV l f).1) ∈ l
 | [], f, h => by cases h
 | a :: l, f, h => by
   unfold chV at h ⊢
   by_cases e : a.1 = f
   · rw [if_pos e]; subst e; exact List.mem_cons_self
   · rw [if_neg e] at h ⊢; exact List.mem_cons_of_mem _ (chV_in h)
theorem chV_mem : ∀ {l : List All}, (l.map (fun a => a.1)).Nodup → ∀ {a : All}, a ∈ l → chV l a.1 = (a.2, true)
 | [], _, a, ha => by cases ha
 | x :: l, h, a, ha => by
   rw [List.map_cons, List.nodup_cons] at h
   unfold chV
   rcases List.mem_cons.1 ha with rfl | ha
   · rw [if_pos rfl]
   · have : ¬ x.1 = a.1 := fun e => h.1 (e ▸ List.mem_map_of_mem ha)
     rw [if_neg this]
     exact chV_mem h.2 ha
theorem fix_keys {l : List Dep} {cs : List Int} {old : List All} {t : Int} (hn : (l.map (fun d => d.1)).Nodup) : ((fixV l cs old t).map (fun a => a.1)).Nodup := by
 unfold fixV
 rw [List.map_map]
 exact ((List.filter_sublist (l := l)).map (fun d : Dep => d.1)).nodup hn
theorem fix_mem {l : List Dep} {cs : List Int} {old : List All} {t : Int} {a : All} (h : a ∈ fixV l cs old t) : ∃ d ∈ l, fixB cs old t d = true ∧ a = (d.1, (chV old d.1).1) := by
 unfold fixV at h
 obtain ⟨d, h1, rfl⟩ := List.mem_map.1 h
 obtain ⟨h2, h3⟩ := List.mem_filter.1 h1
 exact ⟨d, h2, h3, rfl⟩
theorem mem_fix {l : List Dep} {cs : List Int} {old : List All} {t : Int} {d : Dep} (h : d ∈ l) (hb : fixB cs old t d = true) : (d.1, (chV old d.1).1) ∈ fixV l cs old t := by
 unfold fixV
 exact List.mem_map_of_mem (f := fun d : Dep => (d.1, (chV old d.1).1)) (List.mem_filter.2 ⟨h, hb⟩)
/-- What a departure that is fixed says. -/
theorem fix_home {l : List Dep} {cs : List Int} {old : List All} {t : Int} {f : Flt} (h : (chV (fixV l cs old t) f).2 = true) :
 ∃ d ∈ l, d.1 = f ∧ isOpenV d t = true ∧ (f, (chV old f).1) ∈ fixV l cs old t ∧ ∃ k : Nat, k < cs.length ∧ homeV cs old f = k ∧ ∀ z, cs.getD k z = (chV old f).1 := by
 have h1 := chV_in h
 obtain ⟨d, hd, hb, e⟩ := fix_mem h1
 have e1 : d.1 = f := (congrArg Prod.fst e).symm
 subst e1
 have hm := mem_fix hd hb
 unfold fixB at hb
 simp only [Bool.and_eq_true] at hb
 obtain ⟨⟨b1, b2⟩, b3⟩ := hb
 refine ⟨d, hd, rfl, b2, hm, ?_⟩
 rcases home_spec cs old d.1 with ⟨_, g2⟩ | ⟨k, g1, g2, _, _, g5⟩
 · rw [b1, b3] at g2; cases g2
 · exact ⟨k, g1, g2, g5⟩
/-- The needs, for the plain search. -/
def ndsV (l : List Dep) (cs : List Int) (old : List All) (t : Int) : List RlM.Nd := (actV l t).map (fun d => toNd (ndA cs old (fixV l cs old t) d))
theorem nds_eq (l : List Dep) (cs : List Int) (old : List All) (t : Int) : (needV l cs old (fixV l cs old t) t).map toNd = ndsV l cs old t := by
 rw [need_act, List.map_map]; rfl
theorem nds_asc {l : List Dep} {cs : List Int} {old : List All} {t : Int} (hv : ∀ d ∈ l, validV d = true) : RlM.Asc (ndsV l cs old t) := by
 unfold ndsV
 refine ⟨fun d hd => ?_, ?_⟩
 · obtain ⟨d0, h1, rfl⟩ := List.mem_map.1 hd
   exact (act_time hv h1).1
 · rw [List.pairwise_map]
   exact act_sorted l t
theorem nds_pos {l : List Dep} {cs : List Int} {old : List All} {t : Int} (hv : ∀ d ∈ l, validV d = true) : ∀ d ∈ ndsV l cs old t, d.frm < d.to := by
 intro d hd
 obtain ⟨d0, h1, rfl⟩ := List.mem_map.1 hd
 exact (act_time hv h1).2.1
theorem nds_fix {l : List Dep} {cs : List Int} {old : List All} {t : Int} (hv : ∀ d ∈ l, validV d = true) (hn : (l.map (fun d => d.1)).Nodup) :
 ∀ d ∈ ndsV l cs old t, d.fixed = true → 0 ≤ d.home ∧ d.home < (cs.length : Nat) ∧ ∀ e ∈ ndsV l cs old t, d.frm ≤ e.frm := by
 intro d hd hf
 obtain ⟨d1, h1, rfl⟩ := List.mem_map.1 hd
 obtain ⟨d2, h2, e2, h3, _, k, h4, h5, _⟩ := fix_home (show (chV (fixV l cs old t) d1.1).2 = true from hf)
 have hh : (toNd (ndA cs old (fixV l cs old t) d1)).home = (k : Int) := h5
 refine ⟨by omega, by omega, fun e he => ?_⟩
 obtain ⟨e1, h6, rfl⟩ := List.mem_map.1 he
 obtain ⟨d0, h7, h8, rfl⟩ := act_mem h1
 have : d2 = d0 := nodup_uniq (f := fun d : Dep => d.1) hn h2 h7 e2
 subst this
 have h9 := (act_time hv h6).2.2.1
 have h10 := opn_opens t d2
 have h11 := (isOpenV_iff d2 t).1 h3
 show (opn t d2).opens ≤ e1.opens
 omega
theorem nds_apart {l : List Dep} {cs : List Int} {old : List All} {t : Int} (hn : (l.map (fun d => d.1)).Nodup) (hx : ((fixV l cs old t).map (fun a => a.2)).Nodup) :
 (ndsV l cs old t).Pairwise (fun a b => a.fixed = true → b.fixed = true → a.home ≠ b.home) := by
 unfold ndsV
 rw [List.pairwise_map]
 have h := act_flts (l := l) (t := t) hn
 rw [List.Nodup, List.pairwise_map] at h
 refine h.imp ?_
 intro a b hab ha hb e
 obtain ⟨_, _, _, _, m1, k1, c1, c2, c3⟩ := fix_home (show (chV (fixV l cs old t) a.1).2 = true from ha)
 obtain ⟨_, _, _, _, m2, k2, c4, c5, c6⟩ := fix_home (show (chV (fixV l cs old t) b.1).2 = true from hb)
 have e1 : homeV cs old a.1 = homeV cs old b.1 := e
 have e2 : k1 = k2 := by omega
 subst e2
 have e3 : (chV old a.1).1 = (chV old b.1).1 := (c3 0).symm.trans (c6 0)
 have := nodup_uniq (f := fun a : All => a.2) hx m1 m2 e3
 exact hab (Prod.mk.inj this).1
theorem ls_eq (l : List Dep) (cs : List Int) (old : List All) (t : Int) (n : Nat) : lsV (needV l cs old (fixV l cs old t) t) n st0 = RlM.least n (ndsV l cs old t) (List.replicate 6 0) := by
 unfold lsV
 rw [← nds_eq]; rfl
theorem nds_len (l : List Dep) (cs : List Int) (old : List All) (t : Int) : (ndsV l cs old t).length = actN l t := by
 unfold ndsV; rw [List.length_map, actV_len]
theorem opn_cnt {l : List Dep} {cs : List Int} {old : List All} {t : Int} (hv : ∀ d ∈ l, validV d = true) (x : Int) : (ndsV l cs old t).countP (RlM.opn x) = cnt (actV l t) x := by
 unfold ndsV cnt
 rw [List.countP_map]
 refine List.countP_congr fun d hd => ?_
 have h := (act_time hv hd).2.2.2.2.1
 show (decide (d.opens ≤ x) && decide (x < d.closes)) = true ↔ isOpenV d x = true
 unfold isOpenV
 rw [decide_eq_true h, Bool.true_and]
/-- There is a repair exactly if at no time too many are open. -/
theorem ls_iff {l : List Dep} {cs : List Int} {old : List All} {t : Int} (hv : ∀ d ∈ l, validV d = true) (hn : (l.map (fun d => d.1)).Nodup) (hx : ((fixV l cs old t).map (fun a => a.2)).Nodup)
 (ha : actN l t ≤ 16) (hc : cs.length ≤ 6) : lsV (needV l cs old (fixV l cs old t) t) cs.length st0 < 17 ↔ ∀ x, cnt (actV l t) x ≤ cs.length := by
 rw [ls_eq]
 have h1 := RlM.least_iff (n := cs.length) (ds := ndsV l cs old t) (fr := List.replicate 6 0) (by rw [nds_len]; show (_ : Int) < 17; omega)
 rw [show (RlM.nn : Int) = 17 from rfl] at h1
 rw [h1]
 constructor
 · rintro ⟨p, hp⟩ x
   rw [← opn_cnt (cs := cs) (old := old) hv]
   exact RlM.exists_only ((RlM.path0 (nds_asc hv) hc).1 hp) x
 · intro h
   exact RlM.exists_of (nds_asc hv) (nds_pos hv) hc (nds_fix hv hn) (nds_apart hn hx) (fun x => by rw [opn_cnt hv]; exact h x)
theorem argR_all {l : List Dep} {cs : List Int} {t : Int} (h : argR l cs t = 0) : (∀ d ∈ l, validV d = true) ∧ (l.map (fun d => d.1)).Nodup ∧ actN l t ≤ 16 ∧ cs.length ≤ 6 ∧ cs.all (fun c => decide (0 ≤ c)) = true ∧ ascI cs = true := by
 unfold argR at h
 by_cases h1 : validateV l = 0
 · rw [if_neg (by omega)] at h
   by_cases h2 : (actN l t : Int) > 16 ∨ (cs.length : Int) > 6
   · rw [if_pos h2] at h; omega
   · rw [if_neg h2] at h
     by_cases h3 : cs.all (fun c => decide (0 ≤ c)) = false
     · rw [if_pos h3] at h; omega
     · rw [if_neg h3] at h
       by_cases h4 : ascI cs = false
       · rw [if_pos h4] at h; omega
       · have h5 := valid_ok h1
         exact ⟨h5.2.1, nodup_flts h5.2.2, by omega, by omega, by simpa using h3, by simpa using h4⟩
 · rw [if_pos h1] at h; omega
/-- The way that is found. -/
theorem path_ok {l : List Dep} {cs : List Int} {old : List All} {t : Int} (h : lsV (needV l cs old (fixV l cs old t) t) cs.length st0 < 17) :
 RlM.Path cs.length (ndsV l cs old t) (List.replicate 6 0) (pathR (needV l cs old (fixV l cs old t) t) cs.length) ∧
 RlM.cost (ndsV l cs old t) (pathR (needV l cs old (fixV l cs old t) t) cs.length) = lsV (needV l cs old (fixV l cs old t) t) cs.length st0 := by
 have h2 := ls_eq l cs old t cs.length
 have h3 := RlM.first_ok (n := cs.length) (ds := ndsV l cs old t) (fr := List.replicate 6 0) (rest := lsV (needV l cs old (fixV l cs old t) t) cs.length st0) h2.symm h
 have e : pathR (needV l cs old (fixV l cs old t) t) cs.length = RlM.first cs.length (ndsV l cs old t) (List.replicate 6 0) (lsV (needV l cs old (fixV l cs old t) t) cs.length st0) := by
  unfold pathR; rw [nds_eq]; rfl
 rw [e]
 exact ⟨h3.1, h3.2.1⟩
theorem allR_len {ds : List Ned} {cs : List Int} {p : List Nat} (h : p.length = ds.length) : (allR ds cs p).length = ds.length := by
 unfold allR; rw [List.length_map, List.length_zip]; omega
end Go.Proofs.YtdeihcabmpcaoaaGreat

/- The law: there is a repair exactly if at no time too many are open. -/
set_option linter.unusedSimpArgs false
set_option linter.unusedVariables false
set_option maxRecDepth 100000
set_option maxHeartbeats 8000000
namespace Go.Proofs.YtdeihcabmpcaoaaGreat
open Go.Ev

theorem schedL_pos : ∀ (n : Nat) (s : Src) (k : Int), 0 ≤ s.2 → 0 ≤ (schedL n s k).2.2
 | 0, _, _, h => h
 | n + 1, s, k, h => by
   have h1 := Src.step_pos s h
   unfold schedL
   split
   · split
     · exact h1
     · exact schedL_pos n _ _ (Src.step_pos _ (Src.step_pos _ (Src.step_pos _ (Src.step_pos _ (Src.step_pos _ (Src.step_pos _ h1))))))
   · exact h
theorem schedV_pos (s : Src) (n : Int) (h : 0 ≤ s.2) : 0 ≤ (schedV s n).2.2 := schedL_pos _ _ _ (Src.step_pos s h)
/-- What is valid: the repair, in two cases. -/
theorem rvd_ok {l : List Dep} {cs : List Int} {old : List All} {t : Int} (h : rvdV l cs old t = 0) : argR l cs t = 0 ∧ ((fixV l cs old t).map (fun a => a.2)).Nodup := by
 unfold rvdV at h
 by_cases h1 : argR l cs t = 0
 · rw [if_neg (by omega)] at h
   refine ⟨h1, ?_⟩
   apply Classical.byContradiction
   intro h2
   rw [if_pos h2] at h; omega
 · rw [if_pos h1] at h; exact absurd h h1
theorem rep_of {l : List Dep} {cs : List Int} {old : List All} {t : Int} (h : argR l cs t = 0) (hx : ((fixV l cs old t).map (fun a => a.2)).Nodup) :
 repV l cs old t = if 17 ≤ lsV (needV l cs old (fixV l cs old t) t) cs.length st0 then ([], 11)
  else (sortAl (allR (needV l cs old (fixV l cs old t) t) cs (pathR (needV l cs old (fixV l cs old t) t) cs.length)), 0) := by
 unfold repV
 rw [if_neg (by omega), if_neg (by simp only [Classical.not_not]; exact hx)]
theorem exists_law {l : List Dep} {cs : List Int} {old : List All} {t : Int} (h : rvdV l cs old t = 0) :
 ((peakV (actV l t)).2 > (cs.length : Int) → repV l cs old t = ([], 11)) ∧ (¬ (peakV (actV l t)).2 > (cs.length : Int) → (repV l cs old t).2 = 0 ∧ (repV l cs old t).1.length = (actV l t).length) := by
 obtain ⟨h1, h2⟩ := rvd_ok h
 obtain ⟨a1, a2, a3, a4, _, _⟩ := argR_all h1
 have hi := ls_iff a1 a2 h2 a3 a4
 have hp := pk_facts (actV l t)
 simp only [openV_cnt] at hp
 rw [rep_of h1 h2]
 refine ⟨fun hk => ?_, fun hk => ?_⟩
 · rw [if_pos]
   apply Classical.byContradiction
   intro hl
   have := hi.1 (by omega) (peakV (actV l t)).1
   omega
 · have hl := hi.2 (fun x => by have := hp.2.2.2.1 x; omega)
   rw [if_neg (by omega)]
   refine ⟨rfl, ?_⟩
   rw [(sortAl_perm _).length_eq]
   have hpl := RlM.path_len (path_ok hl).1
   rw [nds_len] at hpl
   rw [allR_len (by rw [hpl, need_act, List.length_map, actV_len]), need_act, List.length_map]
end Go.Proofs.YtdeihcabmpcaoaaGreat

/- The contract of fits: whether allocations are a repair. -/
set_option linter.unusedSimpArgs false
set_option linter.unusedVariables false
set_option maxRecDepth 100000
set_option maxHeartbeats 8000000
namespace Go.Proofs.YtdeihcabmpcaoaaGreat
open Go.Ev

def zD : Dep := ((ByteArray.empty, 0, ByteArray.empty, 0), ByteArray.empty, 0, 0, 0, 0, 0)
/-- Two departures with one chute at one time. -/
def clsh (A : List Dep) (p : List All) (i k : Nat) : Bool :=
 decide ((chV p (A.getD i zD).1).1 = (chV p (A.getD k zD).1).1) && decide ((A.getD k zD).opens < (A.getD i zD).closes) && decide ((A.getD i zD).opens < (A.getD k zD).closes)
def fitI (A : List Dep) (cs : List Int) (p : List All) (i : Nat) : Bool :=
 (chV p (A.getD i zD).1).2 && cs.any (fun y : Int => decide ((chV p (A.getD i zD).1).1 = y)) && (List.range i).all (fun k => !clsh A p i k)
def fitB (l : List Dep) (cs : List Int) (was p : List All) (t : Int) : Bool :=
 decide (p.length = (actV l t).length) && (List.range (actV l t).length).all (fitI (actV l t) cs p) && (fixV l cs was t).all (fun a => decide ((chV p a.1).1 = a.2))
end Go.Proofs.YtdeihcabmpcaoaaGreat

/- The plain law: allocations as a function of the flights; a repair of a repair. -/
set_option linter.unusedSimpArgs false
set_option linter.unusedVariables false
set_option maxRecDepth 100000
set_option maxHeartbeats 4000000
namespace Go.Proofs.YtdeihcabmpcaoaaGreat
open Go.Ev

theorem ascI_pair : ∀ {cs : List Int}, ascI cs = true → cs.Pairwise (· < ·)
 | [], _ => List.Pairwise.nil
 | [a], _ => List.pairwise_singleton _ _
 | a :: b :: l, h => by
   unfold ascI at h
   simp only [Bool.and_eq_true, decide_eq_true_eq] at h
   have ih := ascI_pair h.2
   refine List.pairwise_cons.2 ⟨fun c hc => ?_, ih⟩
   rcases List.mem_cons.1 hc with rfl | hc
   · exact h.1
   · have := (List.pairwise_cons.1 ih).1 c hc
     omega
theorem asc_at {cs : List Int} (h : cs.Pairwise (· < ·)) {i j : Nat} (hi : i < cs.length) (hj : j < cs.length) (e : cs.getD i 0 = cs.getD j 0) : i = j := by
 rw [List.getD_eq_getElem?_getD, List.getD_eq_getElem?_getD, List.getElem?_eq_getElem hi, List.getElem?_eq_getElem hj] at e
 have e : cs[i] = cs[j] := e
 have hp := List.pairwise_iff_getElem.1 h
 rcases Nat.lt_trichotomy i j with hlt | heq | hlt
 · have := hp i j hi hj hlt; omega
 · exact heq
 · have := hp j i hj hi hlt; omega
/-- The allocations of departures along a way. -/
def alcs (A : List Dep) (cs : List Int) (w : List Nat) : List All := (A.zip w).map (fun q => (q.1.1, cs.getD q.2 0))
theorem alcs_eq (A : List Dep) (cs : List Int) (f : Dep → Ned) (hf : ∀ d, (f d).1 = d.1) : ∀ (A : List Dep) (w : List Nat), allR (A.map f) cs w = alcs A cs w
 | [], _ => rfl
 | _ :: _, [] => rfl
 | d :: A, c :: w => by
   show ((f d).1, cs.getD c 0) :: allR (A.map f) cs w = (d.1, cs.getD c 0) :: alcs A cs w
   rw [hf, alcs_eq A cs f hf A w]
theorem alcs_keys (A : List Dep) (cs : List Int) : ∀ (A : List Dep) (w : List Nat), w.length = A.length → (alcs A cs w).map (fun a => a.1) = A.map (fun d => d.1)
 | [], _, _ => rfl
 | _ :: _, [], h => by simp at h
 | d :: A, c :: w, h => by
   show d.1 :: (alcs A cs w).map (fun a => a.1) = d.1 :: A.map (fun d => d.1)
   rw [alcs_keys A cs A w (by simpa using h)]
theorem map_zip {α β : Type} (g : α → β) : ∀ (A : List α) (w : List β), w.length = A.length → (∀ q ∈ A.zip w, g q.1 = q.2) → w = A.map g
 | [], [], _, _ => rfl
 | [], _ :: _, h, _ => by simp at h
 | _ :: _, [], h, _ => by simp at h
 | a :: A, b :: w, h, hq => by
   rw [List.map_cons, ← map_zip g A w (by simpa using h) (fun q hm => hq q (List.mem_cons_of_mem _ hm)), hq (a, b) List.mem_cons_self]
/-- A list of allocations that is a way's, in any order. -/
structure IsW (A : List Dep) (cs : List Int) (w : List Nat) (p : List All) : Prop where
 len : w.length = A.length
 lt : ∀ c ∈ w, c < cs.length
 perm : p.Perm (alcs A cs w)
section
variable {A : List Dep} {cs : List Int} {w : List Nat} {p : List All}
theorem IsW.keys (h : IsW A cs w p) (hn : (A.map (fun d => d.1)).Nodup) : (p.map (fun a => a.1)).Nodup := by
 refine ((h.perm.map (fun a => a.1)).nodup_iff).2 ?_
 rw [alcs_keys A cs A w h.len]; exact hn
theorem IsW.at_ (h : IsW A cs w p) (hn : (A.map (fun d => d.1)).Nodup) (ha : cs.Pairwise (· < ·)) : ∀ q ∈ A.zip w, q.2 < cs.length ∧ chV p q.1.1 = (cs.getD q.2 0, true) ∧ homeV cs p q.1.1 = (q.2 : Int) := by
 intro q hq
 have h1 := h.lt q.2 (List.of_mem_zip hq).2
 have h2 : (q.1.1, cs.getD q.2 0) ∈ p := h.perm.mem_iff.2 (List.mem_map_of_mem (f := fun q : Dep × Nat => (q.1.1, cs.getD q.2 0)) hq)
 have h3 := chV_mem (h.keys hn) h2
 refine ⟨h1, h3, ?_⟩
 rcases home_spec cs p q.1.1 with ⟨g1, g2⟩ | ⟨k, g1, g2, g3, g4, g5⟩
 · rw [h3] at g2
   have : inC cs (cs.getD q.2 0) = true := by
    unfold inC
    rcases idxF_spec (fun y : Int => decide (cs.getD q.2 0 = y)) cs 0 (Int.le_refl 0) with ⟨e1, e2⟩ | ⟨i, _, e1, _, _⟩
    · have hm : cs.getD q.2 0 ∈ cs := by
       rw [List.getD_eq_getElem?_getD, List.getElem?_eq_getElem h1]; exact List.getElem_mem h1
      have := e2 _ hm
      simp at this
    · rw [e1]; simp
   rw [this] at g2; cases g2
 · have g6 := g5 0
   rw [h3] at g6
   have := asc_at ha g1 h1 g6
   rw [g2, this]
/-- The chute's place, by the flight. -/
def gF (cs : List Int) (p : List All) (f : Flt) : Nat := (homeV cs p f).toNat
theorem IsW.map (h : IsW A cs w p) (hn : (A.map (fun d => d.1)).Nodup) (ha : cs.Pairwise (· < ·)) : w = A.map (fun d => gF cs p d.1) :=
 map_zip (fun d => gF cs p d.1) A w h.len (fun q hq => by
  have := (h.at_ hn ha q hq).2.2
  show (homeV cs p q.1.1).toNat = q.2
  omega)
theorem zip_mem {α β : Type} : ∀ {A : List α} {w : List β}, w.length = A.length → ∀ d ∈ A, ∃ c, (d, c) ∈ A.zip w
 | [], _, _, d, hd => by cases hd
 | a :: A, [], h, d, hd => by simp at h
 | a :: A, c :: w, h, d, hd => by
   rcases List.mem_cons.1 hd with rfl | hd
   · exact ⟨c, List.mem_cons_self⟩
   · obtain ⟨c', hc⟩ := zip_mem (A := A) (w := w) (by simpa using h) d hd
     exact ⟨c', List.mem_cons_of_mem _ hc⟩
theorem IsW.dep (h : IsW A cs w p) (hn : (A.map (fun d => d.1)).Nodup) (ha : cs.Pairwise (· < ·)) : ∀ d ∈ A, gF cs p d.1 < cs.length ∧ chV p d.1 = (cs.getD (gF cs p d.1) 0, true) ∧ homeV cs p d.1 = (gF cs p d.1 : Int) := by
 intro d hd
 obtain ⟨c, hc⟩ := zip_mem h.len d hd
 obtain ⟨h1, h2, h3⟩ := h.at_ hn ha _ hc
 have e : gF cs p d.1 = c := by unfold gF; rw [h3]; rfl
 rw [e]; exact ⟨h1, h2, h3⟩
end
/-- What a repair is. -/
theorem rep_facts {l : List Dep} {cs : List Int} {old : List All} {t : Int} (h : (repV l cs old t).2 = 0) (h0 : argR l cs t = 0) :
 ((fixV l cs old t).map (fun a => a.2)).Nodup ∧ lsV (needV l cs old (fixV l cs old t) t) cs.length st0 < 17 ∧
 IsW (actV l t) cs (pathR (needV l cs old (fixV l cs old t) t) cs.length) (repV l cs old t).1 ∧
 (repV l cs old t).1 = sortAl (alcs (actV l t) cs (pathR (needV l cs old (fixV l cs old t) t) cs.length)) := by
 have hx : ((fixV l cs old t).map (fun a => a.2)).Nodup := by
  apply Classical.byContradiction
  intro hx
  unfold repV at h
  rw [if_neg (by omega), if_pos hx] at h
  simp at h
 rw [rep_of h0 hx] at h ⊢
 by_cases hl : 17 ≤ lsV (needV l cs old (fixV l cs old t) t) cs.length st0
 · rw [if_pos hl] at h; simp at h
 · rw [if_neg hl]
   have hp := (path_ok (l := l) (cs := cs) (old := old) (t := t) (by omega)).1
   have h1 := RlM.path_len hp
   rw [nds_len, ← actV_len] at h1
   have e : allR (needV l cs old (fixV l cs old t) t) cs (pathR (needV l cs old (fixV l cs old t) t) cs.length) = alcs (actV l t) cs (pathR (needV l cs old (fixV l cs old t) t) cs.length) := by
    generalize pathR (needV l cs old (fixV l cs old t) t) cs.length = w
    rw [need_act]
    exact alcs_eq (actV l t) cs _ (fun d => rfl) _ w
   refine ⟨hx, by omega, ⟨h1, RlM.path_lt hp, ?_⟩, by rw [e]⟩
   rw [← e]
   exact sortAl_perm _
theorem open_act {l : List Dep} {t u : Int} (h : t ≤ u) {d : Dep} (hd : d ∈ l) (ho : isOpenV d u = true) : closedV d t = false := by
 have := (isOpenV_iff d u).1 ho
 unfold closedV
 rw [decide_eq_true this.1, decide_eq_false (by omega)]; rfl
end Go.Proofs.YtdeihcabmpcaoaaGreat

/- The law: repairing a repair moves nothing. -/
set_option linter.unusedSimpArgs false
set_option linter.unusedVariables false
set_option maxRecDepth 100000
set_option maxHeartbeats 8000000
namespace Go.Proofs.YtdeihcabmpcaoaaGreat
open Go.Ev

/-- The arguments of the laws are valid. -/
theorem gen_args {x : List Dep} {c : List Int} {t : Int} (h1 : validateV x = 0) (h2 : x.length ≤ 16) (h3 : c.length ≤ 6) (h4 : ∀ y ∈ c, 0 < y) (h5 : ascI c = true) : argR x c t = 0 := by
 have := actN_le x t
 unfold argR
 rw [if_neg (by omega), if_neg (by omega), if_neg, if_neg (by rw [h5]; simp)]
 rw [Bool.not_eq_false, List.all_eq_true]
 intro y hy
 exact decide_eq_true (by have := h4 y hy; omega)
theorem ascI_of_cons : ∀ {a : Int} {c : List Int}, ascI (a :: c) = true → ascI c = true
 | _, [], _ => rfl
 | _, b :: l, h => by
   unfold ascI at h
   simp only [Bool.and_eq_true] at h
   exact h.2
theorem chsV_ok (s : Src) (n : Int) (h : 0 ≤ n) : ((chsV s n).1.length : Int) ≤ n ∧ (∀ y ∈ (chsV s n).1, 0 < y) ∧ ascI (chsV s n).1 = true ∧ (0 ≤ s.2 → 0 ≤ (chsV s n).2.2) := by
 have hb := goMod_bd s.raw (n + 1) (by omega)
 obtain ⟨h1, h2, h3, h4⟩ := chX_ok (goMod s.raw (n + 1)).toNat s.step 0
 refine ⟨?_, fun y hy => (h2 y hy).1, ascI_of_cons h3, fun h => h4 (Src.step_pos s h)⟩
 show ((chX (goMod s.raw (n + 1)).toNat s.step 0).1.length : Int) ≤ n
 rw [h1]; omega
/-- What the repair's errors are. -/
theorem rep_err {l : List Dep} {cs : List Int} {old : List All} {t : Int} (h0 : argR l cs t = 0) : ((repV l cs old t).2 = 0 ∨ (repV l cs old t).2 = 11 ∨ (repV l cs old t).2 = 7) ∧ ((repV l cs old t).2 = 7 ↔ ¬ ((fixV l cs old t).map (fun a => a.2)).Nodup) := by
 unfold repV
 rw [if_neg (by omega)]
 by_cases hx : ((fixV l cs old t).map (fun a => a.2)).Nodup
 · rw [if_neg (by simp only [Classical.not_not]; exact hx)]
   split <;> simp [hx]
 · rw [if_pos hx]; simp [hx]
end Go.Proofs.YtdeihcabmpcaoaaGreat

/- The plain law: what fits, what has moved, for allocations along a way; the trial of all ways. -/
set_option linter.unusedSimpArgs false
set_option linter.unusedVariables false
set_option maxRecDepth 100000
set_option maxHeartbeats 4000000
namespace Go.Proofs.YtdeihcabmpcaoaaGreat
open Go.Ev

theorem getD_at {α : Type} {A : List α} {i : Nat} (h : i < A.length) (z : α) : A.getD i z = A[i] := by
 rw [List.getD_eq_getElem?_getD, List.getElem?_eq_getElem h]; rfl
/-- Allocations along a way are a repair exactly if the way fits. -/
theorem fit_iff {l : List Dep} {cs : List Int} {was p : List All} {t : Int} {w : List Nat} (hv : ∀ d ∈ l, validV d = true) (hn : (l.map (fun d => d.1)).Nodup) (ha : cs.Pairwise (· < ·))
 (h : IsW (actV l t) cs w p) : fitB l cs was p t = true ↔ RlM.Fit cs.length (ndsV l cs was t) w := by
 have hnA := act_flts (l := l) (t := t) hn
 have hdep := h.dep hnA ha
 have hw := h.map hnA ha
 have hasc := nds_asc (cs := cs) (old := was) (t := t) hv
 unfold ndsV at hasc
 have hsym := RlM.fit_sym (n := cs.length) (g := fun d : Dep => gF cs p d.1) hasc (fun d hd => (act_time hv hd).2.1)
 rw [show ndsV l cs was t = (actV l t).map (fun d => toNd (ndA cs was (fixV l cs was t) d)) from rfl, hw, hsym]
 have hlen : p.length = (actV l t).length := by
  rw [h.perm.length_eq]; unfold alcs; rw [List.length_map, List.length_zip, h.len]; omega
 unfold fitB
 rw [decide_eq_true hlen, Bool.true_and, Bool.and_eq_true, List.all_eq_true, List.all_eq_true]
 have hin : ∀ i (hi : i < (actV l t).length), (chV p ((actV l t).getD i zD).1).2 = true ∧ cs.any (fun y : Int => decide ((chV p ((actV l t).getD i zD).1).1 = y)) = true := fun i hi => by
  rw [getD_at hi]
  obtain ⟨k1, k2, _⟩ := hdep _ (List.getElem_mem hi)
  rw [k2]
  refine ⟨rfl, ?_⟩
  rw [List.any_eq_true]
  exact ⟨cs.getD (gF cs p ((actV l t)[i]).1) 0, by rw [getD_at k1]; exact List.getElem_mem k1, by simp⟩
 have hcl : ∀ i j (hi : i < (actV l t).length) (hj : j < (actV l t).length), clsh (actV l t) p j i = true ↔ (gF cs p ((actV l t)[i]).1 = gF cs p ((actV l t)[j]).1 ∧ RlM.Ovl (toNd (ndA cs was (fixV l cs was t) (actV l t)[i])) (toNd (ndA cs was (fixV l cs was t) (actV l t)[j]))) := fun i j hi hj => by
  unfold clsh
  rw [getD_at hi, getD_at hj]
  obtain ⟨k1, k2, _⟩ := hdep _ (List.getElem_mem hi)
  obtain ⟨k3, k4, _⟩ := hdep _ (List.getElem_mem hj)
  rw [k2, k4]
  simp only [Bool.and_eq_true, decide_eq_true_eq]
  constructor
  · rintro ⟨⟨e1, e2⟩, e3⟩
    exact ⟨(asc_at ha k3 k1 e1).symm, e2, e3⟩
  · rintro ⟨e1, e2, e3⟩
    exact ⟨⟨by rw [e1], e2⟩, e3⟩
 constructor
 · rintro ⟨h1, h2⟩
   refine ⟨fun d hd => ⟨(hdep d hd).1, fun hf => ?_⟩, ?_⟩
   · obtain ⟨_, _, _, _, m, k, g1, g2, g3⟩ := fix_home (show (chV (fixV l cs was t) d.1).2 = true from hf)
     have e1 := of_decide_eq_true (h2 _ m)
     obtain ⟨k1, k2, _⟩ := hdep d hd
     have e1 : (chV p d.1).1 = (chV was d.1).1 := e1
     rw [k2] at e1
     have := asc_at ha k1 g1 (e1.trans (g3 0).symm)
     show (gF cs p d.1 : Int) = homeV cs was d.1
     rw [g2, this]
   · rw [List.pairwise_iff_getElem]
     intro i j hi hj hij e o
     have h3 := h1 j (List.mem_range.2 hj)
     unfold fitI at h3
     simp only [Bool.and_eq_true, List.all_eq_true] at h3
     have h4 := h3.2 i (List.mem_range.2 hij)
     rw [(hcl i j hi hj).2 ⟨e, o⟩] at h4
     cases h4
 · rintro ⟨h1, h2⟩
   refine ⟨fun j hj => ?_, fun a hm => ?_⟩
   · have hj := List.mem_range.1 hj
     unfold fitI
     rw [(hin j hj).1, (hin j hj).2, Bool.true_and, Bool.true_and, List.all_eq_true]
     intro i hi
     have hi := List.mem_range.1 hi
     cases hc : clsh (actV l t) p j i with
     | false => rfl
     | true =>
       obtain ⟨e, o⟩ := (hcl i j (by omega) hj).1 hc
       exact absurd o (List.pairwise_iff_getElem.1 h2 i j (by omega) hj hi e)
   · obtain ⟨d0, hd, hb, rfl⟩ := fix_mem hm
     have hb2 := hb
     unfold fixB at hb
     simp only [Bool.and_eq_true] at hb
     have hA := mem_act hd (open_act (Int.le_refl t) hd hb.1.2)
     have hf : (chV (fixV l cs was t) d0.1).2 = true := by rw [chV_mem (fix_keys hn) (mem_fix hd hb2)]
     have h3 := (h1 _ hA).2 hf
     obtain ⟨k1, k2, _⟩ := hdep _ hA
     obtain ⟨_, _, _, _, _, k, g1, g2, g3⟩ := fix_home hf
     have h3 : (gF cs p d0.1 : Int) = homeV cs was d0.1 := h3
     have e : gF cs p d0.1 = k := by omega
     have k2 : chV p d0.1 = (cs.getD (gF cs p d0.1) 0, true) := k2
     refine decide_eq_true ?_
     show (chV p d0.1).1 = (chV was d0.1).1
     rw [k2, e]; exact g3 0
end Go.Proofs.YtdeihcabmpcaoaaGreat

/- The contracts of the functions that the statements about the makeup reach: Check. -/
set_option linter.unusedSimpArgs false
set_option linter.unusedVariables false
set_option maxRecDepth 100000
set_option maxHeartbeats 4000000
namespace Go.Proofs.YtdeihcabmpcaoaaGreat
open Go.Ev

def depAt (l : List Dep) (i : Int) : Dep := l.getD i.toNat ((ByteArray.empty, 0, ByteArray.empty, 0), ByteArray.empty, 0, 0, 0, 0, 0)
def isPlanned (l : List Dep) (f : Flt) : Bool := decide (0 ≤ findV l f) && decide ((depAt l (findV l f)).state = 0)
def proofV (l : List Dep) (cs : List Int) (p : List All) (t : Int) (q : List Flt) : Int :=
 if (p.length : Int) > 0 then 4 else if ascF q = false then 9 else if q.all (isPlanned l) = false then 6 else if q.all (fun f => isOpenV (depAt l (findV l f)) t) = false then 7 else if (q.length : Int) ≤ cs.length then 8 else 0
theorem find_bd (l : List Dep) (f : Flt) : -1 ≤ findV l f ∧ findV l f < l.length := by
 unfold findV
 rcases idxF_spec (fun d : Dep => decide (d.1 = f)) l 0 (Int.le_refl _) with ⟨h, _⟩ | ⟨i, hi, h, _⟩ <;> omega
def con45 : Con := { ps := [.d false (.sl yDP), .d false (.sl (.int .i64)), .d true (.pair (.sl (.pair yFL (.int .i64))) (.pair (.int .i64) (.sl yFL)))], rs := [.d false (.int .i64)], pre := fun _ => True, out := fun (x : List Dep × List Int × Mk × Unit) => (proofV x.1 x.2.1 x.2.2.1.1 x.2.2.1.2.1 x.2.2.1.2.2, ()), nw := id }
theorem c45 : CtrOk Tryz.prog 45 con45.ctr :=
 con_sound (G := ⟨[(46, con46.ctr), (53, con53.ctr), (69, con69.ctr)], [], [], [], []⟩) tab_ok (EnvOk.cons c46 has46 (EnvOk.cons c53 has53 (EnvOk.cons c69 has69 EnvOk.nil))) rfl Tryz.func45 rfl con45 18590925782270905191 (by kernel_rfl) (by decide) (by decide) rfl (by decide) rfl (by
  rintro ⟨(l : List Dep), (cs : List Int), ⟨(p : List All), (t : Int), (q : List Flt)⟩, _⟩ hpre hwf X hT hG hk hK
  (simp -implicitDefEqProofs (maxSteps := 4000000) only [go_sem, Bool.not_eq_true', Bool.not_eq_false', Bool.or_eq_true, Bool.or_eq_false_iff, Bool.and_eq_true, Bool.and_eq_false_iff, decide_eq_true_eq, decide_eq_false_iff_not, Classical.not_not, not_or, maxLen, con45, con46, con53, con69, hT, hG, hk, hK, Tryz.results45] at hwf ⊢); (try simp (disch := decide +kernel) only [drawn, true_and, and_true])
  (repeat' (with_reducible (first | refine And.intro ?_ ?_ | intro _))) <;> (try (first | with_reducible (first | done | assumption | omega | contradiction) | decide))
  · have h : (p.length : Int) > 0 := by assumption
    unfold proofV; rw [if_pos h]
  · have h0 : ¬ (p.length : Int) > 0 := by assumption
    have h : ascF q = false := by assumption
    unfold proofV; rw [if_neg h0, if_pos h]
  · have h0 : ¬ (p.length : Int) > 0 := by assumption
    have h1 : ascF q = true := by assumption
    have e0 : proofV l cs p t q = if q.all (isPlanned l) = false then 6 else if q.all (fun f => isOpenV (depAt l (findV l f)) t) = false then 7 else if (q.length : Int) ≤ cs.length then 8 else 0 := by
     unfold proofV; rw [if_neg h0, if_neg (by rw [h1]; simp)]
    refine evk_loop ⟨{ i : Nat // i ≤ q.length ∧ (q.take i).all (isPlanned l) = true }, 1000,
     fun i => [(0, .one (.sl yDP l false)), (1, .one (.sl (.int .i64) cs false)), (5, .one (.loc 70 0)), (21, .one (.sl yFL q false)), (22, .one (.int .i64 q.length)), (23, .one (.int .i64 i.1))],
     fun _ => [(70, .cells 30 (expl (.pair (.sl (.pair yFL (.int .i64))) (.pair (.int .i64) (.sl yFL))) (p, t, q)))], fun i => q.length - i.1⟩ ⟨0, by simp, by simp⟩ ?_ ?_
    · simp only [go_sem]
      first
       | rfl
       | skip
    · rintro ⟨i, (hi : i ≤ q.length), (hx : (q.take i).all (isPlanned l) = true)⟩
      (simp -implicitDefEqProofs (maxSteps := 4000000) only [go_sem, Bool.not_eq_true', Bool.not_eq_false', Bool.or_eq_true, Bool.or_eq_false_iff, Bool.and_eq_true, Bool.and_eq_false_iff, decide_eq_true_eq, decide_eq_false_iff_not, Classical.not_not, not_or, maxLen, con45, con46, con53, con69, hT, hG, hk, hK, Tryz.results45]); (try simp (disch := decide +kernel) only [drawn, true_and, and_true])
      refine ⟨fun hlt => ?_, fun hge => ?_⟩
      · have hi' : i < q.length := by omega
        have ek : ∀ z, q.getD (i : Int).toNat z = q[i] := fun z => by simp [hi']
        simp only [ek]
        have hb := find_bd l q[i]
        have hpl : isPlanned l q[i] = (decide (0 ≤ findV l q[i]) && decide ((depAt l (findV l q[i])).state = 0)) := rfl
        have hst : isPlanned l q[i] = true → (q.take (i + 1)).all (isPlanned l) = true := fun h => by
         rw [List.take_succ_eq_append_getElem hi', List.all_append, hx, List.all_cons, h]; rfl
        (repeat' (with_reducible (first | refine And.intro ?_ ?_ | intro _))) <;> (try (first | with_reducible (first | done | assumption | omega | contradiction) | decide))
        · have h : findV l q[i] < 0 ∨ ¬ (depAt l (findV l q[i])).state = 0 := by assumption
          have hf : isPlanned l q[i] = false := by
           rw [hpl]
           rcases h with h | h
           · rw [decide_eq_false (by omega)]; rfl
           · rw [decide_eq_false h, Bool.and_false]
          rw [e0, if_pos]
          rw [List.all_eq_false]
          exact ⟨q[i], List.getElem_mem hi', by rw [hf]; simp⟩
        · have h : ¬ findV l q[i] < 0 ∧ (depAt l (findV l q[i])).state = 0 := by assumption
          refine fin_lp ⟨i + 1, by omega, hst (by rw [hpl, decide_eq_true (by omega), decide_eq_true h.2]; rfl)⟩ (by simp only [go_sem]; first | rfl | ((repeat' apply And.intro) <;> first | rfl | assumption | omega)) (by dsimp only; omega)
      · rw [List.take_of_length_le (by omega)] at hx
        have e1 : proofV l cs p t q = if q.all (fun f => isOpenV (depAt l (findV l f)) t) = false then 7 else if (q.length : Int) ≤ cs.length then 8 else 0 := by
         rw [e0, if_neg (by rw [hx]; simp)]
        (repeat' (with_reducible (first | refine And.intro ?_ ?_ | intro _))) <;> (try (first | with_reducible (first | done | assumption | omega | contradiction) | decide))
        refine evk_loop ⟨{ i : Nat // i ≤ q.length ∧ (q.take i).all (fun f => isOpenV (depAt l (findV l f)) t) = true }, 2000,
         fun i => [(0, .one (.sl yDP l false)), (1, .one (.sl (.int .i64) cs false)), (5, .one (.loc 70 0)), (42, .one (.sl yFL q false)), (43, .one (.int .i64 q.length)), (44, .one (.int .i64 i.1))],
         fun _ => [(70, .cells 30 (expl (.pair (.sl (.pair yFL (.int .i64))) (.pair (.int .i64) (.sl yFL))) (p, t, q)))], fun i => q.length - i.1⟩ ⟨0, by simp, by simp⟩ ?_ ?_
        · simp only [go_sem]
          first
           | rfl
           | skip
        · rintro ⟨i, (hi : i ≤ q.length), (hx2 : (q.take i).all (fun f => isOpenV (depAt l (findV l f)) t) = true)⟩
          (simp -implicitDefEqProofs (maxSteps := 4000000) only [go_sem, Bool.not_eq_true', Bool.not_eq_false', Bool.or_eq_true, Bool.or_eq_false_iff, Bool.and_eq_true, Bool.and_eq_false_iff, decide_eq_true_eq, decide_eq_false_iff_not, Classical.not_not, not_or, maxLen, con45, con46, con53, con69, hT, hG, hk, hK, Tryz.results45]); (try simp (disch := decide +kernel) only [drawn, true_and, and_true])
          refine ⟨fun hlt => ?_, fun hge => ?_⟩
          · have hi' : i < q.length := by omega
            have ek : ∀ z, q.getD (i : Int).toNat z = q[i] := fun z => by simp [hi']
            simp only [ek]
            have hb := find_bd l q[i]
            have hpl : isPlanned l q[i] = true := List.all_eq_true.1 hx _ (List.getElem_mem hi')
            unfold isPlanned at hpl
            simp only [Bool.and_eq_true, decide_eq_true_eq] at hpl
            have hst : isOpenV (depAt l (findV l q[i])) t = true → (q.take (i + 1)).all (fun f => isOpenV (depAt l (findV l f)) t) = true := fun h => by
             rw [List.take_succ_eq_append_getElem hi', List.all_append, hx2, List.all_cons, h]; rfl
            (repeat' (with_reducible (first | refine And.intro ?_ ?_ | intro _))) <;> (try (first | with_reducible (first | done | assumption | omega | contradiction) | decide))
            · have h : isOpenV (depAt l (findV l q[i])) t = false := by assumption
              rw [e1, if_pos]
              rw [List.all_eq_false]
              exact ⟨q[i], List.getElem_mem hi', by rw [h]; simp⟩
            · have h : isOpenV (depAt l (findV l q[i])) t = true := by assumption
              refine fin_lp ⟨i + 1, by omega, hst h⟩ (by simp only [go_sem]; first | rfl | ((repeat' apply And.intro) <;> first | rfl | assumption | omega)) (by dsimp only; omega)
          · rw [List.take_of_length_le (by omega)] at hx2
            have e2 : proofV l cs p t q = if (q.length : Int) ≤ cs.length then 8 else 0 := by
             rw [e1, if_neg (by rw [hx2]; simp)]
            (repeat' (with_reducible (first | refine And.intro ?_ ?_ | intro _))) <;> (try (first | with_reducible (first | done | assumption | omega | contradiction) | decide))
            all_goals rename_i h
            all_goals first
             | (rw [e2, if_pos h]; done)
             | (rw [e2, if_neg h]; done))
def clashAt (p : List All) (a : List Dep) (i k : Nat) : Bool :=
 decide ((p.getD i ((ByteArray.empty, 0, ByteArray.empty, 0), 0)).2 = (p.getD k ((ByteArray.empty, 0, ByteArray.empty, 0), 0)).2) && overV (depAt a i) (depAt a k)
def noClash (p : List All) (a : List Dep) (i : Nat) : Bool := (List.range i).all fun k => !clashAt p a i k
def planC (l : List Dep) (cs : List Int) (p : List All) : Int :=
 if ascF (keysOf p) = false then 9 else if ¬ keysOf p = (planV l).map (fun d => d.1) then 6 else if p.all (fun a => decide (idxF (fun y : Int => decide (a.2 = y)) cs 0 ≥ 0)) = false then 1 else if (List.range (planV l).length).all (noClash p (planV l)) = false then 7 else 0
def checkV (l : List Dep) (cs : List Int) (p : List All) (t : Int) (q : List Flt) : Int :=
 if ¬ argsV l cs = 0 then argsV l cs else if (q.length : Int) > 0 then proofV l cs p t q else if ¬ t = 0 then 4 else planC l cs p
def con19 : Con := { ps := [.d false (.sl yDP), .d false (.sl (.int .i64)), .d true (.pair (.sl (.pair yFL (.int .i64))) (.pair (.int .i64) (.sl yFL)))], rs := [.d false (.int .i64)], pre := fun (x : List Dep × List Int × Mk × Unit) => x.1.length ≤ 1048576 ∧ x.2.2.1.1.length ≤ 1048576, out := fun (x : List Dep × List Int × Mk × Unit) => (checkV x.1 x.2.1 x.2.2.1.1 x.2.2.1.2.1 x.2.2.1.2.2, ()), nw := id }
theorem c19 : CtrOk Tryz.prog 19 con19.ctr :=
 con_sound (G := ⟨[(22, con22.ctr), (25, con25.ctr), (45, con45.ctr), (46, con46.ctr), (47, con47.ctr), (48, con48.ctr), (49, con49.ctr)], [], [], [], []⟩) tab_ok (EnvOk.cons c22 has22 (EnvOk.cons c25 has25 (EnvOk.cons c45 has45 (EnvOk.cons c46 has46 (EnvOk.cons c47 has47 (EnvOk.cons c48 has48 (EnvOk.cons c49 has49 EnvOk.nil))))))) rfl Tryz.func19 rfl con19 83076754341373693128188293101891047 (by kernel_rfl) (by decide) (by decide) rfl (by decide) rfl (by
  rintro ⟨(l : List Dep), (cs : List Int), ⟨(p : List All), (t : Int), (q : List Flt)⟩, _⟩ hpre hwf X hT hG hk hK
  obtain ⟨hl, hpl⟩ : l.length ≤ 1048576 ∧ p.length ≤ 1048576 := hpre
  (simp -implicitDefEqProofs (maxSteps := 4000000) only [go_sem, Bool.not_eq_true', Bool.not_eq_false', Bool.or_eq_true, Bool.or_eq_false_iff, Bool.and_eq_true, Bool.and_eq_false_iff, decide_eq_true_eq, decide_eq_false_iff_not, Classical.not_not, not_or, maxLen, con19, con22, con25, con45, con46, con47, con48, con49, hT, hG, hk, hK, Tryz.results19] at hwf ⊢); (try simp (disch := decide +kernel) only [drawn, true_and, and_true])
  (repeat' (with_reducible (first | refine And.intro ?_ ?_ | intro _))) <;> (try (first | with_reducible (first | done | assumption | omega | contradiction) | decide))
  · have h : ¬ argsV l cs = 0 := by assumption
    unfold checkV; rw [if_pos h]
  · have h0 : argsV l cs = 0 := by assumption
    have h : (q.length : Int) > 0 := by assumption
    unfold checkV; rw [if_neg (by omega), if_pos h]
  · have h0 : argsV l cs = 0 := by assumption
    have h1 : ¬ (q.length : Int) > 0 := by assumption
    have h : ¬ t = 0 := by assumption
    unfold checkV; rw [if_neg (by omega), if_neg h1, if_pos h]
  · have h0 : argsV l cs = 0 := by assumption
    have h1 : ¬ (q.length : Int) > 0 := by assumption
    have h2 : t = 0 := by assumption
    have ev : checkV l cs p t q = planC l cs p := by
     unfold checkV; rw [if_neg (by omega), if_neg h1, if_neg (by omega)]
    have hA : (planV l).length ≤ 1048576 := Nat.le_trans (planV_len l) hl
    refine evk_loop ⟨{ i : Nat // i ≤ p.length }, 1000,
     fun i => [(0, .one (.sl yDP l false)), (1, .one (.sl (.int .i64) cs false)), (5, .one (.loc 70 0)), (8, .one (.row 64)), (37, .one (.sl (.pair yFL (.int .i64)) p false)), (38, .one (.int .i64 p.length)), (39, .one (.int .i64 i.1))],
     fun i => [(70, .cells 30 (expl (.pair (.sl (.pair yFL (.int .i64))) (.pair (.int .i64) (.sl yFL))) (p, t, q))), (64, .row 44 yFL (keysOf (p.take i.1)))], fun i => p.length - i.1⟩ ⟨0, by simp⟩ ?_ ?_
    · simp only [go_sem]
      exact ⟨rfl, rfl⟩
    · rintro ⟨i, (hi : i ≤ p.length)⟩
      (simp -implicitDefEqProofs (maxSteps := 4000000) only [go_sem, Bool.not_eq_true', Bool.not_eq_false', Bool.or_eq_true, Bool.or_eq_false_iff, Bool.and_eq_true, Bool.and_eq_false_iff, decide_eq_true_eq, decide_eq_false_iff_not, Classical.not_not, not_or, maxLen, con19, con22, con25, con45, con46, con47, con48, con49, hT, hG, hk, hK, Tryz.results19]); (try simp (disch := decide +kernel) only [drawn, true_and, and_true])
      refine ⟨fun hlt => ?_, fun hge => ?_⟩
      · have hi' : i < p.length := by omega
        have ek : ∀ z, p.getD (i : Int).toNat z = p[i] := fun z => by simp [hi']
        simp only [ek]
        have hst : keysOf (p.take (i + 1)) = keysOf (p.take i) ++ [p[i].1] := by
         unfold keysOf
         rw [List.take_succ_eq_append_getElem hi', List.map_append]; rfl
        have hkl : (keysOf (p.take i)).length = i := by
         unfold keysOf
         rw [List.length_map, List.length_take]; omega
        (repeat' (with_reducible (first | refine And.intro ?_ ?_ | intro _))) <;> (try (first | with_reducible (first | done | assumption | omega | contradiction) | decide))
        refine fin_lp ⟨i + 1, by omega⟩ ?_ ?_
        · simp only [go_sem]
          rw [hst]
          first
           | exact ⟨rfl, rfl⟩
           | rfl
        · dsimp only; omega
      · rw [List.take_of_length_le (by omega)]
        (repeat' (with_reducible (first | refine And.intro ?_ ?_ | intro _))) <;> (try (first | with_reducible (first | done | assumption | omega | contradiction) | decide))
        · have h : ascF (keysOf p) = false := by assumption
          rw [ev]; unfold planC; rw [if_pos h]
        · have h3 : ascF (keysOf p) = true := by assumption
          have e1 : planC l cs p = if ¬ keysOf p = (planV l).map (fun d => d.1) then 6 else if p.all (fun a => decide (idxF (fun y : Int => decide (a.2 = y)) cs 0 ≥ 0)) = false then 1 else if (List.range (planV l).length).all (noClash p (planV l)) = false then 7 else 0 := by
           unfold planC; rw [if_neg (by rw [h3]; simp)]
          generalize hAe : planV l = A at *
          refine evk_loop ⟨{ i : Nat // i ≤ A.length }, 2000,
           fun i => [(0, .one (.sl yDP l false)), (1, .one (.sl (.int .i64) cs false)), (5, .one (.loc 70 0)), (8, .one (.row 64)), (11, .one (.row 65)), (53, .one (.row 66)), (54, .one (.int .i64 A.length)), (55, .one (.int .i64 i.1))],
           fun i => [(70, .cells 30 (expl (.pair (.sl (.pair yFL (.int .i64))) (.pair (.int .i64) (.sl yFL))) (p, t, q))), (64, .row 44 yFL (keysOf p)), (65, .row 44 yFL ((A.take i.1).map (fun d => d.1))), (66, .row 52 yDP A)], fun i => A.length - i.1⟩ ⟨0, by simp⟩ ?_ ?_
          · simp only [go_sem]
            rfl
          · rintro ⟨i, (hi : i ≤ A.length)⟩
            (simp -implicitDefEqProofs (maxSteps := 4000000) only [go_sem, Bool.not_eq_true', Bool.not_eq_false', Bool.or_eq_true, Bool.or_eq_false_iff, Bool.and_eq_true, Bool.and_eq_false_iff, decide_eq_true_eq, decide_eq_false_iff_not, Classical.not_not, not_or, maxLen, con19, con22, con25, con45, con46, con47, con48, con49, hT, hG, hk, hK, Tryz.results19]); (try simp (disch := decide +kernel) only [drawn, true_and, and_true])
            refine ⟨fun hlt => ?_, fun hge => ?_⟩
            · have hi' : i < A.length := by omega
              have ek : ∀ z, A.getD (i : Int).toNat z = A[i] := fun z => by simp [hi']
              simp only [ek]
              have hst : (A.take (i + 1)).map (fun d => d.1) = (A.take i).map (fun d => d.1) ++ [A[i].1] := by
               rw [List.take_succ_eq_append_getElem hi', List.map_append]; rfl
              have hkl : ((A.take i).map (fun d => d.1)).length = i := by
               rw [List.length_map, List.length_take]; omega
              (repeat' (with_reducible (first | refine And.intro ?_ ?_ | intro _))) <;> (try (first | with_reducible (first | done | assumption | omega | contradiction) | decide))
              refine fin_lp ⟨i + 1, by omega⟩ ?_ ?_
              · simp only [go_sem]
                rw [hst]
                first
                 | exact ⟨rfl, rfl⟩
                 | rfl
              · dsimp only; omega
            · rw [List.take_of_length_le (by omega)]
              (repeat' (with_reducible (first | refine And.intro ?_ ?_ | intro _))) <;> (try (first | with_reducible (first | done | assumption | omega | contradiction) | decide))
              · have h : ¬ keysOf p = A.map (fun d => d.1) := by assumption
                rw [ev, e1, if_pos h]
              · have h4 : keysOf p = A.map (fun d => d.1) := by assumption
                have e2 : planC l cs p = if p.all (fun a => decide (idxF (fun y : Int => decide (a.2 = y)) cs 0 ≥ 0)) = false then 1 else if (List.range A.length).all (noClash p A) = false then 7 else 0 := by
                 rw [e1, if_neg (fun k => k h4)]
                have hpA : p.length = A.length := by
                 have := congrArg List.length h4
                 unfold keysOf at this
                 rwa [List.length_map, List.length_map] at this
                refine evk_loop ⟨{ i : Nat // i ≤ p.length ∧ (p.take i).all (fun a => decide (idxF (fun y : Int => decide (a.2 = y)) cs 0 ≥ 0)) = true }, 3000,
                 fun i => [(0, .one (.sl yDP l false)), (1, .one (.sl (.int .i64) cs false)), (5, .one (.loc 70 0)), (70, .one (.sl (.pair yFL (.int .i64)) p false)), (71, .one (.int .i64 p.length)), (72, .one (.int .i64 i.1))],
                 fun i => [(70, .cells 30 (expl (.pair (.sl (.pair yFL (.int .i64))) (.pair (.int .i64) (.sl yFL))) (p, t, q)))], fun i => p.length - i.1⟩ ⟨0, by simp, by simp⟩ ?_ ?_
                · simp only [go_sem]
                  rfl
                · rintro ⟨i, (hi : i ≤ p.length), (hx : (p.take i).all (fun a => decide (idxF (fun y : Int => decide (a.2 = y)) cs 0 ≥ 0)) = true)⟩
                  (simp -implicitDefEqProofs (maxSteps := 4000000) only [go_sem, Bool.not_eq_true', Bool.not_eq_false', Bool.or_eq_true, Bool.or_eq_false_iff, Bool.and_eq_true, Bool.and_eq_false_iff, decide_eq_true_eq, decide_eq_false_iff_not, Classical.not_not, not_or, maxLen, con19, con22, con25, con45, con46, con47, con48, con49, hT, hG, hk, hK, Tryz.results19]); (try simp (disch := decide +kernel) only [drawn, true_and, and_true])
                  refine ⟨fun hlt => ?_, fun hge => ?_⟩
                  · have hi' : i < p.length := by omega
                    have ek : ∀ z, p.getD (i : Int).toNat z = p[i] := fun z => by simp [hi']
                    simp only [ek]
                    (repeat' (with_reducible (first | refine And.intro ?_ ?_ | intro _))) <;> (try (first | with_reducible (first | done | assumption | omega | contradiction) | decide))
                    · rename_i h
                      rw [ev, e2, if_pos]
                      rw [List.all_eq_false]
                      exact ⟨p[i], List.getElem_mem hi', by rw [decide_eq_true_eq]; exact h⟩
                    · rename_i h
                      refine fin_lp ⟨i + 1, by omega, by rw [List.take_succ_eq_append_getElem hi', List.all_append, hx, List.all_cons, decide_eq_true h]; rfl⟩ (by simp only [go_sem]; first | rfl | ((repeat' apply And.intro) <;> first | rfl | assumption | omega)) (by dsimp only; omega)
                  · rw [List.take_of_length_le (by omega)] at hx
                    have e3 : planC l cs p = if (List.range A.length).all (noClash p A) = false then 7 else 0 := by
                     rw [e2, if_neg (by rw [hx]; simp)]
                    rw [hAe]
                    (repeat' (with_reducible (first | refine And.intro ?_ ?_ | intro _))) <;> (try (first | with_reducible (first | done | assumption | omega | contradiction) | decide))
                    refine evk_loop ⟨{ i : Nat // i ≤ A.length ∧ (List.range i).all (noClash p A) = true }, 4000,
                     fun i => [(5, .one (.loc 70 0)), (16, .one (.row 66)), (85, .one (.int .i64 A.length)), (86, .one (.int .i64 i.1))],
                     fun i => [(70, .cells 30 (expl (.pair (.sl (.pair yFL (.int .i64))) (.pair (.int .i64) (.sl yFL))) (p, t, q))), (66, .row 52 yDP A)], fun i => A.length - i.1⟩ ⟨0, by simp, by simp⟩ ?_ ?_
                    · simp only [go_sem]
                      rfl
                    · rintro ⟨i, (hi : i ≤ A.length), (hy : (List.range i).all (noClash p A) = true)⟩
                      (simp -implicitDefEqProofs (maxSteps := 4000000) only [go_sem, Bool.not_eq_true', Bool.not_eq_false', Bool.or_eq_true, Bool.or_eq_false_iff, Bool.and_eq_true, Bool.and_eq_false_iff, decide_eq_true_eq, decide_eq_false_iff_not, Classical.not_not, not_or, maxLen, con19, con22, con25, con45, con46, con47, con48, con49, hT, hG, hk, hK, Tryz.results19]); (try simp (disch := decide +kernel) only [drawn, true_and, and_true])
                      refine ⟨fun hlt => ?_, fun hge => ?_⟩
                      · have hi' : i < A.length := by omega
                        (repeat' (with_reducible (first | refine And.intro ?_ ?_ | intro _))) <;> (try (first | with_reducible (first | done | assumption | omega | contradiction) | decide))
                        refine evk_loop ⟨{ k : Nat // k ≤ i ∧ (List.range k).all (fun k => !clashAt p A i k) = true }, 5000,
                         fun k => [(5, .one (.loc 70 0)), (16, .one (.row 66)), (17, .one (.int .i64 i)), (85, .one (.int .i64 A.length)), (86, .one (.int .i64 i)), (89, .one (.int .i64 i)), (90, .one (.int .i64 k.1))],
                         fun k => [(70, .cells 30 (expl (.pair (.sl (.pair yFL (.int .i64))) (.pair (.int .i64) (.sl yFL))) (p, t, q))), (66, .row 52 yDP A)], fun k => i - k.1⟩ ⟨0, by simp, by simp⟩ ?_ ?_
                        · simp only [go_sem]
                          rfl
                        · rintro ⟨k, (hk2 : k ≤ i), (hz : (List.range k).all (fun k => !clashAt p A i k) = true)⟩
                          (simp -implicitDefEqProofs (maxSteps := 4000000) only [go_sem, Bool.not_eq_true', Bool.not_eq_false', Bool.or_eq_true, Bool.or_eq_false_iff, Bool.and_eq_true, Bool.and_eq_false_iff, decide_eq_true_eq, decide_eq_false_iff_not, Classical.not_not, not_or, maxLen, con19, con22, con25, con45, con46, con47, con48, con49, hT, hG, hk, hK, Tryz.results19]); (try simp (disch := decide +kernel) only [drawn, true_and, and_true])
                          refine ⟨fun hlt2 => ?_, fun hge2 => ?_⟩
                          · have ei : (i : Int).toNat = i := by omega
                            have ek2 : (k : Int).toNat = k := by omega
                            simp only [ei, ek2]
                            have hcl : clashAt p A i k = (decide ((p.getD i ((ByteArray.empty, 0, ByteArray.empty, 0), 0)).2 = (p.getD k ((ByteArray.empty, 0, ByteArray.empty, 0), 0)).2) && overV (A.getD i ((ByteArray.empty, 0, ByteArray.empty, 0), ByteArray.empty, 0, 0, 0, 0, 0)) (A.getD k ((ByteArray.empty, 0, ByteArray.empty, 0), ByteArray.empty, 0, 0, 0, 0, 0))) := rfl
                            generalize p.getD i ((ByteArray.empty, 0, ByteArray.empty, 0), 0) = u1 at hcl ⊢
                            generalize p.getD k ((ByteArray.empty, 0, ByteArray.empty, 0), 0) = u2 at hcl ⊢
                            generalize A.getD i ((ByteArray.empty, 0, ByteArray.empty, 0), ByteArray.empty, 0, 0, 0, 0, 0) = u3 at hcl ⊢
                            generalize A.getD k ((ByteArray.empty, 0, ByteArray.empty, 0), ByteArray.empty, 0, 0, 0, 0, 0) = u4 at hcl ⊢
                            (repeat' (with_reducible (first | refine And.intro ?_ ?_ | intro _))) <;> (try (first | with_reducible (first | done | assumption | omega | contradiction) | decide))
                            · have h : u1.2 = u2.2 ∧ overV u3 u4 = true := by assumption
                              have hc : clashAt p A i k = true := by rw [hcl, decide_eq_true h.1, h.2]; rfl
                              rw [ev, e3, if_pos]
                              rw [List.all_eq_false]
                              refine ⟨i, List.mem_range.2 hi', ?_⟩
                              unfold noClash
                              rw [Bool.not_eq_true, List.all_eq_false]
                              exact ⟨k, List.mem_range.2 (by omega), by rw [hc]; simp⟩
                            · have h : ¬ u1.2 = u2.2 ∨ overV u3 u4 = false := by assumption
                              have hc : clashAt p A i k = false := by
                               rw [hcl]
                               rcases h with h | h
                               · rw [decide_eq_false h]; rfl
                               · rw [h, Bool.and_false]
                              refine fin_lp ⟨k + 1, by omega, by rw [List.range_succ, List.all_append, hz, List.all_cons, hc]; rfl⟩ (by simp only [go_sem]; first | rfl | ((repeat' apply And.intro) <;> first | rfl | assumption | omega)) (by dsimp only; omega)
                          · have hki : k = i := by omega
                            subst hki
                            (repeat' (with_reducible (first | refine And.intro ?_ ?_ | intro _))) <;> (try (first | with_reducible (first | done | assumption | omega | contradiction) | decide))
                            refine fin_lp ⟨k + 1, by omega, by rw [List.range_succ, List.all_append, hy, List.all_cons]; unfold noClash; rw [hz]; rfl⟩ (by simp only [go_sem]; first | rfl | ((repeat' apply And.intro) <;> first | rfl | assumption | omega)) (by dsimp only; omega)
                      · have hAl : i = A.length := by omega
                        subst hAl
                        (repeat' (with_reducible (first | refine And.intro ?_ ?_ | intro _))) <;> (try (first | with_reducible (first | done | assumption | omega | contradiction) | decide))
                        rw [ev, e3, if_neg (by rw [hy]; simp)])
end Go.Proofs.YtdeihcabmpcaoaaGreat

/- A part of the proof. -/
/- The plain law: Check accepts what Plan returns. -/
set_option linter.unusedSimpArgs false
set_option linter.unusedVariables false
set_option maxRecDepth 100000
set_option maxHeartbeats 4000000
namespace Go.Proofs.YtdeihcabmpcaoaaGreat
open Go.Ev

theorem ascF_of : ∀ {q : List Flt}, q.Pairwise (fun a b => fltC a b < 0) → ascF q = true
 | [], _ => rfl
 | [_], _ => rfl
 | a :: b :: l, h => by
   obtain ⟨h1, h2⟩ := List.pairwise_cons.1 h
   show (decide (fltC a b < 0) && ascF (b :: l)) = true
   rw [decide_eq_true (h1 b (by simp)), ascF_of h2]
   rfl
/-- One departure with a flight. -/
def One (P : List Dep) : Prop := ∀ d ∈ P, ∀ e ∈ P, d.1 = e.1 → d = e
theorem one_of {P : List Dep} (h : P.Pairwise (fun a b => fltC a.1 b.1 < 0)) : One P := by
 intro d hd e he h1
 induction P with
 | nil => cases hd
 | cons c P ih =>
   obtain ⟨g1, g2⟩ := List.pairwise_cons.1 h
   have hz : ∀ x : Flt, ¬ fltC x x < 0 := fun x => by have := (fltC_cmp.eq x x).2 rfl; omega
   rcases List.mem_cons.1 hd with h2 | h2 <;> rcases List.mem_cons.1 he with h3 | h3
   · rw [h2, h3]
   · have := g1 e h3; rw [← h2, h1] at this; exact absurd this (hz _)
   · have := g1 d h2; rw [← h3, h1] at this; exact absurd this (hz _)
   · exact ih g2 h2 h3
theorem idxF_mem {c : Int} : ∀ {cs : List Int} {k : Int}, 0 ≤ k → c ∈ cs → idxF (fun y : Int => decide (c = y)) cs k ≥ 0
 | y :: cs, k, hk, h => by
   unfold idxF
   split
   · omega
   · rename_i hn
     rcases List.mem_cons.1 h with rfl | h
     · exact absurd (decide_eq_true rfl) hn
     · exact idxF_mem (by omega) h
/-- No two at one chute at one time. -/
def Free (P : List Dep) (a b : All) : Prop := a.2 = b.2 → ∀ d ∈ P, ∀ e ∈ P, d.1 = a.1 → e.1 = b.1 → overV d e = false ∧ overV e d = false
theorem keys_eq {l : List Dep} {G : List All} (hp : l.Pairwise (fun a b => fltC a.1 b.1 < 0)) (h : (keysOf G).Perm (l.map (fun d => d.1))) : keysOf (sortAl G) = l.map (fun d => d.1) := by
 have h1 : (keysOf (sortAl G)).Perm (l.map (fun d => d.1)) := ((sortAl_perm G).map _).trans h
 refine List.Perm.eq_of_pairwise (le := fun a b => fltC a b ≤ 0) (fun a b _ _ u v => ?_) ?_ ?_ h1
 · have := fltC_cmp.anti a b
   have e : fltC a b = 0 := by omega
   exact (fltC_cmp.eq _ _).1 e
 · unfold keysOf
   rw [List.pairwise_map]
   exact sortAl_sorted G
 · rw [List.pairwise_map]
   exact hp.imp (fun h => by omega)
end Go.Proofs.YtdeihcabmpcaoaaGreat
