/- Part. -/
import Derived.Test.YtpglcghgklmedaaGreatOdKDToKeys
set_option linter.all false
set_option maxRecDepth 100000
set_option maxHeartbeats 8000000
namespace Go.Proofs.YtpglcghgklmedaaGreat
open Go.Ev
attribute [local go_sem] List.set_cons_succ List.set_cons_zero List.getD_cons_succ List.getD_cons_zero List.set_nil
def three0 : List Cnt := [(3, fltsV 0, 31, 90, 9, 1, 0, []), (5, fltsV 0, 31, 90, 9, 2, 0, []), (8, fltsV 0, 31, 90, 9, 3, 0, [])]
def three3 : List Cnt := [(3, fltsV 0, 31, 90, 9, 1, 0, []), (5, fltsV 0, 31, 90, 9, 2, 0, [(platesV 1, 20, 0)]), (8, fltsV 0, 31, 90, 9, 3, 0, [])]
def con45 : Con := { ps := [], rs := [.d false (.sl yCT)], pre := fun _ => True, out := fun _ => (three3, ()), nw := id }
theorem c45 : CtrOk Tryz.prog 45 con45.ctr :=
 con_sound (G := ⟨[(6, con6.ctr), (44, con44.ctr)], [], [], [], []⟩) tab_ok (EnvOk.cons c6 has6 (EnvOk.cons c44 has44 EnvOk.nil)) rfl Tryz.func45 rfl con45 255 (by kernel_rfl) (by decide) (by decide) rfl (by decide) rfl (by
  rintro _ hpre hwf X hT hG hk hK
  (simp -implicitDefEqProofs only [go_sem, bP, con45, con6, con44, hT, hG, hk, hK, Tryz.results45] at hwf ⊢)
  refine fun _ => evk_loop ⟨{ i : Nat // i ≤ 3 }, 1000, fun q => [(1, .one (.row 64)), (4, .one (.row 65)), (5, .one (.int .i64 3)), (6, .one (.int .i64 q.1))], fun q => [(64, .row 31 yCT (three0.take q.1)), (65, .row 3 (.int .i64) [3, 5, 8])], fun q => 3 - q.1⟩ ⟨0, by omega⟩ ?_ ?_
  · simp only [go_sem]
    try first | rfl | (and_intros <;> first | trivial | rfl | omega)
  · rintro ⟨i, (hi : i ≤ 3)⟩
    have h4 : i = 0 ∨ i = 1 ∨ i = 2 ∨ i = 3 := by omega
    rcases h4 with rfl | rfl | rfl | rfl
    all_goals
     (simp -implicitDefEqProofs only [go_sem, bP, con45, con6, con44, hT, hG, hk, hK, Tryz.results45])
     (repeat' with_reducible first | refine And.intro ?_ ?_ | intro _) <;> try first | with_reducible (first | assumption | omega | contradiction) | decide
     all_goals first
      | (refine fin_lp ⟨1, by omega⟩ ?_ (by dsimp only; omega)
         simp only [go_sem]
         try first | rfl | (and_intros <;> first | trivial | rfl | omega)
         done)
      | (refine fin_lp ⟨2, by omega⟩ ?_ (by dsimp only; omega)
         simp only [go_sem]
         try first | rfl | (and_intros <;> first | trivial | rfl | omega)
         done)
      | (refine fin_lp ⟨3, by omega⟩ ?_ (by dsimp only; omega)
         simp only [go_sem]
         try first | rfl | (and_intros <;> first | trivial | rfl | omega)
         done)
      | rfl
      | (exfalso; omega)
      | decide)
theorem find_at {α : Type} {p : α → Bool} {l : List α} {d : α} {i : Nat} (hz : ∀ k, k < i → p (l.getD k d) = false) (hi : i < l.length) (h : p (l.getD i d) = true) : l.find? p = some (l.getD i d) := by
 rw [List.find?_eq_some_iff_getElem]
 refine ⟨h, i, hi, (getD_lt hi).symm, fun j hj => ?_⟩
 have := hz j hj
 rw [getD_lt (by omega)] at this
 rw [this]; rfl
theorem find_no {α : Type} {p : α → Bool} {l : List α} {d : α} (hz : ∀ k, k < l.length → p (l.getD k d) = false) : l.find? p = none := by
 rw [List.find?_eq_none]
 intro x hx
 obtain ⟨k, hk, rfl⟩ := List.mem_iff_getElem.1 hx
 have := hz k hk
 rw [getD_lt hk] at this
 rw [this]; simp
theorem idx_any {α : Type} (p : α → Bool) (l : List α) (d : α) : decide (idxV p l ≥ 0) = l.any p := by
 by_cases h : 0 ≤ idxV p l
 · obtain ⟨h1, h2, _⟩ := idxV_spec (d := d) h
   rw [decide_eq_true h, List.any_eq_true.2 ⟨_, getD_mem h1, h2⟩]
 · have := idxV_neg (p := p) (l := l) (by omega)
   rw [decide_eq_false h, eq_comm, List.any_eq_false]
   intro x hx
   rw [this x hx]; simp
def candV (c : List Cnt) (l : List Plm) (p : Plt) : List Int := match l.find? (fun x => decide (x.1.1 = p)) with
 | some x => x.2.2
 | none => if (findV c p).2 = true then [(findV c p).1] else []
def con33 : Con := { ps := [.d false (.sl yCT), .d false (.sl yPM), .d true yPL], rs := [.d false (.sl (.int .i64))], pre := fun _ => True, out := fun (x : List Cnt × List Plm × Plt × Unit) => (candV x.1 x.2.1 x.2.2.1, ()), nw := id }
theorem c33 : CtrOk Tryz.prog 33 con33.ctr :=
 con_sound (G := ⟨[(43, con43.ctr)], [], [], [], []⟩) tab_ok (EnvOk.cons c43 has43 EnvOk.nil) rfl Tryz.func33 rfl con33 2149613415 (by kernel_rfl) (by decide) (by decide) rfl (by decide) rfl (by
  rintro ⟨(c : List Cnt), (l : List Plm), ⟨(p1 : Int), (p2 : Int), (p3 : Int)⟩, _⟩ hpre hwf X hT hG hk hK
  (simp -implicitDefEqProofs only [go_sem, bP, con33, con43, hT, hG, hk, hK, Tryz.results33] at hwf ⊢)
  clear hwf
  refine fun _ => evk_loop ⟨{ i : Nat // i ≤ l.length ∧ ∀ k, k < i → (fun x : Plm => decide (x.1.1 = ((p1, p2, p3) : Plt))) (l.getD k pm0) = false }, 1000, fun q => [(0, .one (.sl yCT c false)), (5, .one (.loc 70 0)), (11, .one (.sl yPM l false)), (12, .one (.int .i64 l.length)), (13, .one (.int .i64 q.1))], fun q => [(70, .cells 37 [.int .i64 p1, .int .i64 p2, .int .i64 p3])], fun q => l.length - q.1⟩ ⟨0, by omega, fun k hk => by omega⟩ ?_ ?_
  · simp only [go_sem]
    try first | rfl | (and_intros <;> first | trivial | rfl | omega)
  · rintro ⟨i, (hi : i ≤ l.length), hz⟩
    (simp -implicitDefEqProofs only [go_sem, bP, con33, con43, hT, hG, hk, hK, Tryz.results33])
    obtain ⟨o, ho⟩ : ∃ o, l.getD i pm0 = o := ⟨_, rfl⟩
    have eo : l.getD (i : Int).toNat (((0, 0, 0), 0, 0), 0, []) = o := ho
    try simp only [eo]
    (repeat' with_reducible first | refine And.intro ?_ ?_ | intro _) <;> try first | with_reducible (first | assumption | omega | contradiction) | decide
    all_goals first
     | (have h : o.1.1.1 = p1 ∧ o.1.1.2.1 = p2 ∧ o.1.1.2.2 = p3 := by assumption
        have e := find_at (p := fun x : Plm => decide (x.1.1 = ((p1, p2, p3) : Plt))) (d := pm0) hz (by omega) (by show decide ((l.getD i pm0).1.1 = _) = true; rw [ho]; exact decide_eq_true ((pltE o.1.1 (p1, p2, p3)).mp h))
        unfold candV; rw [e]; show _ = (l.getD i pm0).2.2; rw [ho])
     | (have h : ¬ o.1.1.1 = p1 ∨ ¬ o.1.1.2.1 = p2 ∨ ¬ o.1.1.2.2 = p3 := by assumption
        refine fin_lp ⟨i + 1, by omega, lt_succ hz (by show decide ((l.getD i pm0).1.1 = _) = false; rw [ho]; exact decide_eq_false ((pltN o.1.1 (p1, p2, p3)).mp h))⟩ (by simp only [go_sem]; first | rfl | ((repeat' apply And.intro) <;> first | rfl | assumption | omega)) (by dsimp only; omega)
        done)
     | (have e := find_no (p := fun x : Plm => decide (x.1.1 = ((p1, p2, p3) : Plt))) (d := pm0) fun k hk => hz k (by omega)
        unfold candV; rw [e]; dsimp only
        first | (rw [if_pos (by assumption)]; done) | (rw [if_neg (by simp [*])]; done)))
def con75 : Con := { ps := [.d false (.sl yPL), .d true yPL], rs := [.d false (.int .i64)], pre := fun _ => True, out := fun (x : List Plt × Plt × Unit) => (idxV (fun y => decide (y = x.2.1)) x.1, ()), nw := id }
theorem c75 : CtrOk Tryz.prog 75 con75.ctr :=
 con_sound (G := ⟨[], [], [], [], []⟩) tab_ok EnvOk.nil rfl Tryz.func75 rfl con75 66491 (by kernel_rfl) (by decide) (by decide) rfl (by decide) rfl (by
  rintro ⟨(l : List Plt), ⟨(p1 : Int), (p2 : Int), (p3 : Int)⟩, _⟩ hpre hwf X hT hG hk hK
  (simp -implicitDefEqProofs only [go_sem, bP, con75, hT, hG, hk, hK, Tryz.results75] at hwf ⊢); (try simp (disch := decide +kernel) only [drawn, true_and, and_true])
  clear hwf
  refine fun _ => evk_loop ⟨{ i : Nat // i ≤ l.length ∧ ∀ k, k < i → (fun x : Plt => decide (x = ((p1, p2, p3) : Plt))) (l.getD k pl0) = false }, 1000, fun q => [(0, .one (.sl yPL l false)), (3, .one (.loc 70 0)), (7, .one (.int .i64 l.length)), (8, .one (.int .i64 q.1))], fun q => [(70, .cells 37 [.int .i64 p1, .int .i64 p2, .int .i64 p3])], fun q => l.length - q.1⟩ ⟨0, by omega, fun k hk => by omega⟩ ?_ ?_
  · simp only [go_sem]
    try first | rfl | (and_intros <;> first | trivial | rfl | omega)
  · rintro ⟨i, (hi : i ≤ l.length), hz⟩
    (simp -implicitDefEqProofs only [go_sem, bP, con75, hT, hG, hk, hK, Tryz.results75]); (try simp (disch := decide +kernel) only [drawn, true_and, and_true])
    obtain ⟨o, ho⟩ : ∃ o, l.getD i pl0 = o := ⟨_, rfl⟩
    have eo : l.getD (i : Int).toNat (0, 0, 0) = o := ho
    try simp only [eo]
    (repeat' with_reducible first | refine And.intro ?_ ?_ | intro _) <;> try first | with_reducible (first | assumption | omega | contradiction) | decide
    all_goals first
     | (have h : p1 = o.1 ∧ p2 = o.2.1 ∧ p3 = o.2.2 := by assumption
        exact (idxV_at (d := pl0) hz (by omega) (by show decide (l.getD i pl0 = _) = true; rw [ho]; exact decide_eq_true ((pltE (p1, p2, p3) o).mp h).symm)).symm)
     | (have h : ¬ p1 = o.1 ∨ ¬ p2 = o.2.1 ∨ ¬ p3 = o.2.2 := by assumption
        refine fin_lp ⟨i + 1, by omega, lt_succ hz (by show decide (l.getD i pl0 = _) = false; rw [ho]; exact decide_eq_false (fun e => (pltN (p1, p2, p3) o).mp h e.symm))⟩ (by simp only [go_sem]; first | rfl | ((repeat' apply And.intro) <;> first | rfl | assumption | omega)) (by dsimp only; omega)
        done)
     | exact (idxV_none (d := pl0) fun k hk => hz k (by omega)).symm)
def con36 : Con := { ps := [.d false (.sl yPL), .d true yPL], rs := [.d false .bool], pre := fun _ => True, out := fun (x : List Plt × Plt × Unit) => (x.1.any (fun y => decide (y = x.2.1)), ()), nw := id }
theorem c36 : CtrOk Tryz.prog 36 con36.ctr :=
 con_sound (G := ⟨[(75, con75.ctr)], [], [], [], []⟩) tab_ok (EnvOk.cons c75 has75 EnvOk.nil) rfl Tryz.func36 rfl con36 27 (by kernel_rfl) (by decide) (by decide) rfl (by decide) rfl (by
  rintro ⟨(l : List Plt), ⟨(p1 : Int), (p2 : Int), (p3 : Int)⟩, _⟩ hpre hwf X hT hG hk hK
  (simp -implicitDefEqProofs only [go_sem, bP, con36, con75, hT, hG, hk, hK, Tryz.results36] at hwf ⊢)
  intro _
  exact idx_any _ l pl0)
def conCtN : Go.Ev.Raw := ⟨nstB con36.ctr⟩
theorem cCtN : CtrOk Tryz.prog 36 conCtN.ctr := nst_ok c36
end Go.Proofs.YtpglcghgklmedaaGreat

set_option maxRecDepth 100000
set_option maxHeartbeats 8000000
namespace Go.Proofs.YtpglcghgklmedaaGreat
open Go.Ev
attribute [local go_sem] List.set_cons_succ List.set_cons_zero List.getD_cons_succ List.getD_cons_zero List.set_nil
def tk0 : Tsk := (0, [])
def addT (o : List Tsk) (p : Plt) (n : Int) : List Tsk :=
 if idxV (fun (t : Tsk) => decide (t.1 = n)) o < 0 then o ++ [(n, [p])]
 else o.set (idxV (fun (t : Tsk) => decide (t.1 = n)) o).toNat ((o.getD (idxV (fun (t : Tsk) => decide (t.1 = n)) o).toNat tk0).1, if (o.getD (idxV (fun (t : Tsk) => decide (t.1 = n)) o).toNat tk0).2.any (fun y => decide (y = p)) = true then (o.getD (idxV (fun (t : Tsk) => decide (t.1 = n)) o).toNat tk0).2 else (o.getD (idxV (fun (t : Tsk) => decide (t.1 = n)) o).toNat tk0).2 ++ [p])
def addL (o : List Tsk) (p : Plt) (ns : List Int) : List Tsk := ns.foldl (fun o n => addT o p n) o
def tskL (c : List Cnt) (l : List Plm) (ps : List Plt) : List Tsk := ps.foldl (fun o p => addL o p (candV c l p)) []
def sortT (l : List Tsk) : List Tsk := l.mergeSort (fun a b => decide (a.1 ≤ b.1))
def lostV (c : List Cnt) (l : List Plm) (p : Plt) : Bool := (candV c l p).any (fun n => decide (numIdx c n < 0))
def searchV (c : List Cnt) (l : List Plm) (w : List Plt) : List Tsk × Int :=
 if checkV c ≠ 0 then ([], checkV c) else if wantE w ≠ 0 then ([], wantE w) else if (sortBy pltC w).any (lostV c l) = true then ([], 6) else (sortT (tskL c l (sortBy pltC w)), 0)
def TkB (o : List Tsk) (r : Nat) : Prop := o.length ≤ r ∧ ∀ t ∈ o, t.2.length ≤ r
theorem addT_b {o : List Tsk} {p : Plt} {n : Int} {r : Nat} (h : TkB o r) : TkB (addT o p n) (r + 1) := by
 obtain ⟨h1, h2⟩ := h
 unfold addT
 split
 · refine ⟨by rw [List.length_append, List.length_singleton]; omega, fun t ht => ?_⟩
   rcases List.mem_append.1 ht with h | h
   · have := h2 t h; omega
   · rw [List.mem_singleton.1 h]; show [p].length ≤ r + 1; simp
 · rename_i hi
   obtain ⟨g1, _, _⟩ := idxV_spec (d := tk0) (p := fun (t : Tsk) => decide (t.1 = n)) (l := o) (by omega)
   have hm := h2 _ (getD_mem (d := tk0) g1)
   refine ⟨by rw [List.length_set]; omega, fun t ht => ?_⟩
   rcases List.mem_or_eq_of_mem_set ht with h | h
   · have := h2 t h; omega
   · rw [h]
     show (if _ then _ else _ : List Plt).length ≤ r + 1
     split
     · omega
     · rw [List.length_append, List.length_singleton]; omega
theorem addL_b {p : Plt} : ∀ (ns : List Int) {o : List Tsk} {r : Nat}, TkB o r → TkB (addL o p ns) (r + ns.length)
 | [], o, r, h => h
 | n :: ns, o, r, h => by
   have := addL_b (p := p) ns (addT_b (p := p) (n := n) h)
   rw [List.length_cons, show r + (ns.length + 1) = r + 1 + ns.length by omega]
   exact this
theorem TkB.mono {o : List Tsk} {r s : Nat} (h : TkB o r) (hs : r ≤ s) : TkB o s := ⟨Nat.le_trans h.1 hs, fun t ht => Nat.le_trans (h.2 t ht) hs⟩
theorem candV_len {c : List Cnt} {l : List Plm} (h : ∀ x ∈ l, x.2.2.length ≤ 1000) (p : Plt) : (candV c l p).length ≤ 1000 := by
 unfold candV
 split
 · rename_i x hx; exact h x (List.mem_of_find?_eq_some hx)
 · split <;> simp
theorem tskL_b {c : List Cnt} {l : List Plm} (h : ∀ x ∈ l, x.2.2.length ≤ 1000) (ps : List Plt) : TkB (tskL c l ps) (ps.length * 1000) := by
 have key : ∀ (ps : List Plt) (o : List Tsk) (r : Nat), TkB o r → TkB (ps.foldl (fun o p => addL o p (candV c l p)) o) (r + ps.length * 1000) := by
  intro ps
  induction ps with
  | nil => intro o r h; simpa using h
  | cons p ps ih =>
    intro o r ho
    have h1 := addL_b (p := p) (candV c l p) ho
    have h2 := ih _ _ (h1.mono (Nat.add_le_add_left (candV_len h p) r))
    rw [List.length_cons, show r + (ps.length + 1) * 1000 = r + 1000 + ps.length * 1000 by omega]
    exact h2
 have := key ps [] 0 ⟨Nat.le_refl _, fun t ht => by cases ht⟩
 rwa [Nat.zero_add] at this
theorem tskL_snoc (c : List Cnt) (l : List Plm) (ps : List Plt) (p : Plt) : tskL c l (ps ++ [p]) = addL (tskL c l ps) p (candV c l p) := by
 unfold tskL; rw [List.foldl_append]; rfl
theorem addL_snoc (o : List Tsk) (p : Plt) (ns : List Int) (n : Int) : addL o p (ns ++ [n]) = addT (addL o p ns) p n := by
 unfold addL; rw [List.foldl_append]; rfl
def TkN (o : List Tsk) : Prop := (o.map (fun t => t.1)).Nodup
theorem addT_n {o : List Tsk} {p : Plt} {n : Int} (h : TkN o) : TkN (addT o p n) := by
 unfold addT
 split
 · rename_i hi
   have := idxV_neg hi
   unfold TkN at h ⊢
   rw [List.map_append, List.nodup_append]
   refine ⟨h, by simp, fun a ha b hb => ?_⟩
   obtain ⟨t, ht, rfl⟩ := List.mem_map.1 ha
   have hb : b = n := by simpa using hb
   have := this t ht
   rw [hb]; exact of_decide_eq_false this
 · unfold TkN at h ⊢
   rw [List.map_set]
   have : (o.map (fun t : Tsk => t.1)).set (idxV (fun (t : Tsk) => decide (t.1 = n)) o).toNat (o.getD (idxV (fun (t : Tsk) => decide (t.1 = n)) o).toNat tk0).1 = o.map (fun t => t.1) := by
    apply List.ext_getElem?
    intro i
    rw [List.getElem?_set]
    split
    · rename_i e
      subst e
      split
      · rename_i hl
        rw [List.length_map] at hl
        rw [List.getElem?_map, List.getElem?_eq_getElem hl, getD_lt hl]; rfl
      · rename_i hl
        rw [List.getElem?_eq_none (by omega)]
    · rfl
   rw [this]; exact h
theorem addL_n {p : Plt} : ∀ (ns : List Int) {o : List Tsk}, TkN o → TkN (addL o p ns)
 | [], o, h => h
 | n :: ns, o, h => addL_n ns (addT_n h)
theorem tskL_n (c : List Cnt) (l : List Plm) (ps : List Plt) : TkN (tskL c l ps) := by
 have key : ∀ (ps : List Plt) (o : List Tsk), TkN o → TkN (ps.foldl (fun o p => addL o p (candV c l p)) o) := by
  intro ps
  induction ps with
  | nil => intro o h; exact h
  | cons p ps ih => intro o ho; exact ih _ (addL_n _ ho)
 exact key ps [] .nil
theorem sortT_eq {l z : List Tsk} (hn : TkN l) (hp : z.Perm l) (hs : z.Pairwise (fun a b => ¬ cmpV b.1 a.1 < 0)) : z = sortT l := by
 have hc : ∀ a b : Int, ¬ cmpV b a < 0 → a ≤ b := fun a b h => by
  unfold cmpV at h
  apply Classical.byContradiction
  intro q
  rw [if_pos (by omega)] at h; omega
 refine List.Perm.eq_of_pairwise (le := fun a b : Tsk => a.1 ≤ b.1) (fun a b ha hb h1 h2 => ?_) (hs.imp fun h => hc _ _ h) ?_ (hp.trans (List.mergeSort_perm l _).symm)
 · have ha := hp.subset ha
   have hb := (List.mergeSort_perm l _).subset hb
   have e : a.1 = b.1 := by omega
   obtain ⟨i, hi, rfl⟩ := List.mem_iff_getElem.1 ha
   obtain ⟨j, hj, rfl⟩ := List.mem_iff_getElem.1 hb
   have : i = j := by
    unfold TkN at hn
    exact (List.getElem_inj (h₀ := by simpa using hi) (h₁ := by simpa using hj) hn).1 (by simpa using e)
   subst this; rfl
 · have := List.pairwise_mergeSort (le := fun a b : Tsk => decide (a.1 ≤ b.1)) (fun a b d h1 h2 => by simp at *; omega) (fun a b => by simp; omega) l
   exact this.imp (fun h => by simpa using h)
def con38 : Con := { ps := [.d true yTK, .d true yTK], rs := [.d false (.int .i64)], pre := fun _ => True, out := fun (x : Tsk × Tsk × Unit) => (cmpV x.1.1 x.2.1.1, ()), nw := id }
theorem c38 : CtrOk Tryz.prog 38 con38.ctr :=
 con_sound (G := ⟨[(39, con39.ctr)], [], [], [], []⟩) tab_ok (EnvOk.cons c39 has39 EnvOk.nil) rfl Tryz.func38 rfl con38 31 (by kernel_rfl) (by decide) (by decide) rfl (by decide) rfl (by
  rintro ⟨⟨(a : Int), (b : List Plt)⟩, ⟨(c : Int), (d : List Plt)⟩, _⟩ hpre hwf X hT hG hk hK
  (simp -implicitDefEqProofs only [go_sem, bP, con38, con39, hT, hG, hk, hK, Tryz.results38] at hwf ⊢))
def con37 : RCon := sortFCon 52 yTK 38 (fun (a b : Tsk) => cmpV a.1 b.1)
theorem swoT : Go.Sort.SWO (fun (x y : Tsk) => decide (cmpV x.1 y.1 < 0)) := by
 obtain ⟨h1, h2, h3⟩ := cmpV_cmp.swo
 exact ⟨fun x => h1 x.1, fun x y z => h2 x.1 y.1 z.1, fun x y z => h3 x.1 y.1 z.1⟩
theorem c37 : RCtrOk Tryz.prog 37 con37.rctr := sort_func (e := 52) (t := yTK) Tryz.sortT (by decide) Tryz.isAgg52 Tryz.sizeOf52 (hS := by unfold StrictP; rw [← Array.all_toList]; kernel_rfl) (c := fun (a b : Tsk) => cmpV a.1 b.1) c38 has38 swoT
def conSrS : RRaw := ⟨sealR con37.rctr⟩
theorem cSrS : RCtrOk Tryz.prog 37 conSrS.rctr := sealR_ok c37
theorem putSls_tk : ∀ (o : List Tsk), putSls yPL yTK (o.map (fun t => ((t.1, []) : Tsk))) (o.map (fun t => t.2)) = o
 | [] => rfl
 | t :: o => by
   have := putSls_tk o
   unfold putSls at this ⊢
   rw [List.map_cons, List.map_cons, List.zip_cons_cons, List.map_cons, this]
   rfl
theorem idxV_mapT (n : Int) (o : List Tsk) : idxV (fun (t : Tsk) => decide (t.1 = n)) (o.map (fun t => ((t.1, []) : Tsk))) = idxV (fun (t : Tsk) => decide (t.1 = n)) o := by
 unfold idxV
 rw [List.findIdx?_map]
 rfl
theorem tk_set1 {P : List Tsk} {k : Nat} (hk : k < P.length) (x : List Plt) : (P.set k ((P.getD k tk0).1, x)).map (fun t => ((t.1, []) : Tsk)) = P.map (fun t => ((t.1, []) : Tsk)) := by
 rw [List.map_set]
 apply List.ext_getElem?
 intro i
 rw [List.getElem?_set]
 split
 · rename_i e
   subst e
   rw [List.length_map, if_pos hk, List.getElem?_map, List.getElem?_eq_getElem hk, getD_lt hk]; rfl
 · rfl
theorem tk_set2 (P : List Tsk) (k : Nat) (a : Int) (x : List Plt) : (P.set k (a, x)).map (fun t => t.2) = (P.map (fun t => t.2)).set k x := by rw [List.map_set]
theorem tk_set3 {P : List Tsk} {k : Nat} (hk : k < P.length) : P.set k ((P.getD k tk0).1, (P.getD k tk0).2) = P := by
 rw [getD_lt hk]; exact List.set_getElem_self hk
theorem tk_get {P : List Tsk} {k : Nat} (hk : k < P.length) : (P.map (fun t => t.2)).getD k [] = (P.getD k tk0).2 := by
 rw [List.getD_eq_getElem?_getD, List.getElem?_map, List.getElem?_eq_getElem hk, getD_lt hk]; rfl
theorem tk_end (P : List Tsk) : (P.map (fun t => t.2) ++ [([] : List Plt)]).getD P.length [] = [] := by
 rw [List.getD_eq_getElem?_getD, List.getElem?_append_right (by rw [List.length_map]; exact Nat.le_refl _), List.length_map, Nat.sub_self]; rfl
theorem tk_end2 (P : List Tsk) (x : List Plt) : (P.map (fun t => t.2) ++ [([] : List Plt)]).set P.length x = P.map (fun t => t.2) ++ [x] := by
 rw [List.set_append_right _ _ (by rw [List.length_map]; exact Nat.le_refl _), List.length_map, Nat.sub_self]; rfl
def con12 : Con := { ps := [.d false (.sl yCT), .d false (.sl yPM), .d false (.sl yPL)], rs := [.d false (.sl yTK), .d false (.int .i64)], pre := fun (x : List Cnt × List Plm × List Plt × Unit) => x.2.2.1.length ≤ 1000 ∧ ∀ y ∈ x.2.1, y.2.2.length ≤ 1000, out := fun (x : List Cnt × List Plm × List Plt × Unit) => ((searchV x.1 x.2.1 x.2.2.1).1, (searchV x.1 x.2.1 x.2.2.1).2, ()), nw := id }
attribute [local go_sem] nstB
theorem c12 : CtrOk Tryz.prog 12 con12.ctr :=
 con_sound (G := ⟨[(28, con28.ctr), (29, con29.ctr), (31, con31.ctr), (30, con30.ctr), (33, con33.ctr), (34, con34.ctr), (36, conCtN.ctr)], [(35, con35.rctr), (37, conSrS.rctr)], [(10, 45), (55, 45), (65, 10), (73, 5)], [], []⟩) tab_ok (EnvOk.cons c28 has28 (EnvOk.cons c29 has29 (EnvOk.cons c31 has31 (EnvOk.cons c30 has30 (EnvOk.cons c33 has33 (EnvOk.cons c34 has34 (EnvOk.cons cCtN has36 (EnvOk.rcons c35 has35 (EnvOk.rcons cSrS has37 EnvOk.nil))))))))) rfl Tryz.func12 rfl con12 295150229413538879431 (by kernel_rfl) (by decide) (by decide) rfl (by decide) rfl (by
  rintro ⟨(c : List Cnt), (l : List Plm), (w : List Plt), _⟩ hpre hwf X hT hG hk hK
  obtain ⟨hw, hl⟩ : w.length ≤ 1000 ∧ ∀ y ∈ l, y.2.2.length ≤ 1000 := hpre
  (simp -implicitDefEqProofs only [go_sem, bP, con12, con28, con29, con31, con30, con33, con34, conCtN, con35, conSrS, hT, hG, hk, hK, Tryz.results12, con36, con37, sortFCon] at hwf ⊢); (try simp (disch := decide +kernel) only [drawn, true_and, and_true])
  clear hwf
  intro _
  refine ⟨fun h => ?_, fun h => ⟨by omega, fun _ => ⟨fun h2 => ?_, fun h2 _ => ⟨by omega, fun _ _ => ?_⟩⟩⟩⟩
  · have e : searchV c l w = ([], checkV c) := by unfold searchV; rw [if_pos h]
    rw [e]; exact ⟨rfl, rfl⟩
  · have e : searchV c l w = ([], wantE w) := by unfold searchV; rw [if_neg (by omega), if_pos h2]
    rw [e]; exact ⟨rfl, rfl⟩
  have hSl : (sortBy pltC w).length = w.length := (sortBy_perm pltC w).length_eq
  have hsv : (sortBy pltC w).any (lostV c l) = true → searchV c l w = ([], 6) := fun q => by unfold searchV; rw [if_neg (by omega), if_neg (by omega), if_pos q]
  have hsn : ¬ (sortBy pltC w).any (lostV c l) = true → searchV c l w = (sortT (tskL c l (sortBy pltC w)), 0) := fun q => by unfold searchV; rw [if_neg (by omega), if_neg (by omega), if_neg q]
  generalize sortBy pltC w = S at hSl hsv hsn ⊢
  refine evk_loop ⟨{ i : Nat // i ≤ S.length ∧ ∀ k, k < i → lostV c l (S.getD k pl0) = false }, 1000, fun q => [(0, .one (.sl yCT c false)), (1, .one (.sl yPM l false)), (10, .one (.row 64)), (28, .one (.row 66)), (29, .one (.int .i64 S.length)), (30, .one (.int .i64 q.1))],
   fun q => [(64, .rowg 52 yTK 1 65 ((tskL c l (S.take q.1)).map (fun t => ((t.1, []) : Tsk))) none), (65, .fam 37 yPL ((tskL c l (S.take q.1)).map (fun t => t.2))), (66, .row 37 yPL S)], fun q => S.length - q.1⟩ ⟨0, Nat.zero_le _, fun k hk => by omega⟩ ?_ ?_
  · simp only [go_sem]
    try first | rfl | (and_intros <;> first | trivial | rfl | omega)
  · rintro ⟨i, (hi : i ≤ S.length), hz⟩
    (simp -implicitDefEqProofs only [go_sem, bP, con12, con28, con29, con31, con30, con33, con34, conCtN, con35, conSrS, hT, hG, hk, hK, Tryz.results12, con36, con37, sortFCon]); (try simp (disch := decide +kernel) only [drawn, true_and, and_true])
    obtain ⟨o, ho⟩ : ∃ o, S.getD i pl0 = o := ⟨_, rfl⟩
    have eo : S.getD (i : Int).toNat (0, 0, 0) = o := ho
    try simp only [eo]
    have hb0 := (tskL_b (c := c) hl (S.take i)).mono (s := i * 1000) (by rw [List.length_take]; exact Nat.mul_le_mul_right _ (Nat.min_le_left _ _))
    refine ⟨fun hlt => ⟨⟨by omega, hlt⟩, fun _ => ⟨⟨by omega, hlt⟩, fun _ _ _ => ?_⟩⟩, fun hge => ?_⟩
    · have hcl := candV_len (c := c) hl o
      have hlo : lostV c l o = (candV c l o).any (fun n => decide (numIdx c n < 0)) := rfl
      have hts : S.take (i + 1) = S.take i ++ [o] := by rw [List.take_succ_eq_append_getElem (by omega), ← getD_lt (d := pl0) (by omega), ho]
      have hnx := tskL_snoc c l (S.take i) o
      rw [← hts] at hnx
      have hlost : lostV c l o = true → searchV c l w = ([], 6) := fun q => hsv (List.any_eq_true.2 ⟨o, by rw [← ho]; exact getD_mem (by omega), q⟩)
      generalize candV c l o = ns at hcl hlo hnx ⊢
      generalize tskL c l (S.take i) = O at hb0 hnx ⊢
      refine evk_loop ⟨{ j : Nat // j ≤ ns.length ∧ ∀ k, k < j → ¬ numIdx c (ns.getD k 0) < 0 }, 2000, fun q => [(0, .one (.sl yCT c false)), (1, .one (.sl yPM l false)), (10, .one (.row 64)), (28, .one (.row 66)), (29, .one (.int .i64 S.length)), (30, .one (.int .i64 i)), (12, .one (.loc 67 0)), (37, .one (.sl (.int .i64) ns false)), (38, .one (.int .i64 ns.length)), (39, .one (.int .i64 q.1))],
       fun q => [(64, .rowg 52 yTK 1 65 ((addL O o (ns.take q.1)).map (fun t => ((t.1, []) : Tsk))) none), (65, .fam 37 yPL ((addL O o (ns.take q.1)).map (fun t => t.2))), (66, .row 37 yPL S), (67, .cells 37 [.int .i64 o.1, .int .i64 o.2.1, .int .i64 o.2.2])], fun q => ns.length - q.1⟩ ⟨0, Nat.zero_le _, fun k hk => by omega⟩ ?_ ?_
      · simp only [go_sem]
        try first | rfl | (and_intros <;> first | trivial | rfl | omega)
      · rintro ⟨j, (hj : j ≤ ns.length), hzj⟩
        (simp -implicitDefEqProofs only [go_sem, bP, con12, con28, con29, con31, con30, con33, con34, conCtN, con35, conSrS, hT, hG, hk, hK, Tryz.results12, con36, con37, sortFCon]); (try simp (disch := decide +kernel) only [drawn, true_and, and_true])
        obtain ⟨n, hn⟩ : ∃ n, ns.getD j 0 = n := ⟨_, rfl⟩
        have en : ns.getD (j : Int).toNat 0 = n := hn
        try simp only [en, idxV_mapT]
        have hbj : TkB (addL O o (ns.take j)) (i * 1000 + j) := (addL_b (p := o) (ns.take j) hb0).mono (by rw [List.length_take]; omega)
        have hstep : j < ns.length → addL O o (ns.take (j + 1)) = addT (addL O o (ns.take j)) o n := fun h => by rw [List.take_succ_eq_append_getElem h, ← getD_lt (d := 0) h, hn, addL_snoc]
        refine ⟨fun hjl => ⟨⟨by omega, hjl⟩, fun _ _ _ => ⟨fun hneg => ?_, fun hpos a ha => ?_⟩⟩, fun hje => ?_⟩
        · have e := hlost (by rw [hlo]; exact List.any_eq_true.2 ⟨n, by rw [← hn]; exact getD_mem (by omega), decide_eq_true hneg⟩)
          rw [e]; exact ⟨rfl, rfl⟩
        · have hst := hstep (by omega)
          generalize addL O o (ns.take j) = P at hbj hst ha ⊢
          unfold addT at hst
          cases a
          · have ha : idxV (fun (t : Tsk) => decide (t.1 = n)) P < 0 := ha
            rw [if_pos ha] at hst
            (simp -implicitDefEqProofs only [go_sem, bP, con12, con28, con29, con31, con30, con33, con34, conCtN, con35, conSrS, hT, hG, hk, hK, Tryz.results12, con36, con37, sortFCon]); (try simp (disch := decide +kernel) only [drawn, true_and, and_true])
            have eL : (((P.map (fun t => ((t.1, []) : Tsk)) ++ [((n, []) : Tsk)]).length : Int) - 1) = (P.length : Int) := by simp
            have eN : ((P.length : Int)).toNat = P.length := by omega
            have eM : (P.map (fun t => ((t.1, []) : Tsk))).length = P.length := List.length_map _
            have eM2 : (P.map (fun t => ((t.1, []) : Tsk)) ++ [((n, []) : Tsk)]).length = P.length + 1 := by simp
            have eM3 : (P.map (fun t => t.2) ++ [([] : List Plt)]).length = P.length + 1 := by simp
            have hb1 := hbj.1
            simp only [eL, eN, tk_end, tk_end2, List.any_nil, List.length_nil, List.nil_append]
            simp only [eM, eM2, eM3]
            (repeat' with_reducible first | refine And.intro ?_ ?_ | intro _) <;> try first | with_reducible (first | assumption | omega | contradiction) | decide
            all_goals first
             | omega
             | (refine fin_lp ⟨j + 1, by omega, lt_succ hzj (by rw [hn]; exact hpos)⟩ ?_ (by dsimp only; omega)
                simp only [go_sem]
                rw [hst]
                simp
                done)
          · have ha : 0 ≤ idxV (fun (t : Tsk) => decide (t.1 = n)) P := ha
            rw [if_neg (by omega)] at hst
            (simp -implicitDefEqProofs only [go_sem, bP, con12, con28, con29, con31, con30, con33, con34, conCtN, con35, conSrS, hT, hG, hk, hK, Tryz.results12, con36, con37, sortFCon]); (try simp (disch := decide +kernel) only [drawn, true_and, and_true])
            refine ⟨fun hF => hF.elim, ?_⟩
            obtain ⟨hk, _, _⟩ := idxV_spec (d := tk0) ha
            obtain ⟨k, hkk⟩ : ∃ k : Nat, idxV (fun (t : Tsk) => decide (t.1 = n)) P = k := ⟨(idxV (fun (t : Tsk) => decide (t.1 = n)) P).toNat, by omega⟩
            rw [hkk] at hk hst ⊢
            have hk : k < P.length := hk
            have eN : ((k : Int)).toNat = k := by omega
            have eM : (P.map (fun t => ((t.1, []) : Tsk))).length = P.length := List.length_map _
            have eM3 : (P.map (fun t => t.2)).length = P.length := List.length_map _
            simp only [eN] at hst ⊢
            have hb2 := hbj.2 _ (getD_mem (d := tk0) hk)
            have hs1 := tk_set1 hk
            have hs3 := tk_set3 hk
            have hg := tk_get hk
            simp only [hg, eM, eM3, List.set_set]
            generalize P.getD k tk0 = t0 at hst hb2 hs1 hs3 hg ⊢
            (repeat' with_reducible first | refine And.intro ?_ ?_ | intro _) <;> try first | with_reducible (first | assumption | omega | contradiction) | decide
            all_goals first
             | omega
             | (have h : (t0.2.any fun y => decide (y = o)) = false := by assumption
                rw [if_neg (by rw [h]; simp)] at hst
                refine fin_lp ⟨j + 1, by omega, lt_succ hzj (by rw [hn]; exact hpos)⟩ ?_ (by dsimp only; omega)
                simp only [go_sem]
                rw [hst, hs1, tk_set2]
                try first | rfl | (and_intros <;> first | trivial | rfl | omega)
                done)
             | (have h : (t0.2.any fun y => decide (y = o)) = true := by assumption
                rw [if_pos h, hs3] at hst
                refine fin_lp ⟨j + 1, by omega, lt_succ hzj (by rw [hn]; exact hpos)⟩ ?_ (by dsimp only; omega)
                simp only [go_sem]
                rw [hst]
                try first | rfl | (and_intros <;> first | trivial | rfl | omega)
                done)
        · have hjn : j = ns.length := by omega
          have hlf : lostV c l o = false := by
           rw [hlo, List.any_eq_false]
           intro x hx
           obtain ⟨k, hk, rfl⟩ := List.mem_iff_getElem.1 hx
           have := hzj k (by omega)
           rw [getD_lt hk] at this
           simpa using this
          refine ⟨by omega, ?_⟩
          refine fin_lp ⟨i + 1, by omega, lt_succ hz (by rw [ho]; exact hlf)⟩ ?_ (by dsimp only; omega)
          simp only [go_sem]
          rw [hnx, hjn, List.take_length]
          try first | rfl | (and_intros <;> first | trivial | rfl | omega)
    · have hiS : i = S.length := by omega
      have hall : ¬ S.any (lostV c l) = true := by
       intro q
       obtain ⟨x, hx, hq⟩ := List.any_eq_true.1 q
       obtain ⟨k, hk, rfl⟩ := List.mem_iff_getElem.1 hx
       have := hz k (by omega)
       rw [getD_lt hk, hq] at this
       cases this
      have hb1 := hb0.1
      have e := hsn hall
      rw [hiS, List.take_length] at hb1 ⊢
      have hN := tskL_n c l S
      rw [putSls_tk]
      refine ⟨by omega, fun a ha => ?_⟩
      rw [e]
      exact ⟨rfl, sortT_eq hN ha.1 ha.2⟩)
end Go.Proofs.YtpglcghgklmedaaGreat

set_option maxRecDepth 100000
set_option maxHeartbeats 8000000
namespace Go.Proofs.YtpglcghgklmedaaGreat
open Go.Ev
def onB (f : Flt) (c : Cnt) : Bool := decide (c.flt = f) && decide (c.pos ≠ 0)
def sortC (l : List Cnt) : List Cnt := l.mergeSort (fun a b => decide (a.pos ≤ b.pos))
def aboV (c : List Cnt) (f : Flt) : List Cnt := sortC (c.filter (onB f))
def PosN (l : List Cnt) : Prop := l.Pairwise (fun a b => a.pos ≠ b.pos)
theorem sortC_eq {l z : List Cnt} (hn : PosN l) (hp : z.Perm l) (hs : z.Pairwise (fun a b => ¬ cmpV b.pos a.pos < 0)) : z = sortC l := by
 have hc : ∀ a b : Int, ¬ cmpV b a < 0 → a ≤ b := fun a b h => by
  unfold cmpV at h
  apply Classical.byContradiction
  intro q
  rw [if_pos (by omega)] at h; omega
 refine List.Perm.eq_of_pairwise (le := fun a b : Cnt => a.pos ≤ b.pos) (fun a b ha hb h1 h2 => ?_) (hs.imp fun h => hc _ _ h) ?_ (hp.trans (List.mergeSort_perm l _).symm)
 · have ha := hp.subset ha
   have hb := (List.mergeSort_perm l _).subset hb
   have e : a.pos = b.pos := by omega
   obtain ⟨i, hi, rfl⟩ := List.mem_iff_getElem.1 ha
   obtain ⟨j, hj, rfl⟩ := List.mem_iff_getElem.1 hb
   have hpw := List.pairwise_iff_getElem.1 hn
   rcases Nat.lt_trichotomy i j with h | h | h
   · exact absurd e (hpw i j hi hj h)
   · subst h; rfl
   · exact absurd e.symm (hpw j i hj hi h)
 · have := List.pairwise_mergeSort (le := fun a b : Cnt => decide (a.pos ≤ b.pos)) (fun a b d h1 h2 => by simp at *; omega) (fun a b => by simp; omega) l
   exact this.imp (fun h => by simpa using h)
theorem posN_of {c : List Cnt} (h : CtsOk c) (f : Flt) : PosN (c.filter (onB f)) := by
 unfold PosN
 have := h.pos
 refine (List.pairwise_filter.2 (this.imp fun {a b} q => fun ha hb e => ?_))
 have ha : onB f a = true := ha
 have hb : onB f b = true := hb
 unfold onB at ha hb
 rw [Bool.and_eq_true, decide_eq_true_eq, decide_eq_true_eq] at ha hb
 exact q hb.2 e (ha.1.trans hb.1.symm)
def con106 : Con := { ps := [.d true yCT, .d true yCT], rs := [.d false (.int .i64)], pre := fun _ => True, out := fun (x : Cnt × Cnt × Unit) => (cmpV x.1.pos x.2.1.pos, ()), nw := id }
theorem c106 : CtrOk Tryz.prog 106 con106.ctr :=
 con_sound (G := ⟨[(39, con39.ctr)], [], [], [], []⟩) tab_ok (EnvOk.cons c39 has39 EnvOk.nil) rfl Tryz.func106 rfl con106 31 (by kernel_rfl) (by decide) (by decide) rfl (by decide) rfl (by
  rintro ⟨⟨(n : Int), ⟨a1, (a2 : Int), a3, (a4 : Int)⟩, (c : Int), (lm : Int), (t : Int), (p : Int), (r : Int), (l : List Pce)⟩, ⟨(n2 : Int), ⟨b1, (b2 : Int), b3, (b4 : Int)⟩, (c2 : Int), (lm2 : Int), (t2 : Int), (p2 : Int), (r2 : Int), (l2 : List Pce)⟩, _⟩ hpre hwf X hT hG hk hK
  (simp -implicitDefEqProofs only [go_sem, bP, con106, con39, hT, hG, hk, hK, Tryz.results106] at hwf ⊢)
  try rfl)
def con105 : RCon := sortFCon 31 yCT 106 (fun (a b : Cnt) => cmpV a.pos b.pos)
theorem swoC : Go.Sort.SWO (fun (x y : Cnt) => decide (cmpV x.pos y.pos < 0)) := by
 obtain ⟨h1, h2, h3⟩ := cmpV_cmp.swo
 exact ⟨fun x => h1 x.pos, fun x y z => h2 x.pos y.pos z.pos, fun x y z => h3 x.pos y.pos z.pos⟩
theorem c105 : RCtrOk Tryz.prog 105 con105.rctr := sort_func (e := 31) (t := yCT) Tryz.sortC (by decide) Tryz.isAgg31 Tryz.sizeOf31 (hS := by unfold StrictP; rw [← Array.all_toList]; kernel_rfl) (c := fun (a b : Cnt) => cmpV a.pos b.pos) c106 has106 swoC
def con80 : Con := { ps := [.d false (.sl yCT), .d true yFL], rs := [.d false (.sl yCT)], pre := fun (x : List Cnt × Flt × Unit) => x.1.length ≤ 1000 ∧ PosN (x.1.filter (onB x.2.1)), out := fun (x : List Cnt × Flt × Unit) => (aboV x.1 x.2.1, ()), nw := id }
theorem c80 : CtrOk Tryz.prog 80 con80.ctr :=
 con_sound (G := ⟨[], [(105, con105.rctr)], [], [], []⟩) tab_ok (EnvOk.rcons c105 has105 EnvOk.nil) rfl Tryz.func80 rfl con80 4198331 (by kernel_rfl) (by decide) (by decide) rfl (by decide) rfl (by
  rintro ⟨(l : List Cnt), ⟨f1, (f2 : Int), f3, (f4 : Int)⟩, _⟩ hpre hwf X hT hG hk hK
  obtain ⟨hl, hN⟩ : l.length ≤ 1000 ∧ PosN (l.filter (onB (f1, f2, f3, f4))) := hpre
  (simp -implicitDefEqProofs only [go_sem, bP, con80, con105, hT, hG, hk, hK, Tryz.results80, sortFCon] at hwf ⊢)
  clear hwf
  obtain ⟨f, hf⟩ : ∃ f : Flt, (f1, f2, f3, f4) = f := ⟨_, rfl⟩
  rw [hf] at hN
  refine fun _ => evk_loop ⟨{ i : Nat // i ≤ l.length }, 1000, fun q => [(3, .one (.loc 70 0)), (5, .one (.row 64)), (8, .one (.sl yCT l false)), (9, .one (.int .i64 l.length)), (10, .one (.int .i64 q.1))], fun q => [(70, .cells 27 [.str f.1, .int .i64 f.2.1, .str f.2.2.1, .int .i64 f.2.2.2]), (64, .row 31 yCT ((l.take q.1).filter (onB f)))], fun q => l.length - q.1⟩ ⟨0, Nat.zero_le _⟩ ?_ ?_
  · subst hf
    simp only [go_sem]
    try first | rfl | (and_intros <;> first | trivial | rfl | omega)
  · rintro ⟨i, (hi : i ≤ l.length)⟩
    (simp -implicitDefEqProofs only [go_sem, bP, con80, con105, hT, hG, hk, hK, Tryz.results80, sortFCon])
    obtain ⟨o, ho⟩ : ∃ o, l.getD i ct0 = o := ⟨_, rfl⟩
    have eo : l.getD (i : Int).toNat (0, (ByteArray.empty, 0, ByteArray.empty, 0), 0, 0, 0, 0, 0, []) = o := ho
    try simp only [eo]
    have hon : ((o.2.1.1 = f.1 ∧ o.2.1.2.1 = f.2.1 ∧ o.2.1.2.2.1 = f.2.2.1 ∧ o.2.1.2.2.2 = f.2.2.2) ∧ ¬ o.2.2.2.2.2.1 = 0) ↔ onB f o = true := by
     unfold onB
     rw [Bool.and_eq_true, decide_eq_true_eq, decide_eq_true_eq, fltE o.2.1 f]
     try exact Iff.rfl
    have hst : i < l.length → (l.take (i + 1)).filter (onB f) = (l.take i).filter (onB f) ++ (if onB f o = true then [o] else []) := fun h => by
     rw [List.take_succ_eq_append_getElem h, ← getD_lt (d := ct0) h, ho, List.filter_append]
     by_cases q : onB f o = true
     · rw [List.filter_cons_of_pos q, if_pos q]; rfl
     · rw [List.filter_cons_of_neg q, if_neg q]; rfl
    have hfl : ((l.take i).filter (onB f)).length ≤ i := Nat.le_trans (List.length_filter_le _ _) (by rw [List.length_take]; omega)
    have hrl : ∀ a : Prop, (¬ o.2.1.1 = f.1 ∨ ¬ o.2.1.2.1 = f.2.1 ∨ ¬ o.2.1.2.2.1 = f.2.2.1 ∨ ¬ o.2.1.2.2.2 = f.2.2.2) ∨ o.2.2.2.2.2.1 = 0 → ¬ onB f o = true := fun _ q h => by
     obtain ⟨⟨g1, g2, g3, g4⟩, g5⟩ := hon.2 h
     rcases q with (q | q | q | q) | q
     · exact q g1
     · exact q g2
     · exact q g3
     · exact q g4
     · exact g5 q
    (repeat' with_reducible first | refine And.intro ?_ ?_ | intro _) <;> try first | with_reducible (first | assumption | omega | contradiction) | decide
    all_goals first
     | omega
     | (have h1 := hst (by omega)
        rw [if_pos (hon.1 (by assumption))] at h1
        refine fin_lp ⟨i + 1, by omega⟩ ?_ (by dsimp only; omega)
        simp only [go_sem]
        rw [h1]
        try first | rfl | (and_intros <;> first | trivial | rfl | omega)
        done)
     | (have h1 := hst (by omega)
        rw [if_neg (hrl True (by assumption)), List.append_nil] at h1
        refine fin_lp ⟨i + 1, by omega⟩ ?_ (by dsimp only; omega)
        simp only [go_sem]
        rw [h1]
        try first | rfl | (and_intros <;> first | trivial | rfl | omega)
        done)
     | (rename_i ha
        have e4 : l.take i = l := List.take_of_length_le (by omega)
        rw [e4] at ha
        unfold aboV
        rw [hf]
        exact sortC_eq hN ha.1 ha.2))
def con82 : Con := { ps := [.d true yTK, .p 31 yCT], rs := [.d false .bool], pre := fun _ => True, out := fun (x : Tsk × Cnt × Unit) => (decide (x.1.1 = x.2.1.num), ()), nw := id }
theorem c82 : CtrOk Tryz.prog 82 con82.ctr :=
 con_sound (G := ⟨[], [], [], [], []⟩) tab_ok EnvOk.nil rfl Tryz.func82 rfl con82 15 (by kernel_rfl) (by decide) (by decide) rfl (by decide) rfl (by
  rintro ⟨⟨(a : Int), (b : List Plt)⟩, ⟨(n : Int), ⟨a1, (a2 : Int), a3, (a4 : Int)⟩, (c : Int), (lm : Int), (t : Int), (p : Int), (r : Int), (l : List Pce)⟩, _⟩ hpre hwf X hT hG hk hK
  (simp -implicitDefEqProofs only [go_sem, bP, con82, hT, hG, hk, hK, Tryz.results82] at hwf ⊢)
  try (first | rfl | trace_state))
def con83 : Con := { ps := [.d true yTK, .p 31 yCT], rs := [.d false .bool], pre := fun _ => True, out := fun (x : Tsk × Cnt × Unit) => (decide (x.1.1 = x.2.1.num), ()), nw := id }
theorem c83 : CtrOk Tryz.prog 83 con83.ctr :=
 con_sound (G := ⟨[], [], [], [], []⟩) tab_ok EnvOk.nil rfl Tryz.func83 rfl con83 15 (by kernel_rfl) (by decide) (by decide) rfl (by decide) rfl (by
  rintro ⟨⟨(a : Int), (b : List Plt)⟩, ⟨(n : Int), ⟨a1, (a2 : Int), a3, (a4 : Int)⟩, (c : Int), (lm : Int), (t : Int), (p : Int), (r : Int), (l : List Pce)⟩, _⟩ hpre hwf X hT hG hk hK
  (simp -implicitDefEqProofs only [go_sem, bP, con83, hT, hG, hk, hK, Tryz.results83] at hwf ⊢)
  try (first | rfl | trace_state))
end Go.Proofs.YtpglcghgklmedaaGreat
