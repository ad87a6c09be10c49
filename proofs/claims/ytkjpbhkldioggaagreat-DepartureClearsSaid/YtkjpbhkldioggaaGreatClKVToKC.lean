/- Part. -/
import Derived.Test.YtkjpbhkldioggaaGreatClKDToKT
import Derived.Test.YtkjpbhkldioggaaGreatEvFun5
import Derived.Test.YtkjpbhkldioggaaGreatEvSimp
import Derived.Shelf.SlIter.Sorted
import Derived.Shelf.SlIter.Collect
import Derived.WalkKit
set_option linter.all false
set_option maxRecDepth 100000
set_option maxHeartbeats 4000000
namespace Go.Proofs.YtkjpbhkldioggaaGreat
open Go.Ev
theorem pw_getD {α : Type} {R : α → α → Prop} (d : α) {l : List α} : l.Pairwise R ↔ ∀ i j, i < j → j < l.length → R (l.getD i d) (l.getD j d) := by
 rw [List.pairwise_iff_getElem]; constructor
 · intro h i j hij hj; have := h i j (by omega) hj hij; simpa [gdE, hj, (by omega : i < l.length)] using this
 · intro h i j hi hj hij; have := h i j hij hj; simpa [gdE, hj, hi] using this
theorem getD_pc {l : List Pce} {x : Pce} (h : x ∈ l) : ∃ i, i < l.length ∧ l.getD i pc0 = x := by
 obtain ⟨i, hi, rfl⟩ := List.getElem_of_mem h; exact ⟨i, hi, by simp [hi]⟩
theorem getD_ct {l : List Cnt} {x : Cnt} (h : x ∈ l) : ∃ i, i < l.length ∧ l.getD i ct0 = x := by
 obtain ⟨i, hi, rfl⟩ := List.getElem_of_mem h; exact ⟨i, hi, by simp [hi]⟩
structure PcsOk (l : List Pce) : Prop where
 ok : ∀ x ∈ l, okPc x = true
 srt : l.Pairwise (fun a b => pltC a.1 b.1 < 0)
theorem ctErr_iff {c : Cnt} : ctErr c = 0 ↔ propC c = true ∧ c.pcs.length ≤ 60 ∧ PcsOk c.pcs := by
 constructor
 · intro h; obtain ⟨h1, h2, h3⟩ := ctErr_zero h; refine ⟨h1, h2, fun x hx => ?_, (pw_getD pc0).2 (pcs_apart h3)⟩; obtain ⟨i, hi, rfl⟩ := getD_pc hx; exact (h3 i hi).1
 · rintro ⟨h1, h2, h3⟩; unfold ctErr; rw [if_neg (by rw [h1]; simp), if_neg (by omega)]; refine fErr_ok fun k hk => ?_; have ho : okPc (c.pcs.getD k pc0) = true := h3.ok _ (getD_mem hk); by_cases h0 : k = 0
   · exact pcErr_f ho h0
   · have hl := (pw_getD pc0).1 h3.srt (k - 1) k (by omega) hk; exact pcErr_0 ho h0 (by omega) (by omega)
structure CtsOk (l : List Cnt) : Prop where
 len : l.length ≤ 24
 ok : ∀ c ∈ l, propC c = true ∧ c.pcs.length ≤ 60 ∧ PcsOk c.pcs
 num : l.Pairwise (fun a b => a.num < b.num)
 pos : l.Pairwise (fun a b => b.pos ≠ 0 → a.pos = b.pos → a.flt ≠ b.flt)
 pl : l.Pairwise (fun a b => ∀ x ∈ a.pcs, ∀ y ∈ b.pcs, x.1 ≠ y.1)
theorem holdsV_iff {c : Cnt} {p : Plt} : holdsV c p = true ↔ ∃ x ∈ c.pcs, x.1 = p := by
 rw [holdsV_in, List.mem_map]
theorem num_apart {l : List Cnt} (h : ∀ i, i < l.length → 0 < i → (l.getD (i - 1) ct0).num < (l.getD i ct0).num) : ∀ j k, j < k → k < l.length → (l.getD j ct0).num < (l.getD k ct0).num := by
 intro j k hjk
 induction k with
 | zero => omega
 | succ k ih =>
   intro hk; have h1 := h (k + 1) hk (by omega); rw [show k + 1 - 1 = k by omega] at h1; by_cases e : j = k
   · subst e; exact h1
   · exact Int.lt_trans (ih (by omega) (by omega)) h1
theorem checkV_iff {l : List Cnt} : checkV l = 0 ↔ CtsOk l := by
 constructor
 · intro h; obtain ⟨h1, h2⟩ := checkV_zero h; have h3 : ∀ i, i < l.length → _ := fun i hi => ckErr_z (h2 i hi); refine ⟨h1, fun c hc => ?_, (pw_getD ct0).2 (num_apart fun i hi h0 => (h3 i hi).2.1 h0), (pw_getD ct0).2 fun i j hij hj hp he hf => (h3 j hj).2.2.1 ⟨hp, i, hij, he, hf⟩, (pw_getD ct0).2 fun i j hij hj x hx y hy he => (h3 j hj).2.2.2 ⟨y, hy, i, hij, holdsV_iff.2 ⟨x, hx, he⟩⟩⟩; obtain ⟨i, hi, rfl⟩ := getD_ct hc; exact ctErr_iff.1 (h3 i hi).1
 · rintro ⟨h1, h2, h3, h4, h5⟩; refine checkV_ok (by omega) fun k hk => ?_; refine ckErr_0 (ctErr_iff.2 (h2 _ (getD_mem hk))) ?_ ?_ ?_
   · rintro ⟨h0, hn⟩; have := (pw_getD ct0).1 h3 (k - 1) k (by omega) hk; omega
   · rintro ⟨hp, i, hi, he, hf⟩; exact (pw_getD ct0).1 h4 i k hi hk hp he hf
   · rintro ⟨y, hy, i, hi, hh⟩; obtain ⟨x, hx, he⟩ := holdsV_iff.1 hh; exact (pw_getD ct0).1 h5 i k hi hk x hx y hy he
def setPcs (c : Cnt) (p : List Pce) : Cnt := (c.1, c.2.1, c.2.2.1, c.2.2.2.1, c.2.2.2.2.1, c.2.2.2.2.2.1, c.2.2.2.2.2.2.1, p)
theorem fltsV_ok (n : Int) : fltOk (fltsV n) = true := by
 have hb := goMod_bd n 27 (by omega); have key : ∀ k : Nat, k < 27 → fltOk (strs3.getD ((k : Int) / 9).toNat ByteArray.empty, 1 + (k : Int) / 3 % 3, ByteArray.empty, 1 + (k : Int) % 3) = true := by decide +kernel
 have := key (goMod n 27).toNat (by omega); unfold fltsV; rw [show ((goMod n 27).toNat : Int) = goMod n 27 by omega] at this; exact this
end Go.Proofs.YtkjpbhkldioggaaGreat

namespace Go.Ev
open Go.Proofs (encStr)
variable {cx : Cx} {σ : Nat → Value} {N : Nat → Prop} {m : Mem} {w : World} {P : Program}
structure Raw where
 ctr : Ctr
attribute [go_sem] stq
end Go.Ev

set_option maxRecDepth 100000
set_option maxHeartbeats 8000000
namespace Go.Proofs.YtkjpbhkldioggaaGreat
open Go.Ev
attribute [local go_sem] List.set_cons_succ List.set_cons_zero List.getD_cons_succ List.getD_cons_zero List.set_nil
theorem find_at {α : Type} {p : α → Bool} {l : List α} {d : α} {i : Nat} (hz : ∀ k, k < i → p (l.getD k d) = false) (hi : i < l.length) (h : p (l.getD i d) = true) : l.find? p = some (l.getD i d) := by
 rw [List.find?_eq_some_iff_getElem]; refine ⟨h, i, hi, (getD_lt hi).symm, fun j hj => ?_⟩; have := hz j hj; rw [getD_lt (by omega)] at this; rw [this]; rfl
theorem find_no {α : Type} {p : α → Bool} {l : List α} {d : α} (hz : ∀ k, k < l.length → p (l.getD k d) = false) : l.find? p = none := by
 rw [List.find?_eq_none]; intro x hx; obtain ⟨k, hk, rfl⟩ := List.mem_iff_getElem.1 hx; have := hz k hk; rw [getD_lt hk] at this; rw [this]; simp
theorem idx_any {α : Type} (p : α → Bool) (l : List α) (d : α) : decide (idxV p l ≥ 0) = l.any p := by
 by_cases h : 0 ≤ idxV p l
 · obtain ⟨h1, h2, _⟩ := idxV_spec (d := d) h; rw [decide_eq_true h, List.any_eq_true.2 ⟨_, getD_mem h1, h2⟩]
 · have := idxV_neg (p := p) (l := l) (by omega); rw [decide_eq_false h, eq_comm, List.any_eq_false]; intro x hx; rw [this x hx]; simp
def candV (c : List Cnt) (l : List Plm) (p : Plt) : List Int := match l.find? (fun x => decide (x.1.1 = p)) with
 | some x => x.2.2
 | none => if (findV c p).2 = true then [(findV c p).1] else []
def con43 : Con := { ps := [.d false (.sl yCT), .d false (.sl yPM), .d true yPL], rs := [.d false (.sl yI)], pre := fun _ => True, out := fun (x : List Cnt × List Plm × Plt × Unit) => (candV x.1 x.2.1 x.2.2.1, ()), nw := id }
theorem c43 : CtrOk Tryz.prog 43 con43.ctr :=
 con_sound (G := ⟨[(80, con80.ctr)], [], [], [], []⟩) tab_ok (EnvOk.cons c80 has80 EnvOk.nil) rfl Tryz.func43 rfl con43 2149613415 (by kernel_rfl) (by decide) (by decide) rfl (by decide) rfl (by
  rintro ⟨(c : List Cnt), (l : List Plm), ⟨(p1 : Int), (p2 : Int), (p3 : Int)⟩, _⟩ hpre hwf X hT hG hk hK
  (simp -implicitDefEqProofs only [go_sem, bP, con43, con80, hT, hG, hk, hK, Tryz.results43] at hwf ⊢)
  clear hwf; refine fun _ => evk_loop ⟨{ i : Nat // i ≤ l.length ∧ ∀ k, k < i → (fun x : Plm => decide (x.1.1 = ((p1, p2, p3) : Plt))) (l.getD k pm0) = false }, 1000, fun q => [(0, .one (.sl yCT c false)), (5, .one (.loc 70 0)), (11, .one (.sl yPM l false)), (12, .one (.int .i64 l.length)), (13, .one (.int .i64 q.1))], fun q => [(70, .cells 45 [.int .i64 p1, .int .i64 p2, .int .i64 p3])], fun q => l.length - q.1⟩ ⟨0, by omega, fun k hk => by omega⟩ ?_ ?_
  · simp only [go_sem]
    try first | rfl | (and_intros <;> first | trivial | rfl | omega)
  · rintro ⟨i, (hi : i ≤ l.length), hz⟩
    (simp -implicitDefEqProofs only [go_sem, bP, con43, con80, hT, hG, hk, hK, Tryz.results43])
    obtain ⟨o, ho⟩ : ∃ o, l.getD i pm0 = o := ⟨_, rfl⟩; have eo : l.getD (i : Int).toNat (((0, 0, 0), 0, 0), 0, []) = o := ho
    try simp only [eo]
    (repeat' with_reducible first | refine And.intro ?_ ?_ | intro _) <;> try first | with_reducible (first | assumption | omega | contradiction) | decide
    all_goals first
     | (have h : o.1.1.1 = p1 ∧ o.1.1.2.1 = p2 ∧ o.1.1.2.2 = p3 := by assumption
        have e := find_at (p := fun x : Plm => decide (x.1.1 = ((p1, p2, p3) : Plt))) (d := pm0) hz (by omega) (by show decide ((l.getD i pm0).1.1 = _) = true; rw [ho]; exact decide_eq_true ((pltE o.1.1 (p1, p2, p3)).mp h))
        unfold candV; rw [e]; show _ = (l.getD i pm0).2.2; rw [ho])
     | (have h : ¬ o.1.1.1 = p1 ∨ ¬ o.1.1.2.1 = p2 ∨ ¬ o.1.1.2.2 = p3 := by assumption
        refine fin_lp ⟨i + 1, by omega, lt_succ hz (by show decide ((l.getD i pm0).1.1 = _) = false; rw [ho]; exact decide_eq_false ((pltN o.1.1 (p1, p2, p3)).mp h))⟩ (by simp only [go_sem]; first | rfl | ((repeat' apply And.intro) <;> first | rfl | assumption | omega)) (by dsimp only; omega)
        done)
     | (have e := find_no (p := fun x : Plm => decide (x.1.1 = ((p1, p2, p3) : Plt))) (d := pm0) fun k hk => hz k (by omega)
        unfold candV; rw [e]; dsimp only
        first | (rw [if_pos (by assumption)]; done) | (rw [if_neg (by simp [*])]; done)))
def con82 : Con := { ps := [.d false (.sl yPL), .d true yPL], rs := [.d false yI], pre := fun _ => True, out := fun (x : List Plt × Plt × Unit) => (idxV (fun y => decide (y = x.2.1)) x.1, ()), nw := id }
theorem c82 : CtrOk Tryz.prog 82 con82.ctr :=
 con_sound (G := ⟨[], [], [], [], []⟩) tab_ok EnvOk.nil rfl Tryz.func82 rfl con82 66491 (by kernel_rfl) (by decide) (by decide) rfl (by decide) rfl (by
  rintro ⟨(l : List Plt), ⟨(p1 : Int), (p2 : Int), (p3 : Int)⟩, _⟩ hpre hwf X hT hG hk hK
  (simp -implicitDefEqProofs only [go_sem, bP, con82, hT, hG, hk, hK, Tryz.results82] at hwf ⊢); (try simp (disch := decide +kernel) only [drawn, true_and, and_true])
  clear hwf; refine fun _ => evk_loop ⟨{ i : Nat // i ≤ l.length ∧ ∀ k, k < i → (fun x : Plt => decide (x = ((p1, p2, p3) : Plt))) (l.getD k pl0) = false }, 1000, fun q => [(0, .one (.sl yPL l false)), (3, .one (.loc 70 0)), (7, .one (.int .i64 l.length)), (8, .one (.int .i64 q.1))], fun q => [(70, .cells 45 [.int .i64 p1, .int .i64 p2, .int .i64 p3])], fun q => l.length - q.1⟩ ⟨0, by omega, fun k hk => by omega⟩ ?_ ?_
  · simp only [go_sem]
    try first | rfl | (and_intros <;> first | trivial | rfl | omega)
  · rintro ⟨i, (hi : i ≤ l.length), hz⟩
    (simp -implicitDefEqProofs only [go_sem, bP, con82, hT, hG, hk, hK, Tryz.results82]); (try simp (disch := decide +kernel) only [drawn, true_and, and_true])
    obtain ⟨o, ho⟩ : ∃ o, l.getD i pl0 = o := ⟨_, rfl⟩; have eo : l.getD (i : Int).toNat (0, 0, 0) = o := ho
    try simp only [eo]
    (repeat' with_reducible first | refine And.intro ?_ ?_ | intro _) <;> try first | with_reducible (first | assumption | omega | contradiction) | decide
    all_goals first
     | (have h : p1 = o.1 ∧ p2 = o.2.1 ∧ p3 = o.2.2 := by assumption
        exact (idxV_at (d := pl0) hz (by omega) (by show decide (l.getD i pl0 = _) = true; rw [ho]; exact decide_eq_true ((pltE (p1, p2, p3) o).mp h).symm)).symm)
     | (have h : ¬ p1 = o.1 ∨ ¬ p2 = o.2.1 ∨ ¬ p3 = o.2.2 := by assumption
        refine fin_lp ⟨i + 1, by omega, lt_succ hz (by show decide (l.getD i pl0 = _) = false; rw [ho]; exact decide_eq_false (fun e => (pltN (p1, p2, p3) o).mp h e.symm))⟩ (by simp only [go_sem]; first | rfl | ((repeat' apply And.intro) <;> first | rfl | assumption | omega)) (by dsimp only; omega)
        done)
     | exact (idxV_none (d := pl0) fun k hk => hz k (by omega)).symm)
def con46 : Con := { ps := [.d false (.sl yPL), .d true yPL], rs := [.d false .bool], pre := fun _ => True, out := fun (x : List Plt × Plt × Unit) => (x.1.any (fun y => decide (y = x.2.1)), ()), nw := id }
theorem c46 : CtrOk Tryz.prog 46 con46.ctr :=
 con_sound (G := ⟨[(82, con82.ctr)], [], [], [], []⟩) tab_ok (EnvOk.cons c82 has82 EnvOk.nil) rfl Tryz.func46 rfl con46 27 (by kernel_rfl) (by decide) (by decide) rfl (by decide) rfl (by
  rintro ⟨(l : List Plt), ⟨(p1 : Int), (p2 : Int), (p3 : Int)⟩, _⟩ hpre hwf X hT hG hk hK
  (simp -implicitDefEqProofs only [go_sem, bP, con46, con82, hT, hG, hk, hK, Tryz.results46] at hwf ⊢)
  intro _; exact idx_any _ l pl0)
def conCtN : Go.Ev.Raw := ⟨nstB con46.ctr⟩
theorem cCtN : CtrOk Tryz.prog 46 conCtN.ctr := nst_ok c46
end Go.Proofs.YtkjpbhkldioggaaGreat

set_option maxRecDepth 100000
set_option maxHeartbeats 8000000
namespace Go.Proofs.YtkjpbhkldioggaaGreat
open Go.Ev
attribute [local go_sem] List.set_cons_succ List.set_cons_zero List.getD_cons_succ List.getD_cons_zero List.set_nil
def tk0 : Tsk := (0, [])
def addT (o : List Tsk) (p : Plt) (n : Int) : List Tsk :=
 if idxV (fun (t : Tsk) => decide (t.1 = n)) o < 0 then o ++ [(n, [p])]
 else o.set (idxV (fun (t : Tsk) => decide (t.1 = n)) o).toNat ((o.getD (idxV (fun (t : Tsk) => decide (t.1 = n)) o).toNat tk0).1, if (o.getD (idxV (fun (t : Tsk) => decide (t.1 = n)) o).toNat tk0).2.any (fun y => decide (y = p)) = true then (o.getD (idxV (fun (t : Tsk) => decide (t.1 = n)) o).toNat tk0).2 else (o.getD (idxV (fun (t : Tsk) => decide (t.1 = n)) o).toNat tk0).2 ++ [p])
def addL (o : List Tsk) (p : Plt) (ns : List Int) : List Tsk := ns.foldl (fun o n => addT o p n) o
def tskL (c : List Cnt) (l : List Plm) (ps : List Plt) : List Tsk := ps.foldl (fun o p => addL o p (candV c l p)) []
def sortT (l : List Tsk) : List Tsk := l.mergeSort (fun a b => decide (a.1 ≤ b.1))
def lostV (c : List Cnt) (l : List Plm) (p : Plt) : Bool := (candV c l p).any (fun n => decide (numIdx c n < 0))
def searchV (c : List Cnt) (l : List Plm) (w : List Plt) : List Tsk × Int :=
 if checkV c ≠ 0 then ([], checkV c) else if wantE w ≠ 0 then ([], wantE w) else if (sortBy pltC w).any (lostV c l) = true then ([], 6) else (sortT (tskL c l (sortBy pltC w)), 0)
def TkB (o : List Tsk) (r : Nat) : Prop := o.length ≤ r ∧ ∀ t ∈ o, t.2.length ≤ r
theorem addT_b {o : List Tsk} {p : Plt} {n : Int} {r : Nat} (h : TkB o r) : TkB (addT o p n) (r + 1) := by
 obtain ⟨h1, h2⟩ := h; unfold addT; split
 · refine ⟨by rw [List.length_append, List.length_singleton]; omega, fun t ht => ?_⟩
   rcases List.mem_append.1 ht with h | h
   · have := h2 t h; omega
   · rw [List.mem_singleton.1 h]; show [p].length ≤ r + 1; simp
 · rename_i hi; obtain ⟨g1, _, _⟩ := idxV_spec (d := tk0) (p := fun (t : Tsk) => decide (t.1 = n)) (l := o) (by omega); have hm := h2 _ (getD_mem (d := tk0) g1); refine ⟨by rw [List.length_set]; omega, fun t ht => ?_⟩
   rcases List.mem_or_eq_of_mem_set ht with h | h
   · have := h2 t h; omega
   · rw [h]; show (if _ then _ else _ : List Plt).length ≤ r + 1; split
     · omega
     · rw [List.length_append, List.length_singleton]; omega
theorem addL_b {p : Plt} : ∀ (ns : List Int) {o : List Tsk} {r : Nat}, TkB o r → TkB (addL o p ns) (r + ns.length)
 | [], o, r, h => h
 | n :: ns, o, r, h => by
   have := addL_b (p := p) ns (addT_b (p := p) (n := n) h); rw [List.length_cons, show r + (ns.length + 1) = r + 1 + ns.length by omega]; exact this
theorem TkB.mono {o : List Tsk} {r s : Nat} (h : TkB o r) (hs : r ≤ s) : TkB o s := ⟨Nat.le_trans h.1 hs, fun t ht => Nat.le_trans (h.2 t ht) hs⟩
theorem candV_len {c : List Cnt} {l : List Plm} (h : ∀ x ∈ l, x.2.2.length ≤ 1000) (p : Plt) : (candV c l p).length ≤ 1000 := by
 unfold candV; split
 · rename_i x hx; exact h x (List.mem_of_find?_eq_some hx)
 · split <;> simp
theorem tskL_b {c : List Cnt} {l : List Plm} (h : ∀ x ∈ l, x.2.2.length ≤ 1000) (ps : List Plt) : TkB (tskL c l ps) (ps.length * 1000) := by
 have key : ∀ (ps : List Plt) (o : List Tsk) (r : Nat), TkB o r → TkB (ps.foldl (fun o p => addL o p (candV c l p)) o) (r + ps.length * 1000) := by
  intro ps
  induction ps with
  | nil => intro o r h; simpa using h
  | cons p ps ih =>
    intro o r ho; have h1 := addL_b (p := p) (candV c l p) ho; have h2 := ih _ _ (h1.mono (Nat.add_le_add_left (candV_len h p) r)); rw [List.length_cons, show r + (ps.length + 1) * 1000 = r + 1000 + ps.length * 1000 by omega]; exact h2
 have := key ps [] 0 ⟨Nat.le_refl _, fun t ht => by cases ht⟩
 rwa [Nat.zero_add] at this
theorem tskL_snoc (c : List Cnt) (l : List Plm) (ps : List Plt) (p : Plt) : tskL c l (ps ++ [p]) = addL (tskL c l ps) p (candV c l p) := by
 unfold tskL; rw [List.foldl_append]; rfl
theorem addL_snoc (o : List Tsk) (p : Plt) (ns : List Int) (n : Int) : addL o p (ns ++ [n]) = addT (addL o p ns) p n := by
 unfold addL; rw [List.foldl_append]; rfl
def TkN (o : List Tsk) : Prop := (o.map (fun t => t.1)).Nodup
theorem addT_n {o : List Tsk} {p : Plt} {n : Int} (h : TkN o) : TkN (addT o p n) := by
 unfold addT; split
 · rename_i hi; have := idxV_neg hi; unfold TkN at h ⊢; rw [List.map_append, List.nodup_append]; refine ⟨h, by simp, fun a ha b hb => ?_⟩; obtain ⟨t, ht, rfl⟩ := List.mem_map.1 ha; have hb : b = n := by simpa using hb
   have := this t ht; rw [hb]; exact of_decide_eq_false this
 · unfold TkN at h ⊢; rw [List.map_set]; have : (o.map (fun t : Tsk => t.1)).set (idxV (fun (t : Tsk) => decide (t.1 = n)) o).toNat (o.getD (idxV (fun (t : Tsk) => decide (t.1 = n)) o).toNat tk0).1 = o.map (fun t => t.1) := by
    apply List.ext_getElem?; intro i; rw [List.getElem?_set]; split
    · rename_i e; subst e; split
      · rename_i hl; rw [List.length_map] at hl; rw [List.getElem?_map, List.getElem?_eq_getElem hl, getD_lt hl]; rfl
      · rename_i hl; rw [List.getElem?_eq_none (by omega)]
    · rfl
   rw [this]; exact h
theorem addL_n {p : Plt} : ∀ (ns : List Int) {o : List Tsk}, TkN o → TkN (addL o p ns)
 | [], o, h => h
 | n :: ns, o, h => addL_n ns (addT_n h)
theorem tskL_n (c : List Cnt) (l : List Plm) (ps : List Plt) : TkN (tskL c l ps) := by
 have key : ∀ (ps : List Plt) (o : List Tsk), TkN o → TkN (ps.foldl (fun o p => addL o p (candV c l p)) o) := by
  intro ps
  induction ps with
  | nil => intro o h; exact h
  | cons p ps ih => intro o ho; exact ih _ (addL_n _ ho)
 exact key ps [] .nil
theorem sortT_eq {l z : List Tsk} (hn : TkN l) (hp : z.Perm l) (hs : z.Pairwise (fun a b => ¬ cmpV b.1 a.1 < 0)) : z = sortT l := by
 have hc : ∀ a b : Int, ¬ cmpV b a < 0 → a ≤ b := fun a b h => by
  unfold cmpV at h; apply Classical.byContradiction; intro q; rw [if_pos (by omega)] at h; omega
 refine List.Perm.eq_of_pairwise (le := fun a b : Tsk => a.1 ≤ b.1) (fun a b ha hb h1 h2 => ?_) (hs.imp fun h => hc _ _ h) ?_ (hp.trans (List.mergeSort_perm l _).symm)
 · have ha := hp.subset ha; have hb := (List.mergeSort_perm l _).subset hb; have e : a.1 = b.1 := by omega
   obtain ⟨i, hi, rfl⟩ := List.mem_iff_getElem.1 ha; obtain ⟨j, hj, rfl⟩ := List.mem_iff_getElem.1 hb; have : i = j := by
    unfold TkN at hn; exact (List.getElem_inj (h₀ := by simpa using hi) (h₁ := by simpa using hj) hn).1 (by simpa using e)
   subst this; rfl
 · have := List.pairwise_mergeSort (le := fun a b : Tsk => decide (a.1 ≤ b.1)) (fun a b d h1 h2 => by simp at *; omega) (fun a b => by simp; omega) l; exact this.imp (fun h => by simpa using h)
def con48 : Con := { ps := [.d true yTK, .d true yTK], rs := [.d false yI], pre := fun _ => True, out := fun (x : Tsk × Tsk × Unit) => (cmpV x.1.1 x.2.1.1, ()), nw := id }
theorem c48 : CtrOk Tryz.prog 48 con48.ctr :=
 con_sound (G := ⟨[(49, con49.ctr)], [], [], [], []⟩) tab_ok (EnvOk.cons c49 has49 EnvOk.nil) rfl Tryz.func48 rfl con48 31 (by kernel_rfl) (by decide) (by decide) rfl (by decide) rfl (by
  rintro ⟨⟨(a : Int), (b : List Plt)⟩, ⟨(c : Int), (d : List Plt)⟩, _⟩ hpre hwf X hT hG hk hK
  (simp -implicitDefEqProofs only [go_sem, bP, con48, con49, hT, hG, hk, hK, Tryz.results48] at hwf ⊢))
def con47 : RCon := sortFCon 53 yTK 48 (fun (a b : Tsk) => cmpV a.1 b.1)
theorem swoT : Go.Sort.SWO (fun (x y : Tsk) => decide (cmpV x.1 y.1 < 0)) := by
 obtain ⟨h1, h2, h3⟩ := cmpV_cmp.swo; exact ⟨fun x => h1 x.1, fun x y z => h2 x.1 y.1 z.1, fun x y z => h3 x.1 y.1 z.1⟩
theorem c47 : RCtrOk Tryz.prog 47 con47.rctr := sort_func (e := 53) (t := yTK) Tryz.sortT (by decide) Tryz.isAgg53 Tryz.sizeOf53 (hS := by unfold StrictP; rw [← Array.all_toList]; kernel_rfl) (c := fun (a b : Tsk) => cmpV a.1 b.1) c48 has48 swoT
def conSrS : RRaw := ⟨sealR con47.rctr⟩
theorem cSrS : RCtrOk Tryz.prog 47 conSrS.rctr := sealR_ok c47
theorem putSls_tk : ∀ (o : List Tsk), putSls yPL yTK (o.map (fun t => ((t.1, []) : Tsk))) (o.map (fun t => t.2)) = o
 | [] => rfl
 | t :: o => by
   have := putSls_tk o; unfold putSls at this ⊢; rw [List.map_cons, List.map_cons, List.zip_cons_cons, List.map_cons, this]; rfl
theorem idxV_mapT (n : Int) (o : List Tsk) : idxV (fun (t : Tsk) => decide (t.1 = n)) (o.map (fun t => ((t.1, []) : Tsk))) = idxV (fun (t : Tsk) => decide (t.1 = n)) o := by
 unfold idxV; rw [List.findIdx?_map]; rfl
theorem tk_set1 {P : List Tsk} {k : Nat} (hk : k < P.length) (x : List Plt) : (P.set k ((P.getD k tk0).1, x)).map (fun t => ((t.1, []) : Tsk)) = P.map (fun t => ((t.1, []) : Tsk)) := by
 rw [List.map_set]; apply List.ext_getElem?; intro i; rw [List.getElem?_set]; split
 · rename_i e; subst e; rw [List.length_map, if_pos hk, List.getElem?_map, List.getElem?_eq_getElem hk, getD_lt hk]; rfl
 · rfl
theorem tk_set2 (P : List Tsk) (k : Nat) (a : Int) (x : List Plt) : (P.set k (a, x)).map (fun t => t.2) = (P.map (fun t => t.2)).set k x := by rw [List.map_set]
theorem tk_set3 {P : List Tsk} {k : Nat} (hk : k < P.length) : P.set k ((P.getD k tk0).1, (P.getD k tk0).2) = P := by
 rw [getD_lt hk]; exact List.set_getElem_self hk
theorem tk_get {P : List Tsk} {k : Nat} (hk : k < P.length) : (P.map (fun t => t.2)).getD k [] = (P.getD k tk0).2 := by
 rw [gdE, List.getElem?_map, List.getElem?_eq_getElem hk, getD_lt hk]; rfl
theorem tk_end (P : List Tsk) : (P.map (fun t => t.2) ++ [([] : List Plt)]).getD P.length [] = [] := by
 rw [gdE, List.getElem?_append_right (by rw [List.length_map]; exact Nat.le_refl _), List.length_map, Nat.sub_self]; rfl
theorem tk_end2 (P : List Tsk) (x : List Plt) : (P.map (fun t => t.2) ++ [([] : List Plt)]).set P.length x = P.map (fun t => t.2) ++ [x] := by
 rw [List.set_append_right _ _ (by rw [List.length_map]; exact Nat.le_refl _), List.length_map, Nat.sub_self]; rfl
def con13 : Con := { ps := [.d false (.sl yCT), .d false (.sl yPM), .d false (.sl yPL)], rs := [.d false (.sl yTK), .d false yI], pre := fun (x : List Cnt × List Plm × List Plt × Unit) => x.2.2.1.length ≤ 1000 ∧ ∀ y ∈ x.2.1, y.2.2.length ≤ 1000, out := fun (x : List Cnt × List Plm × List Plt × Unit) => ((searchV x.1 x.2.1 x.2.2.1).1, (searchV x.1 x.2.1 x.2.2.1).2, ()), nw := id }
attribute [local go_sem] nstB
theorem c13 : CtrOk Tryz.prog 13 con13.ctr :=
 con_sound (G := ⟨[(22, con22.ctr), (39, con39.ctr), (41, con41.ctr), (40, con40.ctr), (43, con43.ctr), (44, con44.ctr), (46, conCtN.ctr)], [(45, con45.rctr), (47, conSrS.rctr)], [(10, 53), (55, 53), (65, 10), (73, 5)], [], []⟩) tab_ok (EnvOk.cons c22 has22 (EnvOk.cons c39 has39 (EnvOk.cons c41 has41 (EnvOk.cons c40 has40 (EnvOk.cons c43 has43 (EnvOk.cons c44 has44 (EnvOk.cons cCtN has46 (EnvOk.rcons c45 has45 (EnvOk.rcons cSrS has47 EnvOk.nil))))))))) rfl Tryz.func13 rfl con13 295150229413538879431 (by kernel_rfl) (by decide) (by decide) rfl (by decide) rfl (by
  rintro ⟨(c : List Cnt), (l : List Plm), (w : List Plt), _⟩ hpre hwf X hT hG hk hK; obtain ⟨hw, hl⟩ : w.length ≤ 1000 ∧ ∀ y ∈ l, y.2.2.length ≤ 1000 := hpre
  (simp -implicitDefEqProofs only [go_sem, bP, con13, con22, con39, con41, con40, con43, con44, conCtN, con45, conSrS, hT, hG, hk, hK, Tryz.results13, con46, con47, sortFCon] at hwf ⊢); (try simp (disch := decide +kernel) only [drawn, true_and, and_true])
  clear hwf; intro _; refine ⟨fun h => ?_, fun h => ⟨by omega, fun _ => ⟨fun h2 => ?_, fun h2 _ => ⟨by omega, fun _ _ => ?_⟩⟩⟩⟩
  · have e : searchV c l w = ([], checkV c) := by unfold searchV; rw [if_pos h]
    rw [e]; exact ⟨rfl, rfl⟩
  · have e : searchV c l w = ([], wantE w) := by unfold searchV; rw [if_neg (by omega), if_pos h2]
    rw [e]; exact ⟨rfl, rfl⟩
  have hSl : (sortBy pltC w).length = w.length := (sortBy_perm pltC w).length_eq; have hsv : (sortBy pltC w).any (lostV c l) = true → searchV c l w = ([], 6) := fun q => by unfold searchV; rw [if_neg (by omega), if_neg (by omega), if_pos q]
  have hsn : ¬ (sortBy pltC w).any (lostV c l) = true → searchV c l w = (sortT (tskL c l (sortBy pltC w)), 0) := fun q => by unfold searchV; rw [if_neg (by omega), if_neg (by omega), if_neg q]
  generalize sortBy pltC w = S at hSl hsv hsn ⊢; refine evk_loop ⟨{ i : Nat // i ≤ S.length ∧ ∀ k, k < i → lostV c l (S.getD k pl0) = false }, 1000, fun q => [(0, .one (.sl yCT c false)), (1, .one (.sl yPM l false)), (10, .one (.row 64)), (28, .one (.row 66)), (29, .one (.int .i64 S.length)), (30, .one (.int .i64 q.1))],
   fun q => [(64, .rowg 53 yTK 1 65 ((tskL c l (S.take q.1)).map (fun t => ((t.1, []) : Tsk))) none), (65, .fam 45 yPL ((tskL c l (S.take q.1)).map (fun t => t.2))), (66, .row 45 yPL S)], fun q => S.length - q.1⟩ ⟨0, Nat.zero_le _, fun k hk => by omega⟩ ?_ ?_
  · simp only [go_sem]
    try first | rfl | (and_intros <;> first | trivial | rfl | omega)
  · rintro ⟨i, (hi : i ≤ S.length), hz⟩
    (simp -implicitDefEqProofs only [go_sem, bP, con13, con22, con39, con41, con40, con43, con44, conCtN, con45, conSrS, hT, hG, hk, hK, Tryz.results13, con46, con47, sortFCon]); (try simp (disch := decide +kernel) only [drawn, true_and, and_true])
    obtain ⟨o, ho⟩ : ∃ o, S.getD i pl0 = o := ⟨_, rfl⟩; have eo : S.getD (i : Int).toNat (0, 0, 0) = o := ho
    try simp only [eo]
    have hb0 := (tskL_b (c := c) hl (S.take i)).mono (s := i * 1000) (by rw [List.length_take]; exact Nat.mul_le_mul_right _ (Nat.min_le_left _ _)); refine ⟨fun hlt => ⟨⟨by omega, hlt⟩, fun _ => ⟨⟨by omega, hlt⟩, fun _ _ _ => ?_⟩⟩, fun hge => ?_⟩
    · have hcl := candV_len (c := c) hl o; have hlo : lostV c l o = (candV c l o).any (fun n => decide (numIdx c n < 0)) := rfl; have hts : S.take (i + 1) = S.take i ++ [o] := by rw [tsE (by omega), ← getD_lt (d := pl0) (by omega), ho]
      have hnx := tskL_snoc c l (S.take i) o; rw [← hts] at hnx; have hlost : lostV c l o = true → searchV c l w = ([], 6) := fun q => hsv (List.any_eq_true.2 ⟨o, by rw [← ho]; exact getD_mem (by omega), q⟩); generalize candV c l o = ns at hcl hlo hnx ⊢; generalize tskL c l (S.take i) = O at hb0 hnx ⊢; refine evk_loop ⟨{ j : Nat // j ≤ ns.length ∧ ∀ k, k < j → ¬ numIdx c (ns.getD k 0) < 0 }, 2000, fun q => [(0, .one (.sl yCT c false)), (1, .one (.sl yPM l false)), (10, .one (.row 64)), (28, .one (.row 66)), (29, .one (.int .i64 S.length)), (30, .one (.int .i64 i)), (12, .one (.loc 67 0)), (37, .one (.sl yI ns false)), (38, .one (.int .i64 ns.length)), (39, .one (.int .i64 q.1))],
       fun q => [(64, .rowg 53 yTK 1 65 ((addL O o (ns.take q.1)).map (fun t => ((t.1, []) : Tsk))) none), (65, .fam 45 yPL ((addL O o (ns.take q.1)).map (fun t => t.2))), (66, .row 45 yPL S), (67, .cells 45 [.int .i64 o.1, .int .i64 o.2.1, .int .i64 o.2.2])], fun q => ns.length - q.1⟩ ⟨0, Nat.zero_le _, fun k hk => by omega⟩ ?_ ?_
      · simp only [go_sem]
        try first | rfl | (and_intros <;> first | trivial | rfl | omega)
      · rintro ⟨j, (hj : j ≤ ns.length), hzj⟩
        (simp -implicitDefEqProofs only [go_sem, bP, con13, con22, con39, con41, con40, con43, con44, conCtN, con45, conSrS, hT, hG, hk, hK, Tryz.results13, con46, con47, sortFCon]); (try simp (disch := decide +kernel) only [drawn, true_and, and_true])
        obtain ⟨n, hn⟩ : ∃ n, ns.getD j 0 = n := ⟨_, rfl⟩; have en : ns.getD (j : Int).toNat 0 = n := hn
        try simp only [en, idxV_mapT]
        have hbj : TkB (addL O o (ns.take j)) (i * 1000 + j) := (addL_b (p := o) (ns.take j) hb0).mono (by rw [List.length_take]; omega); have hstep : j < ns.length → addL O o (ns.take (j + 1)) = addT (addL O o (ns.take j)) o n := fun h => by rw [tsE h, ← getD_lt (d := 0) h, hn, addL_snoc]
        refine ⟨fun hjl => ⟨⟨by omega, hjl⟩, fun _ _ _ => ⟨fun hneg => ?_, fun hpos a ha => ?_⟩⟩, fun hje => ?_⟩
        · have e := hlost (by rw [hlo]; exact List.any_eq_true.2 ⟨n, by rw [← hn]; exact getD_mem (by omega), decide_eq_true hneg⟩); rw [e]; exact ⟨rfl, rfl⟩
        · have hst := hstep (by omega); generalize addL O o (ns.take j) = P at hbj hst ha ⊢; unfold addT at hst; cases a
          · have ha : idxV (fun (t : Tsk) => decide (t.1 = n)) P < 0 := ha; rw [if_pos ha] at hst
            (simp -implicitDefEqProofs only [go_sem, bP, con13, con22, con39, con41, con40, con43, con44, conCtN, con45, conSrS, hT, hG, hk, hK, Tryz.results13, con46, con47, sortFCon]); (try simp (disch := decide +kernel) only [drawn, true_and, and_true])
            have eL : (((P.map (fun t => ((t.1, []) : Tsk)) ++ [((n, []) : Tsk)]).length : Int) - 1) = (P.length : Int) := by simp
            have eN : ((P.length : Int)).toNat = P.length := by omega
            have eM : (P.map (fun t => ((t.1, []) : Tsk))).length = P.length := List.length_map _; have eM2 : (P.map (fun t => ((t.1, []) : Tsk)) ++ [((n, []) : Tsk)]).length = P.length + 1 := by simp
            have eM3 : (P.map (fun t => t.2) ++ [([] : List Plt)]).length = P.length + 1 := by simp
            have hb1 := hbj.1; simp only [eL, eN, tk_end, tk_end2, List.any_nil, List.length_nil, List.nil_append]; simp only [eM, eM2, eM3]
            (repeat' with_reducible first | refine And.intro ?_ ?_ | intro _) <;> try first | with_reducible (first | assumption | omega | contradiction) | decide
            all_goals first
             | omega
             | (refine fin_lp ⟨j + 1, by omega, lt_succ hzj (by rw [hn]; exact hpos)⟩ ?_ (by dsimp only; omega)
                simp only [go_sem]; rw [hst]; simp
                done)
          · have ha : 0 ≤ idxV (fun (t : Tsk) => decide (t.1 = n)) P := ha; rw [if_neg (by omega)] at hst
            (simp -implicitDefEqProofs only [go_sem, bP, con13, con22, con39, con41, con40, con43, con44, conCtN, con45, conSrS, hT, hG, hk, hK, Tryz.results13, con46, con47, sortFCon]); (try simp (disch := decide +kernel) only [drawn, true_and, and_true])
            refine ⟨fun hF => hF.elim, ?_⟩; obtain ⟨hk, _, _⟩ := idxV_spec (d := tk0) ha; obtain ⟨k, hkk⟩ : ∃ k : Nat, idxV (fun (t : Tsk) => decide (t.1 = n)) P = k := ⟨(idxV (fun (t : Tsk) => decide (t.1 = n)) P).toNat, by omega⟩; rw [hkk] at hk hst ⊢; have hk : k < P.length := hk; have eN : ((k : Int)).toNat = k := by omega
            have eM : (P.map (fun t => ((t.1, []) : Tsk))).length = P.length := List.length_map _; have eM3 : (P.map (fun t => t.2)).length = P.length := List.length_map _; simp only [eN] at hst ⊢; have hb2 := hbj.2 _ (getD_mem (d := tk0) hk); have hs1 := tk_set1 hk; have hs3 := tk_set3 hk; have hg := tk_get hk; simp only [hg, eM, eM3, List.set_set]; generalize P.getD k tk0 = t0 at hst hb2 hs1 hs3 hg ⊢
            (repeat' with_reducible first | refine And.intro ?_ ?_ | intro _) <;> try first | with_reducible (first | assumption | omega | contradiction) | decide
            all_goals first
             | omega
             | (have h : (t0.2.any fun y => decide (y = o)) = false := by assumption
                rw [if_neg (by rw [h]; simp)] at hst; refine fin_lp ⟨j + 1, by omega, lt_succ hzj (by rw [hn]; exact hpos)⟩ ?_ (by dsimp only; omega); simp only [go_sem]; rw [hst, hs1, tk_set2]
                try first | rfl | (and_intros <;> first | trivial | rfl | omega)
                done)
             | (have h : (t0.2.any fun y => decide (y = o)) = true := by assumption
                rw [if_pos h, hs3] at hst; refine fin_lp ⟨j + 1, by omega, lt_succ hzj (by rw [hn]; exact hpos)⟩ ?_ (by dsimp only; omega); simp only [go_sem]; rw [hst]
                try first | rfl | (and_intros <;> first | trivial | rfl | omega)
                done)
        · have hjn : j = ns.length := by omega
          have hlf : lostV c l o = false := by
           rw [hlo, List.any_eq_false]; intro x hx; obtain ⟨k, hk, rfl⟩ := List.mem_iff_getElem.1 hx; have := hzj k (by omega); rw [getD_lt hk] at this; simpa using this
          refine ⟨by omega, ?_⟩; refine fin_lp ⟨i + 1, by omega, lt_succ hz (by rw [ho]; exact hlf)⟩ ?_ (by dsimp only; omega); simp only [go_sem]; rw [hnx, hjn, List.take_length]
          try first | rfl | (and_intros <;> first | trivial | rfl | omega)
    · have hiS : i = S.length := by omega
      have hall : ¬ S.any (lostV c l) = true := by
       intro q; obtain ⟨x, hx, hq⟩ := List.any_eq_true.1 q; obtain ⟨k, hk, rfl⟩ := List.mem_iff_getElem.1 hx; have := hz k (by omega); rw [getD_lt hk, hq] at this; cases this
      have hb1 := hb0.1; have e := hsn hall; rw [hiS, List.take_length] at hb1 ⊢; have hN := tskL_n c l S; rw [putSls_tk]; refine ⟨by omega, fun a ha => ?_⟩; rw [e]; exact ⟨rfl, sortT_eq hN ha.1 ha.2⟩)
end Go.Proofs.YtkjpbhkldioggaaGreat

set_option maxRecDepth 100000
set_option maxHeartbeats 8000000
namespace Go.Proofs.YtkjpbhkldioggaaGreat
open Go.Ev
end Go.Proofs.YtkjpbhkldioggaaGreat

set_option maxRecDepth 100000
set_option maxHeartbeats 4000000
namespace Go.Proofs.YtkjpbhkldioggaaGreat
open Go.Ev Go.RowKit
theorem copied_walk (v : Value) (n : Nat) (w : World) (hbig : n ≤ 9223372036854775807) (I : Nat → World → Option Addr → Nat → Prop)
 (hcl : Calls Tryz.prog 25 #[v] w fun e w1 => ∃ a cap, e = .returned (.slice a n cap) ∧ I 0 w1 a cap)
 (hr : ∀ k wr a cap, k < n → I k wr a cap → ∃ g off pv, a = some ⟨g, off, none⟩ ∧ wr.cell? ⟨g, off + k * 11 + 10, none⟩ = some pv ∧ Calls Tryz.prog 27 #[pv] wr fun e w2 => ∃ a2 n2 c2 old, e = .returned (.slice a2 n2 c2) ∧ w2.cell? ⟨g, off + k * 11 + 10, none⟩ = some old ∧ w2.frozen? ⟨g, off + k * 11 + 10, none⟩ = false ∧ I (k + 1) (w2.setCell ⟨g, off + k * 11 + 10, none⟩ (.slice a2 n2 c2)) a cap) :
 Calls Tryz.prog 50 #[v] w fun e w' => ∃ a cap, e = .returned (.slice a n cap) ∧ I n w' a cap := by
 go_enter Tryz.func50, Tryz.ntmps50
 go_wp2_with (go_at_call 25; refine hcl.mono ?_; rintro e w1 ⟨a, cap, rfl, hI0⟩)
 go_loopw [9] (fun i wr => ∃ k : Nat, k ≤ n ∧ i = .int .i64 k ∧ I k wr a cap) (fun i _ => n - (intOf i).toNat)
 case atStart => exact ⟨0, Nat.zero_le _, rfl, hI0⟩
 case round =>
  obtain ⟨k, hk, rfl, hI⟩ := hrel; by_cases hlt : k < n
  · obtain ⟨g, off, pv, rfl, hcell, hcall⟩ := hr k wr a cap hlt hI
    go_wp2_with (go_at_call 27; refine hcall.mono ?_; rintro e w2 ⟨a2, n2, c2, old, rfl, hst, hfz, hI3⟩)
    go_roundw
    case rel => exact ⟨k + 1, by omega, by go_num, hI3⟩
    case measure => simp only [intOf]; omega
  · obtain rfl : k = n := by omega
    go_wp2
    go_ret
    exact ⟨a, cap, rfl, hI⟩
theorem ct_cells {w : World} {O : Nat → Prop} {x : Cnt} {c : List Value} (h : ro w O yCT x c) : c.length = 11 ∧ (∀ u ∈ c, u.oneCell' = true) ∧ (∃ pv, c[10]? = some pv ∧ ro w O (.sl yPC) x.pcs [pv]) ∧ (∀ wX OX, ro wX OX yCT (setPcs x []) (c.set 10 (.slice none 0 0))) := by
 refine ⟨ro_len _ _ _ h, ro_one _ _ _ h, ?_⟩; obtain ⟨c1, d1, rfl, h1, c2, d2, rfl, h2, c3, d3, rfl, h3, c4, d4, rfl, h4, c5, d5, rfl, h5, c6, d6, rfl, h6, c7, d7, rfl, h7, h8⟩ := h; obtain ⟨e1, f1, rfl, g1, e2, f2, rfl, g2, e3, f3, rfl, g3, g4⟩ := h2; obtain ⟨rfl, r1⟩ := h1; obtain ⟨rfl, r3⟩ := h3; obtain ⟨rfl, r4⟩ := h4; obtain ⟨rfl, r5⟩ := h5; obtain ⟨rfl, r6⟩ := h6; obtain ⟨rfl, r7⟩ := h7; obtain ⟨rfl, s1⟩ := g1; obtain ⟨rfl, s2⟩ := g2; obtain ⟨rfl, s3⟩ := g3; obtain ⟨rfl, s4⟩ := g4; have h9 := h8; obtain ⟨a, n, cap, rfl, hh⟩ := h8; refine ⟨⟨_, rfl, h9⟩, fun wX OX => ?_⟩; exact ⟨_, _, rfl, ⟨rfl, r1⟩, _, _, rfl, ⟨_, _, rfl, ⟨rfl, s1⟩, _, _, rfl, ⟨rfl, s2⟩, _, _, rfl, ⟨rfl, s3⟩, ⟨rfl, s4⟩⟩, _, _, rfl, ⟨rfl, r3⟩, _, _, rfl, ⟨rfl, r4⟩, _, _, rfl, ⟨rfl, r5⟩, _, _, rfl, ⟨rfl, r6⟩, _, _, rfl, ⟨rfl, r7⟩, none, 0, 0, rfl, rfl, Nat.le_refl _, by simp [maxLen], .inl rfl⟩
theorem roAll_mix {w : World} {O : Nat → Prop} {y : Rx} : ∀ (l : List Cnt) (vs f0 f1 : List Value), vs.length = l.length → roAll (ro w O yCT) l f0 → f1.length = l.length * 11 → (∀ i, i < l.length * 11 → f1[i]? = if i % 11 = 10 then vs[i / 11]? else f0[i]?) → (∀ v ∈ vs, v.oneCell' = true) →
 roAll (elG y yCT 10) ((l.map (fun o => setPcs o [])).zip (vs.map some)) f1
 | [], [], f0, f1, _, _, hl, _, _ => List.eq_nil_of_length_eq_zero (by simpa using hl)
 | o :: l, v :: vs, _, f1, h1, ⟨c, d, rfl, hc, hd⟩, hl, hi, hv => by
   obtain ⟨q1, q2, q3, q4⟩ := ct_cells hc; rw [List.length_cons] at hl hi; have e1 : f1.take 11 = c.set 10 v := by
    apply List.ext_getElem?; intro i; by_cases hi11 : i < 11
    · rw [List.getElem?_take_of_lt hi11, hi i (by omega), List.getElem?_set]; by_cases e : i = 10
      · subst e; rw [if_pos (by decide), if_pos rfl, if_pos (by omega)]; rfl
      · rw [if_neg (by omega), if_neg (by omega), List.getElem?_append_left (by omega)]
    · rw [List.getElem?_eq_none (by rw [List.length_take]; omega), List.getElem?_eq_none (by rw [List.length_set]; omega)]
   refine ⟨c.set 10 v, f1.drop 11, by rw [← e1, List.take_append_drop], ⟨by rw [List.length_set]; omega, fun u hu => ?_, fun u hu => ?_, ?_⟩, roAll_mix l vs d (f1.drop 11) (by simpa using h1) hd (by rw [List.length_drop]; omega) (fun i hil => ?_) (fun u hu => hv u (List.mem_cons_of_mem _ hu))⟩
   · cases hu; rw [List.getElem?_set, if_pos rfl, if_pos (by omega)]
   · rcases List.mem_or_eq_of_mem_set hu with h | h
     · exact q2 u h
     · rw [h]; exact hv v List.mem_cons_self
   · rw [List.set_set]; exact q4 _ _
   · rw [List.getElem?_drop, hi (11 + i) (by omega), show (11 + i) % 11 = i % 11 by omega, show (11 + i) / 11 = i / 11 + 1 by omega, List.getElem?_cons_succ, List.getElem?_append_right (by omega), show 11 + i - c.length = i by omega]
theorem setCell_at {w : World} {g p : Nat} {cur : Array Value} {t : TypeId} (h : w.heap[g]? = some (.cells cur t (0, 0))) (u : Value) : (w.setCell ⟨g, p, none⟩ u).heap[g]? = some (.cells (cur.setIfInBounds p u) t (0, 0)) := by
 have hlt := lt_of_block h; have h' : w.heap[g] = .cells cur t (0, 0) := by simpa [Array.getElem?_eq_getElem hlt] using h
 show (w.heap.modify g _)[g]? = _; rw [Array.getElem?_eq_getElem (by simpa using hlt), Array.getElem_modify_self, h']; rfl
structure CpI (cxb : Cx) (l : List Cnt) (w1 : World) (v1 : Value) (f0 : List Value) (k : Nat) (wr : World) : Prop where
 evo : Evo cxb wr
 size : w1.heap.size ≤ wr.heap.size
 same : ∀ b, b < w1.heap.size → blkOf v1 ≠ some b → wr.heap[b]? = w1.heap[b]?
 ex : ∃ (vs f1 : List Value), vs.length = k ∧ RowR wr 85 11 v1 l.length f1 ∧ (∀ i, i < l.length * 11 → f1[i]? = if i % 11 = 10 ∧ i / 11 < k then vs[i / 11]? else f0[i]?) ∧
  (∀ (j : Nat) v, vs[j]? = some v → v.oneCell' = true ∧ (∀ b, blkOf v = some b → w1.heap.size ≤ b ∧ b < wr.heap.size) ∧ ∃ fl, RowR wr 59 5 v (l.getD j ct0).pcs.length fl ∧ ∀ wX OX, roAll (ro wX OX yPC) (l.getD j ct0).pcs fl) ∧
  (∀ (i j : Nat) u v b, vs[i]? = some u → vs[j]? = some v → blkOf u = some b → blkOf v = some b → i = j)
theorem CpI.next {cxb : Cx} {l : List Cnt} {w1 w2 wr : World} {g cap : Nat} {f0 fl : List Value} {k : Nat} {a2 : Option Addr} {n2 c2 : Nat} (h : CpI cxb l w1 (.slice (some ⟨g, 0, none⟩) l.length cap) f0 k wr) (hk : k < l.length) (hcap : 0 < cap)
 (hg : g < w1.heap.size) (hg0 : cxb.w0.heap.size ≤ g) (hMu : ∀ b, ¬ cxb.Mu b) (hev : Evo cxb w2) (hs : wr.heap.size ≤ w2.heap.size) (hb : ∀ b, b < wr.heap.size → w2.heap[b]? = wr.heap[b]?)
 (hr : RowR w2 59 5 (.slice a2 n2 c2) (l.getD k ct0).pcs.length fl) (hro : ∀ wX OX, roAll (ro wX OX yPC) (l.getD k ct0).pcs fl) (hb2 : ∀ b, blkOf (.slice a2 n2 c2) = some b → wr.heap.size ≤ b ∧ b < w2.heap.size) :
 (∃ cur, w2.heap[g]? = some (.cells cur 85 (0, 0))) ∧ CpI cxb l w1 (.slice (some ⟨g, 0, none⟩) l.length cap) f0 (k + 1) (w2.setCell ⟨g, 0 + k * 11 + 10, none⟩ (.slice a2 n2 c2)) := by
 obtain ⟨vs, f1, e1, e2, e3, e4, e5⟩ := h.ex; obtain ⟨e6, e7⟩ := e2
 rcases e7 with ⟨q, _⟩ | ⟨g', cap', cur, p1, p2, p3, p4, p5, p6, p7⟩
 · omega
 cases p2; have hg2 : w2.heap[g]? = some (.cells cur 85 (0, 0)) := by rw [hb g (Nat.lt_of_lt_of_le hg h.size)]; exact p3
 have hoth : ∀ b, b ≠ g → (w2.setCell ⟨g, 0 + k * 11 + 10, none⟩ (.slice a2 n2 c2)).heap[b]? = w2.heap[b]? := fun b hbg => Below.heap_setCell w2 _ _ b hbg; have hsz : (w2.setCell ⟨g, 0 + k * 11 + 10, none⟩ (.slice a2 n2 c2)).heap.size = w2.heap.size := by simp [World.setCell]
 have hgv : ∀ b, blkOf (.slice (some ⟨g, 0, none⟩) l.length cap) ≠ some b ↔ b ≠ g := fun b => by rw [blkOf_slice hcap]; simp [eq_comm]
 refine ⟨⟨cur, hg2⟩, ⟨hev.os, hev.tape, hev.output, hev.drawn, by rw [hsz]; exact hev.size, fun b q1 q2 => by rw [hoth b (by omega)]; exact hev.block b q1 q2⟩, by rw [hsz]; exact Nat.le_trans h.size hs, fun b q1 q2 => ?_, vs ++ [.slice a2 n2 c2], f1.set (k * 11 + 10) (.slice a2 n2 c2), by simp [e1], ⟨by rw [List.length_set]; exact e6, .inr ⟨g, cap, cur.setIfInBounds (0 + k * 11 + 10) (.slice a2 n2 c2), p1, rfl, setCell_at hg2 _, p4, p5, by simpa using p6, ?_⟩⟩, fun i hi => ?_, fun j v hv => ?_, fun i j u v b hu hv hbu hbv => ?_⟩
 · rw [hoth b ((hgv b).1 q2), hb b (Nat.lt_of_lt_of_le q1 h.size)]; exact h.same b q1 q2
 · rw [← p7, Array.toList_setIfInBounds, List.take_set, Nat.zero_add]
 · rw [List.getElem?_set]; by_cases ei : k * 11 + 10 = i
   · rw [if_pos ei, if_pos (by omega), if_pos ⟨by omega, by omega⟩, show i / 11 = k by omega, List.getElem?_append_right (by omega), e1, Nat.sub_self]; rfl
   · rw [if_neg ei, e3 i hi]; by_cases q : i % 11 = 10 ∧ i / 11 < k
     · rw [if_pos q, if_pos ⟨q.1, by omega⟩, List.getElem?_append_left (by omega)]
     · rw [if_neg q, if_neg (fun r => q ⟨r.1, by omega⟩)]
 · by_cases hj : j < k
   · rw [List.getElem?_append_left (by omega)] at hv; obtain ⟨r1, r2, fl', r3, r4⟩ := e4 j v hv; refine ⟨r1, fun b hb' => ⟨(r2 b hb').1, by rw [hsz]; exact Nat.lt_of_lt_of_le (r2 b hb').2 hs⟩, fl', rowR_of_block r3 (fun b hb' => ?_), r4⟩; have := r2 b hb'; rw [hoth b (by omega), hb b this.2]
   · have hj2 := (List.getElem?_eq_some_iff.1 hv).1; rw [List.length_append, List.length_singleton, e1] at hj2; have : j = k := by omega
     subst this; rw [List.getElem?_append_right (by omega), e1, Nat.sub_self] at hv; cases hv; refine ⟨rfl, fun b hb' => ⟨Nat.le_trans h.size (hb2 b hb').1, by rw [hsz]; exact (hb2 b hb').2⟩, fl, rowR_of_block hr (fun b hb' => ?_), hro⟩; have h1 := (hb2 b hb').1; have h2 := h.size; exact hoth b (by omega)
 · have split : ∀ (j : Nat) v, (vs ++ [Value.slice a2 n2 c2])[j]? = some v → (j < k ∧ vs[j]? = some v) ∨ (j = k ∧ v = .slice a2 n2 c2) := fun j v hv => by
    by_cases hj : j < k
    · rw [List.getElem?_append_left (by omega)] at hv; exact .inl ⟨hj, hv⟩
    · have hj2 := (List.getElem?_eq_some_iff.1 hv).1; rw [List.length_append, List.length_singleton, e1] at hj2; rw [List.getElem?_append_right (by omega), e1, show j - k = 0 by omega] at hv; cases hv; exact .inr ⟨by omega, rfl⟩
   rcases split i u hu with ⟨i1, i2⟩ | ⟨i1, rfl⟩ <;> rcases split j v hv with ⟨j1, j2⟩ | ⟨j1, rfl⟩
   · exact e5 i j u v b i2 j2 hbu hbv
   · have h1 := ((e4 i u i2).2.1 b hbu).2; have h2 := (hb2 b hbv).1; omega
   · have h1 := ((e4 j v j2).2.1 b hbv).2; have h2 := (hb2 b hbu).1; omega
   · omega
def copG (fr : Nat) (l : List Cnt) : Eff := ⟨l.length ≤ 1000 ∧ ∀ o ∈ l, o.pcs.length ≤ 100000, .one (.row fr), [(fr + 1, .fam 59 yPC (l.map (fun o => o.pcs))), (fr, .rowg 85 yCT 10 (fr + 1) (l.map (fun o => setPcs o [])) none)], True⟩
def copO (fr : Nat) : Option (List Cnt) → Eff
 | some l => copG fr l
 | none => bad
def copV (fr : Nat) : AV → Eff
 | .one (.sl u xs _) => copO fr (castTy u yCT xs)
 | _ => bad
def copC : Ctr := fun avs _ fr => match avs with
 | [v] => copV fr v
 | _ => bad
theorem copC_inv {avs : List AV} {m : Mem} {fr : Nat} (hp : (copC avs m fr).pre) : ∃ (l : List Cnt) (cp : Bool), avs = [.one (.sl yCT l cp)] ∧ copC avs m fr = copG fr l := by
 unfold copC at hp ⊢; split at hp
 case h_2 => exact hp.elim
 rename_i v; unfold copV at hp; split at hp
 case h_2 => exact hp.elim
 rename_i u xs cp; unfold copO at hp; split at hp
 case h_2 => exact hp.elim
 rename_i l hcast; obtain ⟨e1, e2⟩ := castTy_eq hcast; subst e1; have e2 : xs = l := e2.symm; subst e2; exact ⟨xs, cp, rfl, by simp only [copV, hcast, copO]⟩
theorem bare_at {cx : Cx} {σ : Nat → Value} {N : Nat → Prop} {m : Mem} {w wr : World} (h : RepM cx σ N m w) (he : Evo (cx.bare w) wr) : RepM (cx.bare wr) σ N (fun _ => .dead) wr where
 blk _ := trivial
 fresh _ _ := rfl
 inj _ _ _ h := by cases h
 notF _ _ h := by cases h
 low _ _ h := by cases h
 evo := ⟨rfl, rfl, rfl, fun _ => Nat.le_refl _, Nat.le_refl _, fun _ _ _ => rfl⟩
 hF _ h := h.elim
 hone := h.hone
 fix _ h := absurd h (Nat.not_lt_zero _)
 mks _ h := by cases h
 gl := fun g v hg => by
  obtain ⟨h1, h2, h3, vs, e, hh, h4, h5⟩ := glOk_bare h g v hg; exact ⟨fun h => h, fun h => h, Nat.lt_of_lt_of_le h3 he.size, vs, e, hh, (he.block g h3 h1).trans h4, h5⟩
theorem evo_trans {cx : Cx} {w w1 w2 : World} (h1 : Evo (cx.bare w) w1) (h2 : Evo (cx.bare w1) w2) : Evo (cx.bare w) w2 :=
 ⟨h2.os.trans h1.os, h2.tape.trans h1.tape, h2.output.trans h1.output, fun d => Nat.le_trans (h1.drawn d) (h2.drawn d), Nat.le_trans h1.size h2.size, fun b hb hm => (h2.block b (Nat.lt_of_lt_of_le hb h1.size) hm).trans (h1.block b hb hm)⟩
theorem cloneC_eff (l : List Cnt) (cp : Bool) (fr : Nat) : con25.ctr [.one (.sl yCT l cp)] (fun _ => .dead) fr = ⟨l.length ≤ 100000, .one (.row fr), [(fr, .row 85 yCT l)], Wf (.sl yCT) l ∧ True⟩ := by
 simp [go_sem, con25]
theorem cloneP_eff (l : List Pce) (cp : Bool) (fr : Nat) : con27.ctr [.one (.sl yPC l cp)] (fun _ => .dead) fr = ⟨l.length ≤ 100000, .one (.row fr), [(fr, .row 59 yPC l)], Wf (.sl yPC) l ∧ True⟩ := by
 simp [go_sem, con27]
theorem copC_ok : CtrOk Tryz.prog 50 copC := by
 intro D gv hD cx hcx σ N m w fr avs vs h hfr hr hp; obtain ⟨l, cp, rfl, hC⟩ := copC_inv hp; rw [hC] at hp ⊢; obtain ⟨hl, hlo⟩ : l.length ≤ 1000 ∧ ∀ o ∈ l, o.pcs.length ≤ 100000 := hp; clear hC; have hb0 := repM_bare h; have hr2 := repAs_keep (keeps_bare h) _ _ hr; unfold repAs at hr; obtain ⟨v, vs', rfl, g1, g2⟩ := hr; unfold repAs at g2; subst g2; have hcl := c25 D gv hD (cx.bare w) hcx σ N (fun _ => .dead) w fr _ _ hb0 hfr hr2 (by rw [cloneC_eff]; exact Nat.le_trans hl (by decide)); rw [cloneC_eff] at hcl; have hown1 : ∀ (wr : World) b, ¬ Owned (cx.bare wr) σ (fun _ => .dead) b := fun wr b hb => hb.elim id (fun ⟨_, h, _⟩ => by cases h); have hcp : ∀ (wr : World) (pcs : List Pce) (pv : Value), Evo (cx.bare w) wr → pcs.length ≤ 100000 → ro wr (Owned (cx.bare wr) σ (fun _ => .dead)) (.sl yPC) pcs [pv] → Calls Tryz.prog 27 #[pv] wr fun e w2 => ∃ a2 n2 c2 fl, e = .returned (.slice a2 n2 c2) ∧ Evo (cx.bare w) w2 ∧ wr.heap.size ≤ w2.heap.size ∧ (∀ b, b < wr.heap.size → w2.heap[b]? = wr.heap[b]?) ∧
  RowR w2 59 5 (.slice a2 n2 c2) pcs.length fl ∧ (∀ wX OX, roAll (ro wX OX yPC) pcs fl) ∧ (∀ b, blkOf (.slice a2 n2 c2) = some b → wr.heap.size ≤ b ∧ b < w2.heap.size) := fun wr pcs pv he hpl hro => by
  have hb := bare_at h he; have hargs : repAs (rx (cx.bare wr) σ N (fun _ => .dead) wr) [.one (.sl yPC pcs false)] [pv] := by
   unfold repAs; refine ⟨pv, [], rfl, ?_, by unfold repAs; rfl⟩; unfold repA repC; exact ⟨hro, fun h => by cases h⟩
  have hc := c27 D gv hD (cx.bare wr) hcx σ N (fun _ => .dead) wr fr _ _ hb hfr hargs (by rw [cloneP_eff]; exact hpl); rw [cloneP_eff] at hc; refine hc.mono ?_; rintro e w2 ⟨v2, rfl, σ2, q1, q2, q3, _⟩; have hblk := q1.blk fr; have hm2 : updM (fun _ => Blk.dead) [(fr, .row 59 yPC pcs)] fr = .row 59 yPC pcs := by simp [updM, upd]
  simp only [hm2] at hblk; obtain ⟨n, fl, rfl, k1, k2⟩ := hblk; simp only [rx] at k1 k2; unfold repA repC at q3; have hv2 : v2 = σ2 fr := q3.2; have hbf : ∀ b, blkOf (σ2 fr) = some b → wr.heap.size ≤ b ∧ b < w2.heap.size := fun b hb => by
   have ho : own (updM (fun _ => Blk.dead) [(fr, .row 59 yPC pcs)] fr) = true := by rw [hm2]; rfl
   refine ⟨?_, repB_lt (q1.blk fr) ho b (.inl hb)⟩
   rcases q1.low fr b ho (.inl hb) with h1 | h1
   · exact h1
   · exact h1.elim
  have hfl : ∀ wX OX, roAll (ro wX OX yPC) pcs fl := fun wX OX => roAll_mono (fun x c hx => ro_flat yPC x c rfl hx) _ _ k2; have hev := evo_trans he q1.evo; have hsame : ∀ b, b < wr.heap.size → w2.heap[b]? = wr.heap[b]? := fun b hb => q1.evo.block b hb (fun h => h); rw [hv2]
  rcases k1.2 with ⟨_, a, e⟩ | ⟨g, cap, cur, _, e, _⟩
  · rw [e] at k1 hbf ⊢; exact ⟨a, 0, 0, fl, rfl, hev, q1.evo.size, hsame, k1, hfl, hbf⟩
  · rw [e] at k1 hbf ⊢; exact ⟨_, _, cap, fl, rfl, hev, q1.evo.size, hsame, k1, hfl, hbf⟩
 have hbig : l.length ≤ 9223372036854775807 := by omega
 refine (copied_walk v l.length w hbig (fun k wr a cap => ∃ w1 v1 f0 O1, v1 = .slice a l.length cap ∧ Evo (cx.bare w) w1 ∧ (∃ f, RowR w1 85 11 v1 l.length f) ∧ roAll (ro w1 O1 yCT) l f0 ∧ (∀ b, blkOf v1 = some b → O1 b) ∧ (∀ b, blkOf v1 = some b → w.heap.size ≤ b ∧ b < w1.heap.size) ∧ CpI (cx.bare w) l w1 v1 f0 k wr) ?_ ?_).mono ?_
 · refine hcl.mono ?_; rintro e w1 ⟨v1, rfl, σ1, q1, q2, q3, _⟩; have hblk := q1.blk fr; have hm2 : updM (fun _ => Blk.dead) [(fr, .row 85 yCT l)] fr = .row 85 yCT l := by simp [updM, upd]
   simp only [hm2] at hblk; obtain ⟨n, f0, rfl, k1, k2⟩ := hblk; simp only [rx] at k1 k2; unfold repA repC at q3; have hv2 : v1 = σ1 fr := q3.2; have ho : own (updM (fun _ => Blk.dead) [(fr, .row 85 yCT l)] fr) = true := by rw [hm2]; rfl
   have hbf : ∀ b, blkOf (σ1 fr) = some b → w.heap.size ≤ b ∧ b < w1.heap.size := fun b hb => by
    refine ⟨?_, repB_lt (q1.blk fr) ho b (.inl hb)⟩
    rcases q1.low fr b ho (.inl hb) with h1 | h1
    · exact h1
    · exact h1.elim
   have hOw : ∀ b, blkOf (σ1 fr) = some b → Owned (cx.bare w) σ1 (updM (fun _ => Blk.dead) [(fr, .row 85 yCT l)]) b := fun b hb => .inr ⟨fr, ho, .inl hb⟩; have hI : ∀ a cap, σ1 fr = .slice a l.length cap → CpI (cx.bare w) l w1 (σ1 fr) f0 0 w1 := fun a cap e =>
    ⟨q1.evo, Nat.le_refl _, fun b _ _ => rfl, [], f0, rfl, k1, fun i _ => by rw [if_neg (by omega)], fun j v hv => by simp at hv, fun i j u v b hu => by simp at hu⟩
   rcases k1.2 with ⟨hz, a, e⟩ | ⟨g, cap, cur, _, e, _⟩
   · have e' : σ1 fr = .slice a l.length 0 := by rw [e, hz]
     exact ⟨a, 0, by rw [hv2, e'], w1, σ1 fr, f0, _, e', q1.evo, ⟨f0, k1⟩, k2, hOw, hbf, hI a 0 e'⟩
   · exact ⟨_, cap, by rw [hv2, e], w1, σ1 fr, f0, _, e, q1.evo, ⟨f0, k1⟩, k2, hOw, hbf, hI _ _ e⟩
 · rintro k wr a cap hkl ⟨w1, v1, f0, O1, rfl, he1, ⟨f, hrow⟩, hf0, hO1, hv1, hI⟩; obtain ⟨vs, f1, e1, e2, e3, e4, e5⟩ := hI.ex
   rcases hrow.2 with ⟨q, _⟩ | ⟨g, cap', cur, p1, p2, _⟩
   · omega
   cases p2; have hbg : blkOf (.slice (some ⟨g, 0, none⟩) l.length cap) = some g := blkOf_slice p1; obtain ⟨pre, c, post, r1, r2, r3, _, _⟩ := roAll_at (n := (yCT : Ty).n) (fun x c hx => ro_len _ _ _ hx) hf0 hkl; have r2 : pre.length = k * 11 := r2; obtain ⟨t1, t2, ⟨pv, t3, t4⟩, _⟩ := ct_cells r3; have hpv : f0[k * 11 + 10]? = some pv := by
    rw [r1, List.getElem?_append_right (by omega), r2, show k * 11 + 10 - k * 11 = 10 by omega, List.getElem?_append_left (by omega)]; exact t3
   have hpv1 : f1[k * 11 + 10]? = some pv := by rw [e3 _ (by omega), if_neg (by omega)]; exact hpv
   have hcell := rowR_cells e2 hbg (k * 11 + 10) pv hpv1; have hlk : l.getD k ct0 = l[k] := getD_lt hkl; have hpcs : (l[k]).pcs.length ≤ 100000 := hlo _ (List.getElem_mem hkl); have hrow2 : ro wr (Owned (cx.bare wr) σ (fun _ => .dead)) (.sl yPC) (l[k]).pcs [pv] := ro_keep ⟨fun b hb hno => ⟨hown1 wr b, fun o ho _ => by
    rw [hI.same b hb (fun e => hno (hO1 b e))]; exact ho⟩⟩ _ _ _ t4
   refine ⟨g, 0, pv, rfl, by rw [show 0 + k * 11 + 10 = k * 11 + 10 by omega]; exact hcell, (hcp wr _ pv hI.evo hpcs hrow2).mono ?_⟩; rintro e w2 ⟨a2, n2, c2, fl, rfl, hev, hs, hsame, hr3, hro, hb2⟩; obtain ⟨hgl, hgu⟩ := hv1 g hbg; obtain ⟨⟨cur2, hc2⟩, hN⟩ := hI.next (fl := fl) (a2 := a2) (n2 := n2) (c2 := c2) hkl p1 hgu hgl (fun b h => h) hev hs hsame (by rw [hlk]; exact hr3) (by rw [hlk]; exact hro) hb2; refine ⟨a2, n2, c2, pv, rfl, ?_, by simp [World.frozen?, hc2], w1, _, f0, O1, rfl, he1, ⟨f, hrow⟩, hf0, hO1, hv1, hN⟩; rw [show 0 + k * 11 + 10 = k * 11 + 10 by omega]; have hgs : g < wr.heap.size := Nat.lt_of_lt_of_le hgu hI.size; rw [World.cell?_of_block (a := ⟨g, k * 11 + 10, none⟩) (hsame g hgs)]; exact hcell
 · rintro e w' ⟨a, cap, rfl, w1, v1, f0, O1, rfl, he1, ⟨f, hrow⟩, hf0, hO1, hv1, hI⟩; obtain ⟨vs, f1, e1, e2, e3, e4, e5⟩ := hI.ex; have hfr0 : N fr := hfr fr (Nat.le_refl _) (by omega); have hfr1 : N (fr + 1) := hfr (fr + 1) (by omega) (by omega); have hne : fr ≠ fr + 1 := by omega
   let m' : Mem := upd (upd m (fr + 1) (.fam 59 yPC (l.map (fun o => o.pcs)))) fr (.rowg 85 yCT 10 (fr + 1) (l.map (fun o => setPcs o [])) none)
   have m1 : m' fr = .rowg 85 yCT 10 (fr + 1) (l.map (fun o => setPcs o [])) none := upd_same _ _ _; have m2 : m' (fr + 1) = .fam 59 yPC (l.map (fun o => o.pcs)) := by simp only [m']; rw [upd_ne _ _ (fun k => hne k.symm), upd_same]
   have m3 : ∀ i, i ≠ fr → i ≠ fr + 1 → m' i = m i := fun i h1 h2 => by simp only [m']; rw [upd_ne _ _ h1, upd_ne _ _ h2]
   let σ' : Nat → Value := upd (upd σ fr (.slice a l.length cap)) (fr + 1) (.func (.func 0) #[] vs.toArray)
   have s1 : σ' fr = .slice a l.length cap := by simp only [σ']; rw [upd_ne _ _ hne, upd_same]
   have s2 : σ' (fr + 1) = .func (.func 0) #[] vs.toArray := upd_same _ _ _; have s3 : ∀ i, i ≠ fr → i ≠ fr + 1 → σ' i = σ i := fun i h1 h2 => by simp only [σ']; rw [upd_ne _ _ h2, upd_ne _ _ h1]
   have hb1 : ∀ b, hb (σ' fr) b → blkOf (.slice a l.length cap) = some b := fun b hb => by
    rw [s1] at hb; exact hb_slice.1 hb
   have hb2 : ∀ b, hb (σ' (fr + 1)) b → ∃ j u, vs[j]? = some u ∧ blkOf u = some b := fun b hb => by
    rw [s2] at hb; obtain ⟨u, hu, hub⟩ := hb_fam.1 hb; obtain ⟨j, hj⟩ := List.getElem?_of_mem hu; exact ⟨j, u, by simpa using hj, hub⟩
   obtain ⟨k1, k2⟩ := h.stepD (σ' := σ') (N' := Nx N fr) (m' := m') (w' := w') (fun i => i = fr ∨ i = fr + 1) (fun i k => k.1)
    (fun i k => by
      have h1 : i ≠ fr := fun e => k.2 ⟨by omega, by omega⟩; have h2 : i ≠ fr + 1 := fun e => k.2 ⟨by omega, by omega⟩; rw [m3 i h1 h2]; exact h.fresh i k.1)
    (fun i k => by simp only [not_or] at k; exact ⟨m3 i k.1 k.2, s3 i k.1 k.2⟩)
    (fun i k => s3 i (fun e => k (e ▸ hfr0)) (fun e => k (e ▸ hfr1)))
    (fun b hb _ => hI.evo.block b hb (fun h => h))
    ⟨hI.evo.size, hI.evo.drawn⟩ hI.evo.os hI.evo.tape hI.evo.output
    (fun i b hi _ hbb => by
      rcases hi with rfl | rfl
      · exact .inl (hv1 b (hb1 b hbb)).1
      · obtain ⟨j, u, h1, h2⟩ := hb2 b hbb; exact .inl (Nat.le_trans he1.size ((e4 j u h1).2.1 b h2).1))
    (fun i i' b hi hi' _ _ hbb hbb' => by
      rcases hi with rfl | rfl <;> rcases hi' with rfl | rfl
      · rfl
      · obtain ⟨j, u, h1, h2⟩ := hb2 b hbb'; have q1 := (hv1 b (hb1 b hbb)).2; have q2 := ((e4 j u h1).2.1 b h2).1; omega
      · obtain ⟨j, u, h1, h2⟩ := hb2 b hbb; have q1 := (hv1 b (hb1 b hbb')).2; have q2 := ((e4 j u h1).2.1 b h2).1; omega
      · rfl)
    (fun i hi => by
      rcases hi with rfl | rfl
      · rw [s1]; rfl
      · rw [s2]; rfl)
    (fun hk i hi => by
      rcases hi with rfl | rfl
      · rw [m1]; refine ⟨.func 0, vs.toArray, f1, fun k => k.2 ⟨by omega, by omega⟩, s2, by simp [e1], ?_, ?_⟩
        · rw [List.length_map]; show RowR w' 85 11 (σ' i) l.length f1; rw [s1]; exact e2
        · show roAll _ ((l.map (fun o => setPcs o [])).zip (vs.map some)) f1; refine roAll_mix l vs f0 f1 e1 hf0 e2.1 (fun q hq => ?_) (fun u hu => ?_)
          · rw [e3 q hq]; by_cases hh : q % 11 = 10
            · rw [if_pos ⟨hh, by omega⟩, if_pos hh]
            · rw [if_neg (fun r => hh r.1), if_neg hh]
          · obtain ⟨j, hj⟩ := List.getElem?_of_mem hu; exact (e4 j u hj).1
      · rw [m2]; refine ⟨.func 0, vs.toArray, s2, by simp [e1], fun q xs u hx hu => ?_, fun q q' u u' b hu hu' => ?_⟩
        · have hu : vs[q]? = some u := by simpa using hu
          obtain ⟨r1, _, fl, r3, r4⟩ := e4 q u hu; have hql : q < l.length := by
           have := (List.getElem?_eq_some_iff.1 hx).1
           rwa [List.length_map] at this
          have hxs : xs = (l.getD q ct0).pcs := by
           rw [List.getElem?_map, List.getElem?_eq_getElem hql] at hx; rw [getD_lt hql]; simpa using hx.symm
          subst hxs; exact ⟨r1, fl, r3, r4 _ _⟩
        · exact e5 q q' u u' b (by simpa using hu) (by simpa using hu'))
   refine ⟨_, rfl, σ', k1, k2, ?_, trivial⟩; unfold repA repC; exact ⟨fun k => k.2 ⟨by omega, by omega⟩, s1.symm⟩
attribute [go_sem] copG copO copV copC
def conCopG : Go.Ev.Raw := ⟨copC⟩
theorem cCopG : CtrOk Tryz.prog 50 conCopG.ctr := copC_ok
end Go.Proofs.YtkjpbhkldioggaaGreat
