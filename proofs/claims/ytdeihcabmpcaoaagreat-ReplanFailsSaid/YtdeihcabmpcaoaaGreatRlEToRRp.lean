/- Plain law of replan: there is a repair exactly if at no time too many are open. -/
import Derived.Test.YtdeihcabmpcaoaaGreatEvScToM
import Derived.Test.YtdeihcabmpcaoaaGreatRfLay
namespace RlM

theorem countP_add {α : Type} {p q r : α → Bool} (h : ∀ x, p x = true → q x = true ∨ r x = true) :
 ∀ l : List α, l.countP p ≤ l.countP q + l.countP r
 | [] => by simp
 | x :: l => by
   have ih := countP_add h l
   have hx := h x
   simp only [List.countP_cons]
   cases e : p x <;> cases e1 : q x <;> cases e2 : r x <;> simp [e, e1, e2] at hx ⊢ <;> omega

theorem count_range (n a : Nat) : (List.range n).countP (fun x => x == a) ≤ 1 := by
 have h : (List.range n).Nodup := List.nodup_range
 exact List.nodup_iff_count.1 h a

theorem countP_mem (n : Nat) : ∀ L : List Nat, (List.range n).countP (fun x => L.contains x) ≤ L.length
 | [] => by simp
 | a :: L => by
   have ih := countP_mem n L
   have h := countP_add (p := fun x => (a :: L).contains x) (q := fun x => x == a) (r := fun x => L.contains x)
    (fun x hx => by simpa using hx) (List.range n)
   have := count_range n a
   simp only [List.length_cons]; omega

/-- A number below n that is neither busy nor reserved. -/
theorem pigeon {n : Nat} {p : Nat → Bool} {L : List Nat} (h : (List.range n).countP p + L.length < n) :
 ∃ c < n, p c = false ∧ c ∉ L := by
 refine Classical.byContradiction fun hn => ?_
 have hall : ∀ x ∈ List.range n, (fun x => p x || L.contains x) x = true := by
  intro x hx
  refine Classical.byContradiction fun hx2 => hn ⟨x, List.mem_range.1 hx, ?_⟩
  simp only [Bool.or_eq_true, not_or] at hx2
  exact ⟨by simpa using hx2.1, by simpa using hx2.2⟩
 have h1 := List.countP_eq_length.2 hall
 have h2 := countP_add (p := fun x => p x || L.contains x) (q := p) (r := fun x => L.contains x)
  (fun x hx => by simpa using hx) (List.range n)
 have h3 := countP_mem n L
 rw [h1, List.length_range] at h2
 omega

theorem nodup_len {n : Nat} : ∀ {L : List Nat}, L.Nodup → (∀ c ∈ L, c < n) → L.length ≤ n := by
 intro L hd hl
 have h := countP_mem n L
 have : ∀ {L : List Nat}, L.Nodup → (∀ c ∈ L, c < n) → L.length ≤ (List.range n).countP (fun x => L.contains x) := by
  intro L
  induction L with
  | nil => simp
  | cons a L ih =>
    intro hd hl
    have hd' := List.nodup_cons.1 hd
    have i := ih hd'.2 (fun c hc => hl c (List.mem_cons_of_mem _ hc))
    have key : ∀ l : List Nat, l.Nodup → l.countP (fun x => (a :: L).contains x) =
     l.countP (fun x => L.contains x) + l.countP (fun x => x == a) := by
     intro l _
     induction l with
     | nil => simp
     | cons x l ihl =>
       have ihl := ihl (by rename_i h; exact (List.nodup_cons.1 h).2)
       have e1 : (a :: L).contains x = (x == a || L.contains x) := List.contains_cons
       simp only [List.countP_cons, ihl, e1]
       by_cases hx : x = a
       · have h1 : (x == a) = true := by simpa using hx
         have h2 : L.contains x = false := by rw [hx]; simpa using hd'.1
         rw [h1, h2]; simp; omega
       · have h1 : (x == a) = false := by simpa using hx
         rw [h1, Bool.false_or]
         simp only [Bool.false_eq_true, if_false]; omega
    rw [key _ List.nodup_range]
    have : 1 ≤ (List.range n).countP (fun x => x == a) := by
     apply List.countP_pos_iff.2
     exact ⟨a, List.mem_range.2 (hl a (by simp)), by simp⟩
    simp only [List.length_cons]; omega
 have := this hd hl
 have h5 : (List.range n).countP (fun x => L.contains x) ≤ (List.range n).length := List.countP_le_length
 rw [List.length_range] at h5
 omega

def opn (t : Int) (d : Nd) : Bool := decide (d.frm ≤ t) && decide (t < d.to)

def FixOk (n : Nat) (ds : List Nd) (fr : List Int) : Prop :=
 (∀ d ∈ ds, d.fixed = true → 0 ≤ d.home ∧ d.home < n ∧ fr.getD d.home.toNat 0 ≤ d.frm ∧ ∀ e ∈ ds, d.frm ≤ e.frm) ∧
 ds.Pairwise (fun a b => a.fixed = true → b.fixed = true → a.home ≠ b.home)

def busy (n : Nat) (fr : List Int) (t : Int) : Nat := (List.range n).countP (fun c => decide (t < fr.getD c 0))

def CntOk (n : Nat) (ds : List Nd) (fr : List Int) : Prop :=
 ∀ t, (∃ d ∈ ds, d.frm ≤ t) → busy n fr t + ds.countP (opn t) ≤ n

theorem busy_after {n : Nat} {d : Nd} {c : Nat} {fr : List Int} {t : Int} (hc : c < fr.length) (h0 : 0 ≤ d.frm) (ht : d.frm ≤ t) :
 busy n (after d c fr) t ≤ busy n fr t + (if t < d.to then 1 else 0) := by
 have h := countP_add (p := fun x => decide (t < (after d c fr).getD x 0)) (q := fun x => decide (t < fr.getD x 0))
  (r := fun x => (x == c) && decide (t < d.to)) (fun x hx => by
    rw [decide_eq_true_eq, after_get hc] at hx
    by_cases e : x = c
    · simp only [e, if_true] at hx
      right; simp only [e, beq_self_eq_true, Bool.true_and, decide_eq_true_eq]
      split at hx <;> omega
    · simp only [e, if_false] at hx
      left; rw [decide_eq_true_eq]; split at hx <;> omega) (List.range n)
 have g : (List.range n).countP (fun x => (x == c) && decide (t < d.to)) ≤ if t < d.to then 1 else 0 := by
  by_cases e : t < d.to
  · simp only [e, decide_true, Bool.and_true, if_true]; exact count_range n c
  · simp [e]
 unfold busy; omega

theorem greedy {n : Nat} : ∀ {ds : List Nd} {fr : List Int}, Asc ds → (∀ d ∈ ds, d.frm < d.to) → n ≤ fr.length →
 FixOk n ds fr → CntOk n ds fr → ∃ cs, Path n ds fr cs
 | [], _, _, _, _, _, _ => ⟨[], by simp [Path]⟩
 | d :: ds, fr, ha, hp, hn, hf, hk => by
   have ha' : Asc ds := ⟨fun x hx => ha.1 x (List.mem_cons_of_mem _ hx), (List.pairwise_cons.1 ha.2).2⟩
   have hlt : ∀ x ∈ ds, d.frm ≤ x.frm := (List.pairwise_cons.1 ha.2).1
   have h0 : 0 ≤ d.frm := ha.1 d (by simp)
   have hpd := hp d (by simp)
   have hfp := List.pairwise_cons.1 hf.2
   have hex : ∃ c, c < n ∧ poss d c (fr.getD c 0) = true ∧ ∀ e ∈ ds, e.fixed = true → e.home ≠ (c : Int) := by
    cases hfd : d.fixed with
    | true =>
      have ⟨a1, a2, a3, _⟩ := hf.1 d (by simp) hfd
      refine ⟨d.home.toNat, by omega, ?_, ?_⟩
      · simp only [poss, Bool.and_eq_true, Bool.or_eq_true, decide_eq_true_eq]
        exact ⟨a3, .inr (by omega)⟩
      · intro e he h
        have := hfp.1 e he hfd h
        omega
    | false =>
      have hk0 := hk d.frm ⟨d, by simp, Int.le_refl _⟩
      have ho : opn d.frm d = true := by simp [opn, hpd]
      rw [List.countP_cons, if_pos ho] at hk0
      have hle : (ds.filter (fun e => e.fixed)).length ≤ ds.countP (opn d.frm) := by
       rw [← List.countP_eq_length_filter]
       apply List.countP_mono_left
       intro e he hef
       have ⟨_, _, _, b⟩ := hf.1 e (List.mem_cons_of_mem _ he) hef
       have := b d (by simp)
       have := hlt e he
       have := hp e (List.mem_cons_of_mem _ he)
       simp [opn]; omega
      have ⟨c, hc, hb, hr⟩ := pigeon (n := n) (p := fun c => decide (d.frm < fr.getD c 0))
       (L := (ds.filter (fun e => e.fixed)).map (fun e => e.home.toNat)) (by
         rw [List.length_map]; unfold busy at hk0; omega)
      refine ⟨c, hc, ?_, ?_⟩
      · simp only [poss, hfd, Bool.not_false, Bool.true_or, Bool.and_true, decide_eq_true_eq]
        have := of_decide_eq_false hb; omega
      · intro e he h hh
        apply hr
        rw [List.mem_map]
        exact ⟨e, List.mem_filter.2 ⟨he, h⟩, by omega⟩
   obtain ⟨c, hc, hpo, hres⟩ := hex
   have hf' : FixOk n ds (after d c fr) := by
    refine ⟨fun e he h => ?_, hfp.2⟩
    have ⟨a1, a2, a3, a4⟩ := hf.1 e (List.mem_cons_of_mem _ he) h
    refine ⟨a1, a2, ?_, fun x hx => a4 x (List.mem_cons_of_mem _ hx)⟩
    have hne := hres e he h
    have h3 := hlt e he
    have hx : ¬ e.home.toNat = c := by omega
    rw [after_get (by omega)]
    simp only [hx, if_false]
    split <;> omega
   have hk' : CntOk n ds (after d c fr) := by
    intro t ⟨e, he, het⟩
    have h3 := hlt e he
    have h4 := hk t ⟨d, by simp, by omega⟩
    have h5 := busy_after (n := n) (d := d) (c := c) (fr := fr) (t := t) (by omega) h0 (by omega)
    rw [List.countP_cons] at h4
    have h6 : (if opn t d = true then 1 else 0) = (if t < d.to then 1 else 0 : Nat) := by
     simp only [opn, Bool.and_eq_true, decide_eq_true_eq]
     have : d.frm ≤ t := by omega
     simp [this]
    rw [h6] at h4; omega
   have ⟨cs, h⟩ := greedy ha' (fun x hx => hp x (List.mem_cons_of_mem _ hx)) (by rw [after_len]; exact hn) hf' hk'
   exact ⟨c :: cs, hc, hpo, h⟩

theorem busy0 (n k : Nat) {t : Int} (h : 0 ≤ t) : busy n (List.replicate k 0) t = 0 := by
 unfold busy
 rw [List.countP_eq_zero]
 intro c _
 rw [List.getD_eq_getElem?_getD, List.getElem?_replicate]
 split <;> simp <;> omega

/-- Without a chute in use: a way exists if at no time more than n are open. -/
theorem exists_of {n k : Nat} {ds : List Nd} (ha : Asc ds) (hp : ∀ d ∈ ds, d.frm < d.to) (hn : n ≤ k)
 (hf : ∀ d ∈ ds, d.fixed = true → 0 ≤ d.home ∧ d.home < n ∧ ∀ e ∈ ds, d.frm ≤ e.frm)
 (hd : ds.Pairwise (fun a b => a.fixed = true → b.fixed = true → a.home ≠ b.home))
 (hk : ∀ t, ds.countP (opn t) ≤ n) : ∃ cs, Path n ds (List.replicate k 0) cs := by
 refine greedy ha hp (by simpa using hn) ⟨fun d h1 h2 => ?_, hd⟩ ?_
 · have ⟨a, b, c⟩ := hf d h1 h2
   refine ⟨a, b, ?_, c⟩
   have := ha.1 d h1
   rw [List.getD_eq_getElem?_getD, List.getElem?_replicate]
   split <;> simpa using this
 · intro t ⟨d, h1, h2⟩
   have := ha.1 d h1
   rw [busy0 n k (by omega)]
   have := hk t
   omega

theorem fit_zip {α : Type} {n : Nat} (t : Int) : ∀ {ds : List Nd} {cs : List Nat}, cs.length = ds.length →
 ds.countP (opn t) = (((ds.zip cs).filter (fun a => opn t a.1)).map (·.2)).length
 | [], [], _ => by simp
 | d :: ds, c :: cs, h => by
   have ih := fit_zip (α := α) (n := n) t (ds := ds) (cs := cs) (by simpa using h)
   simp only [List.zip_cons_cons, List.filter_cons, List.countP_cons, ih]
   split <;> simp
 | [], _ :: _, h => by simp at h
 | _ :: _, [], h => by simp at h

theorem exists_only {n : Nat} {ds : List Nd} {cs : List Nat} (h : Fit n ds cs) (t : Int) : ds.countP (opn t) ≤ n := by
 rw [fit_zip (α := Unit) (n := n) t h.1]
 apply nodup_len
 · rw [List.Nodup, List.pairwise_map]
   have := (h.2.2).filter (fun a => opn t a.1)
   refine List.Pairwise.imp_of_mem ?_ this
   intro a b ma mb hab e
   have h1 := (List.mem_filter.1 ma).2
   have h2 := (List.mem_filter.1 mb).2
   simp only [opn, Bool.and_eq_true, decide_eq_true_eq] at h1 h2
   have := hab e
   omega
 · intro c hc
   rw [List.mem_map] at hc
   obtain ⟨a, ma, rfl⟩ := hc
   exact (h.2.1 a (List.mem_filter.1 ma).1).1

end RlM

/- Plain law of replan: assignments as functions, repairs of repairs, the trial of all assignments. -/
namespace RlM

def Ovl (a b : Nd) : Prop := a.frm < b.to ∧ b.frm < a.to

theorem zip_map2 {α : Type} (L : List α) (nd : α → Nd) (g : α → Nat) :
 (L.map nd).zip (L.map g) = L.map (fun d => (nd d, g d)) := by
 induction L with
 | nil => rfl
 | cons a L ih => simp [ih]

theorem fit_map {α : Type} {n : Nat} {L : List α} {nd : α → Nd} {g : α → Nat} :
 Fit n (L.map nd) (L.map g) ↔
  (∀ d ∈ L, g d < n ∧ ((nd d).fixed = true → (g d : Int) = (nd d).home)) ∧
  L.Pairwise (fun a b => g a = g b → (nd a).to ≤ (nd b).frm) := by
 unfold Fit
 rw [zip_map2, List.pairwise_map]
 simp

theorem fit_sym {α : Type} {n : Nat} {L : List α} {nd : α → Nd} {g : α → Nat}
 (ha : Asc (L.map nd)) (hp : ∀ d ∈ L, (nd d).frm < (nd d).to) :
 Fit n (L.map nd) (L.map g) ↔
  (∀ d ∈ L, g d < n ∧ ((nd d).fixed = true → (g d : Int) = (nd d).home)) ∧
  L.Pairwise (fun a b => g a = g b → ¬ Ovl (nd a) (nd b)) := by
 rw [fit_map]
 have h2 : L.Pairwise (fun a b => (nd a).frm ≤ (nd b).frm) := by
  have h := ha.2; rw [List.pairwise_map] at h; exact h
 constructor
 · rintro ⟨h, p⟩
   refine ⟨h, p.imp ?_⟩
   intro a b h e o
   have := h e
   unfold Ovl at o; omega
 · rintro ⟨h, p⟩
   refine ⟨h, (p.and h2).imp_of_mem ?_⟩
   intro a b ma mb h e
   have h3 := h.1 e
   have := hp a ma
   have := hp b mb
   have := h.2
   unfold Ovl at h3; omega

theorem cost_zero {α : Type} {L : List α} {nd : α → Nd} {g : α → Nat} (h : ∀ d ∈ L, (nd d).home = g d) :
 cost (L.map nd) (L.map g) = 0 := by
 induction L with
 | nil => rfl
 | cons a L ih =>
   have h1 := h a (by simp)
   have h2 := ih (fun d hd => h d (List.mem_cons_of_mem _ hd))
   simp only [List.map_cons, cost, h2, price, h1]
   simp

/-- A repair of a repair: who is still active can keep its chute. -/
theorem again {α : Type} {n : Nat} {L L' S : List α} {nd nd' : α → Nd} {g : α → Nat} {t : Int}
 (ha : Asc (L.map nd)) (ha' : Asc (L'.map nd')) (hp : ∀ d ∈ L, (nd d).frm < (nd d).to)
 (hs : S.Sublist L) (hq : L'.Perm S) (hf : Fit n (L.map nd) (L.map g))
 (hd : ∀ d ∈ L', t < (nd' d).to ∧ (nd' d).to = (nd d).to ∧ (nd' d).frm = max (nd d).frm t ∧ (nd' d).home = g d) :
 Fit n (L'.map nd') (L'.map g) ∧ cost (L'.map nd') (L'.map g) = 0 := by
 have hm : ∀ d ∈ L', d ∈ L := fun d h => hs.subset (hq.subset h)
 refine ⟨?_, cost_zero (fun d h => (hd d h).2.2.2)⟩
 have ⟨h1, h2⟩ := (fit_sym ha hp).1 hf
 rw [fit_sym ha' (fun d h => by have := hd d h; have := hp d (hm d h); omega)]
 refine ⟨fun d h => ⟨(h1 d (hm d h)).1, fun _ => by have := (hd d h).2.2.2; omega⟩, ?_⟩
 have h3 : S.Pairwise (fun a b => g a = g b → ¬ Ovl (nd a) (nd b)) := h2.sublist hs
 have h4 : L'.Pairwise (fun a b => g a = g b → ¬ Ovl (nd a) (nd b)) := by
  refine (hq.pairwise_iff ?_).2 h3
  intro a b h e o
  exact h e.symm ⟨o.2, o.1⟩
 refine h4.imp_of_mem ?_
 intro a b ma mb h e o
 have := hd a ma
 have := hd b mb
 have h := h e
 unfold Ovl at h o; omega

end RlM

/- The plain law: what is known already is right; the order of the allocations. -/
set_option linter.unusedSimpArgs false
set_option linter.unusedVariables false
set_option maxRecDepth 100000
set_option maxHeartbeats 4000000
namespace Go.Proofs.YtdeihcabmpcaoaaGreat
open Go.Ev

def con40 : Con := { ps := [.d true (.pair yFL (.int .i64)), .d true (.pair yFL (.int .i64))], rs := [.d false (.int .i64)], pre := fun _ => True, out := fun x => (fltC x.1.1 x.2.1.1, ()), nw := id }
theorem c40 : CtrOk Tryz.prog 40 con40.ctr :=
 con_sound (G := ⟨[(41, con41.ctr)], [], [], [], []⟩) tab_ok (EnvOk.cons c41 has41 EnvOk.nil) rfl Tryz.func40 rfl con40 31 (by kernel_rfl) (by decide) (by decide) rfl (by decide) rfl (by
  rintro ⟨⟨a, (x : Int)⟩, ⟨b, (y : Int)⟩, _⟩ hpre hwf X hT hG hk hK
  (simp -implicitDefEqProofs (maxSteps := 4000000) only [go_sem, Bool.not_eq_true', Bool.not_eq_false', Bool.or_eq_true, Bool.or_eq_false_iff, Bool.and_eq_true, Bool.and_eq_false_iff, decide_eq_true_eq, decide_eq_false_iff_not, Classical.not_not, not_or, maxLen, con40, con41, hT, hG, hk, hK, Tryz.results40] at hwf ⊢); (try simp (disch := decide +kernel) only [drawn, true_and, and_true]))
def conR39 : RCon := sortFCon 46 (.pair yFL (.int .i64)) 40 (fun a b => fltC a.1 b.1)
theorem cR39 : RCtrOk Tryz.prog 39 conR39.rctr := sort_func (e := 46) (t := (.pair yFL (.int .i64))) Tryz.sortF (by decide) Tryz.isAgg46 Tryz.sizeOf46 (show StrictP Tryz.prog by unfold StrictP; kernel_rfl) (c := fun (a b : All) => fltC a.1 b.1) c40 has40 all_swo
def toNd (n : Ned) : RlM.Nd := ⟨n.frm, n.to, n.home, n.fixed⟩
def frL (f : Fre) : List Int := [f.1, f.2.1, f.2.2.1, f.2.2.2.1, f.2.2.2.2.1, f.2.2.2.2.2]
theorem poss_eq (n : Ned) (c : Nat) (f : Int) : possN n c f = RlM.poss (toNd n) c f := rfl
theorem price_eq (n : Ned) (c : Nat) : priceN n c = RlM.price (toNd n) c := rfl
theorem get_eq (f : Fre) {c : Nat} (h : c < 6) : f.get c = (frL f).getD c 0 := by
 rcases (by omega : c = 0 ∨ c = 1 ∨ c = 2 ∨ c = 3 ∨ c = 4 ∨ c = 5) with rfl | rfl | rfl | rfl | rfl | rfl <;> rfl
theorem aft_eq (ds : List Ned) (x : Sst) {c : Nat} (h : c < 6) : frL (aftV ds x c).2 = RlM.after (toNd (nedAt ds x.1)) c (frL x.2) := by
 obtain ⟨i, a0, a1, a2, a3, a4, a5⟩ := x
 rcases (by omega : c = 0 ∨ c = 1 ∨ c = 2 ∨ c = 3 ∨ c = 4 ∨ c = 5) with rfl | rfl | rfl | rfl | rfl | rfl <;> rfl
/-- The least number of moves from a state on. -/
def lsV (ds : List Ned) (n : Nat) (x : Sst) : Int := RlM.least n ((ds.drop x.1.toNat).map toNd) (frL x.2)
def MemOk (ds : List Ned) (n : Nat) (m : Mem6) : Prop := ∀ p ∈ m, p.2 = lsV ds n p.1
theorem lsV_bd (ds : List Ned) (n : Nat) (x : Sst) : 0 ≤ lsV ds n x ∧ lsV ds n x ≤ 17 := by
 refine ⟨?_, RlM.least_nn _ _ _⟩
 unfold lsV
 by_cases h : RlM.least n ((ds.drop x.1.toNat).map toNd) (frL x.2) < RlM.nn
 · obtain ⟨cs, _, h2⟩ := RlM.least_ex h
   have := RlM.cost_le ((ds.drop x.1.toNat).map toNd) cs
   omega
 · have : RlM.nn = 17 := rfl
   omega
theorem MemOk.bd {ds : List Ned} {n : Nat} {m : Mem6} (h : MemOk ds n m) : MB m := fun p hp => by rw [h p hp]; exact lsV_bd ds n p.1
theorem key_eq {a b : Sst} (h : keyEq KS a b = true) : a = b := by
 obtain ⟨i, a0, a1, a2, a3, a4, a5⟩ := a
 obtain ⟨j, b0, b1, b2, b3, b4, b5⟩ := b
 simp only [keyEq, Bool.and_eq_true, decide_eq_true_eq] at h
 obtain ⟨h0, h1, h2, h3, h4, h5, h6⟩ := h
 subst h0 h1 h2 h3 h4 h5 h6
 rfl
theorem drop_at {ds : List Ned} {i : Int} (h0 : 0 ≤ i) (h : i < ds.length) : ds.drop i.toNat = nedAt ds i :: ds.drop (i + 1).toNat := by
 have hi : i.toNat < ds.length := by omega
 rw [List.drop_eq_getElem_cons hi, show (i + 1).toNat = i.toNat + 1 by omega]
 unfold nedAt
 rw [List.getD_eq_getElem?_getD, List.getElem?_eq_getElem hi]; rfl
theorem lsV_step {ds : List Ned} {n : Nat} {x : Sst} (h0 : 0 ≤ x.1) (h : x.1 < ds.length) (h6 : n ≤ 6) :
 lsV ds n x = (List.range n).foldl (RlM.stepL (toNd (nedAt ds x.1)) (frL x.2) (fun c => RlM.least n ((ds.drop (x.1 + 1).toNat).map toNd) (RlM.after (toNd (nedAt ds x.1)) c (frL x.2)))) 17 := by
 unfold lsV
 rw [drop_at h0 h]
 rfl
theorem lsV_aft {ds : List Ned} {n : Nat} {x : Sst} {c : Nat} (h : c < 6) : lsV ds n (aftV ds x c) = RlM.least n ((ds.drop (x.1 + 1).toNat).map toNd) (RlM.after (toNd (nedAt ds x.1)) c (frL x.2)) := by
 unfold lsV
 rw [aft_eq ds x h]
 rfl
theorem min_eq (a b : Int) : minI a b = min a b := by unfold minI; split <;> omega
theorem fold_ok {ds : List Ned} {n : Nat} {x : Sst} {f : Sst → Mem6 → Int × Mem6} (hf : ∀ c m, c < n → MemOk ds n m → (f (aftV ds x c) m).1 = lsV ds n (aftV ds x c) ∧ MemOk ds n (f (aftV ds x c) m).2) (h6 : n ≤ 6) :
 ∀ (l : List Nat) (q : Int × Mem6), (∀ c ∈ l, c < n) → MemOk ds n q.2 →
   (l.foldl (stepW ds f x) q).1 = l.foldl (RlM.stepL (toNd (nedAt ds x.1)) (frL x.2) (fun c => RlM.least n ((ds.drop (x.1 + 1).toNat).map toNd) (RlM.after (toNd (nedAt ds x.1)) c (frL x.2)))) q.1 ∧ MemOk ds n (l.foldl (stepW ds f x) q).2
 | [], q, _, h => ⟨rfl, h⟩
 | c :: l, q, hl, h => by
   have hc := hl c List.mem_cons_self
   simp only [List.foldl_cons]
   have key : (stepW ds f x q c).1 = RlM.stepL (toNd (nedAt ds x.1)) (frL x.2) (fun c => RlM.least n ((ds.drop (x.1 + 1).toNat).map toNd) (RlM.after (toNd (nedAt ds x.1)) c (frL x.2))) q.1 c ∧ MemOk ds n (stepW ds f x q c).2 := by
    unfold stepW RlM.stepL
    rw [poss_eq, get_eq x.2 (show c < 6 by omega)]
    by_cases hp : RlM.poss (toNd (nedAt ds x.1)) c ((frL x.2).getD c 0) = true
    · rw [if_pos hp, if_pos hp]
      have := hf c q.2 hc h
      refine ⟨?_, this.2⟩
      dsimp only
      rw [min_eq, this.1, lsV_aft (by omega), price_eq]
    · rw [if_neg hp, if_neg hp]
      exact ⟨rfl, h⟩
   have ih := fold_ok hf h6 l (stepW ds f x q c) (fun c hc => hl c (List.mem_cons_of_mem _ hc)) key.2
   rw [key.1] at ih
   exact ih
theorem lw_ok {ds : List Ned} {n : Nat} (h6 : n ≤ 6) : ∀ (k : Nat) (x : Sst) (m : Mem6), MemOk ds n m → 0 ≤ x.1 → x.1 ≤ ds.length → (ds.length : Int) - x.1 < k →
 (lwV ds n k x m).1 = lsV ds n x ∧ MemOk ds n (lwV ds n k x m).2
 | 0, x, m, _, _, h, h2 => absurd h2 (by omega)
 | k + 1, x, m, hm, h0, h1, h2 => by
   unfold lwV
   by_cases he : x.1 = ds.length
   · rw [if_pos he]
     refine ⟨?_, hm⟩
     unfold lsV
     rw [List.drop_of_length_le (by omega)]; rfl
   · rw [if_neg he]
     cases hg : mget (kt := KS) (β := Int) m x with
     | some v =>
       obtain ⟨p, hp, e1, e2⟩ := mget_mem hg
       refine ⟨?_, hm⟩
       rw [key_eq e2]
       show v = _
       rw [← e1]; exact hm p hp
     | none =>
       have hf : ∀ c m, c < n → MemOk ds n m → (lwV ds n k (aftV ds x c) m).1 = lsV ds n (aftV ds x c) ∧ MemOk ds n (lwV ds n k (aftV ds x c) m).2 := fun c m hc hm =>
        lw_ok h6 k (aftV ds x c) m hm (by show 0 ≤ x.1 + 1; omega) (by show x.1 + 1 ≤ _; omega) (by show _ - (x.1 + 1) < _; omega)
       have a := fold_ok (x := x) hf h6 (List.range n) (17, m) (fun c hc => List.mem_range.1 hc) hm
       rw [← lsV_step h0 (by omega) h6] at a
       refine ⟨a.1, fun p hp => ?_⟩
       rcases mset_mem p hp with h | h
       · rw [h]; exact a.1
       · exact a.2 p h
end Go.Proofs.YtdeihcabmpcaoaaGreat

/- The contract of replan.Repair. -/
set_option linter.unusedSimpArgs false
set_option linter.unusedVariables false
set_option maxRecDepth 100000
set_option maxHeartbeats 16000000
namespace Go.Proofs.YtdeihcabmpcaoaaGreat
open Go.Ev

structure CC where
 ctr : Ctr
def conL35 : CC := ⟨scB (leastC 17).ctr⟩
theorem cL35 : CtrOk Tryz.prog 35 conL35.ctr := scB_ok (leastOk 17)
def conL37 : CC := ⟨scB con37.ctr⟩
theorem cL37 : CtrOk Tryz.prog 37 conL37.ctr := scB_ok c37
theorem argR_ok {l : List Dep} {cs : List Int} {t : Int} (h : argR l cs t = 0) : (∀ d ∈ l, validV d = true) ∧ actN l t ≤ 16 ∧ cs.length ≤ 6 := by
 unfold argR at h
 by_cases h1 : validateV l = 0
 · rw [if_neg (by omega)] at h
   by_cases h2 : (actN l t : Int) > 16 ∨ (cs.length : Int) > 6
   · rw [if_pos h2] at h; omega
   · exact ⟨(valid_ok h1).2.1, by omega, by omega⟩
 · rw [if_pos h1] at h; omega
theorem first_cons {n : Nat} {d : RlM.Nd} {ds : List RlM.Nd} {fr : List Int} {rest : Int} {c : Nat} (h : (List.range n).find? (RlM.okc n (d :: ds) fr rest) = some c) :
 RlM.first n (d :: ds) fr rest = c :: RlM.first n ds (RlM.after d c fr) (rest - RlM.price d c) := by
 rw [RlM.first, h]
def allR (ds : List Ned) (cs : List Int) (l : List Nat) : List All := (ds.zip l).map (fun p => (p.1.1, cs.getD p.2 0))
def st0 : Sst := (0, 0, 0, 0, 0, 0, 0)
def pathR (ds : List Ned) (n : Nat) : List Nat := RlM.first n (ds.map toNd) (frL st0.2) (lsV ds n st0)
def repV (l : List Dep) (cs : List Int) (old : List All) (t : Int) : List All × Int :=
 if argR l cs t ≠ 0 then ([], argR l cs t)
 else if ¬ ((fixV l cs old t).map (fun a => a.2)).Nodup then ([], 7)
 else if 17 ≤ lsV (needV l cs old (fixV l cs old t) t) cs.length st0 then ([], 11)
 else (sortAl (allR (needV l cs old (fixV l cs old t) t) cs (pathR (needV l cs old (fixV l cs old t) t) cs.length)), 0)
theorem allR_keys (cs : List Int) : ∀ (ds : List Ned) (l : List Nat), ((allR ds cs l).map (fun a => a.1)).Sublist (ds.map (fun d => d.1))
 | [], _ => List.Sublist.refl _
 | _ :: _, [] => List.nil_sublist _
 | d :: ds, c :: l => (allR_keys cs ds l).cons_cons d.1
theorem need_nodup {l : List Dep} {cs : List Int} {old fx : List All} {t : Int} (h : argR l cs t = 0) : ((needV l cs old fx t).map (fun d => d.1)).Nodup := by
 have h1 : validateV l = 0 := by
  unfold argR at h
  by_cases h1 : validateV l = 0
  · exact h1
  · rw [if_pos h1] at h; exact absurd h h1
 have h2 := nodup_flts (valid_ok h1).2.2
 have h3 : ((rawN l cs old fx t).map (fun d => d.1)).Nodup := by
  unfold rawN
  rw [List.map_map]
  exact ((List.filter_sublist (l := l)).map (fun d : Dep => d.1)).nodup h2
 unfold needV
 exact ((isortN_perm _).map (fun d => d.1)).nodup_iff.2 h3
def con11 : Con := { ps := [.d false (.sl yDP), .d false (.sl (.int .i64)), .d false (.sl (.pair yFL (.int .i64))), .d false (.int .i64)], rs := [.d false (.sl (.pair yFL (.int .i64))), .d false (.int .i64)], pre := fun (x : List Dep × List Int × List All × Int × Unit) => x.1.length ≤ 1048576, out := fun (x : List Dep × List Int × List All × Int × Unit) => ((repV x.1 x.2.1 x.2.2.1 x.2.2.2.1).1, (repV x.1 x.2.1 x.2.2.1 x.2.2.2.1).2, ()), nw := id }
theorem c11 : CtrOk Tryz.prog 11 con11.ctr :=
 con_sound (G := ⟨[(32, con32.ctr), (33, con33.ctr), (34, con34.ctr), (35, conL35.ctr), (36, con36.ctr), (37, conL37.ctr), (38, con38.ctr)], [(39, conR39.rctr)], [], [], []⟩) tab_ok (EnvOk.cons c32 has32 (EnvOk.cons c33 has33 (EnvOk.cons c34 has34 (EnvOk.cons cL35 has35 (EnvOk.cons c36 has36 (EnvOk.cons cL37 has37 (EnvOk.cons c38 has38 (EnvOk.rcons cR39 has39 EnvOk.nil)))))))) rfl Tryz.func11 rfl con11 162338775944588150378167130898191 (by kernel_rfl) (by decide) (by decide) rfl (by decide) rfl (by
  rintro ⟨(l : List Dep), (cs : List Int), (old : List All), (t : Int), _⟩ hpre hwf X hT hG hk hK
  have hl : l.length ≤ 1048576 := hpre
  (simp -implicitDefEqProofs (maxSteps := 4000000) only [go_sem, Bool.not_eq_true', Bool.not_eq_false', Bool.or_eq_true, Bool.or_eq_false_iff, Bool.and_eq_true, Bool.and_eq_false_iff, decide_eq_true_eq, decide_eq_false_iff_not, Classical.not_not, not_or, maxLen, con11, con32, con33, con34, conL35, con36, conL37, con38, conR39, hT, hG, hk, hK, Tryz.results11, leastC, con37] at hwf ⊢); (try simp (disch := decide +kernel) only [drawn, true_and, and_true])
  clear hwf
  refine ⟨hl, fun _ => ⟨fun h => ?_, fun h0 => ⟨hl, fun _ hfl => ?_⟩⟩⟩
  · rw [show repV l cs old t = ([], argR l cs t) from if_pos h]
    exact ⟨rfl, rfl⟩
  have e0 : repV l cs old t = if ¬ ((fixV l cs old t).map (fun a => a.2)).Nodup then ([], 7)
   else if 17 ≤ lsV (needV l cs old (fixV l cs old t) t) cs.length st0 then ([], 11)
   else (sortAl (allR (needV l cs old (fixV l cs old t) t) cs (pathR (needV l cs old (fixV l cs old t) t) cs.length)), 0) := if_neg (by omega)
  generalize hfx : fixV l cs old t = fx at hfl e0
  refine evk_loop ⟨{ i : Nat // i ≤ fx.length ∧ ((fx.take i).map (fun a => a.2)).Nodup }, 1000, fun i => [(0, .one (.sl yDP l false)), (1, .one (.sl (.int .i64) cs false)), (2, .one (.sl (.pair yFL (.int .i64)) old false)), (3, .one (.int .i64 t)), (11, .one (.sl (.pair yFL (.int .i64)) fx false)), (35, .one (.sl (.pair yFL (.int .i64)) fx false)), (36, .one (.int .i64 fx.length)), (37, .one (.int .i64 i.1))],
   fun i => [], fun i => fx.length - i.1⟩ ⟨0, Nat.zero_le _, by simp⟩ ?_ ?_
  · simp only [go_sem]
    rfl
  · rintro ⟨i, (hi : i ≤ fx.length), (hnd : ((fx.take i).map (fun a : All => a.2)).Nodup)⟩
    (simp -implicitDefEqProofs (maxSteps := 4000000) only [go_sem, Bool.not_eq_true', Bool.not_eq_false', Bool.or_eq_true, Bool.or_eq_false_iff, Bool.and_eq_true, Bool.and_eq_false_iff, decide_eq_true_eq, decide_eq_false_iff_not, Classical.not_not, not_or, maxLen, con11, con32, con33, con34, conL35, con36, conL37, con38, conR39, hT, hG, hk, hK, Tryz.results11, leastC, con37]); (try simp (disch := decide +kernel) only [drawn, true_and, and_true])
    refine ⟨fun hlt => ?_, fun hge => ?_⟩
    · have hi' : i < fx.length := by omega
      have ek : ∀ z, fx.getD (i : Int).toNat z = fx[i] := fun z => by simp [hi']
      simp only [ek]
      simp only [Int.toNat_natCast]
      have hpl : (fx.take i).length = i := by rw [List.length_take]; omega
      refine ⟨by omega, fun _ _ => ⟨by omega, fun _ => ?_⟩⟩
      refine evk_loop ⟨{ j : Nat // j ≤ i ∧ ∀ a ∈ fx.take j, a.2 ≠ fx[i].2 }, 2000, fun j => [(0, .one (.sl yDP l false)), (1, .one (.sl (.int .i64) cs false)), (2, .one (.sl (.pair yFL (.int .i64)) old false)), (3, .one (.int .i64 t)), (11, .one (.sl (.pair yFL (.int .i64)) fx false)), (13, .one (.loc 64 0)), (35, .one (.sl (.pair yFL (.int .i64)) fx false)), (36, .one (.int .i64 fx.length)), (37, .one (.int .i64 i)), (44, .one (.sl (.pair yFL (.int .i64)) (fx.take i) false)), (45, .one (.int .i64 i)), (46, .one (.int .i64 j.1))],
       fun _ => [(64, .cells 46 (expl (.pair yFL (.int .i64)) fx[i]))], fun j => i - j.1⟩ ⟨0, Nat.zero_le _, by simp⟩ ?_ ?_
      · simp only [go_sem]
        simp only [hpl, List.drop_zero]
        exact ⟨rfl, trivial⟩
      · rintro ⟨j, (hj : j ≤ i), (hne : ∀ a ∈ fx.take j, a.2 ≠ fx[i].2)⟩
        (simp -implicitDefEqProofs (maxSteps := 4000000) only [go_sem, Bool.not_eq_true', Bool.not_eq_false', Bool.or_eq_true, Bool.or_eq_false_iff, Bool.and_eq_true, Bool.and_eq_false_iff, decide_eq_true_eq, decide_eq_false_iff_not, Classical.not_not, not_or, maxLen, con11, con32, con33, con34, conL35, con36, conL37, con38, conR39, hT, hG, hk, hK, Tryz.results11, leastC, con37]); (try simp (disch := decide +kernel) only [drawn, true_and, and_true])
        have hjx : j < i → ∀ z, (fx.take i).getD (j : Int).toNat z = fx[j]'(by omega) := fun h z => by
         simp [h, List.getElem?_eq_getElem (show j < fx.length by omega)]
        refine ⟨fun hlt => ?_, fun hge => ?_⟩
        · simp only [hjx (by omega)]
          have hmem : fx[j]'(by omega) ∈ fx.take i := by
           rw [List.mem_take_iff_getElem]
           exact ⟨j, by omega, rfl⟩
          refine ⟨by omega, fun _ _ => ⟨fun h => ?_, fun h => ⟨by omega, ?_⟩⟩⟩
          · rw [if_pos (fun hn => by
             have e : fx = fx.take i ++ fx[i] :: fx.drop (i + 1) := by rw [List.getElem_cons_drop hi', List.take_append_drop]
             rw [e, List.map_append, List.map_cons, List.nodup_append] at hn
             exact hn.2.2 _ (List.mem_map_of_mem hmem) _ List.mem_cons_self h.symm)] at e0
            rw [e0]; exact ⟨rfl, rfl⟩
          · refine fin_lp ⟨j + 1, by omega, fun a ha => ?_⟩ ?_ ?_
            · rw [List.take_succ_eq_append_getElem (show j < fx.length by omega)] at ha
              rcases List.mem_append.1 ha with ha | ha
              · exact hne a ha
              · rw [List.mem_singleton.1 ha]; exact fun k => h k.symm
            · simp only [go_sem]
              omega
            · dsimp only; omega
        · obtain rfl : j = i := by omega
          refine ⟨by omega, ?_⟩
          refine fin_lp ⟨j + 1, by omega, ?_⟩ ?_ ?_
          · rw [List.take_succ_eq_append_getElem hi', List.map_append, List.nodup_append]
            refine ⟨hnd, by simp, fun a ha b hb hab => ?_⟩
            obtain ⟨z, hz, rfl⟩ := List.mem_map.1 ha
            have : b = fx[j].2 := by simpa using hb
            exact hne z hz (hab.trans this)
          · simp only [go_sem]
            omega
          · dsimp only; omega
    · rw [List.take_of_length_le (by omega)] at hnd
      rw [if_neg (by simp only [Classical.not_not]; exact hnd)] at e0
      obtain ⟨g1, g2, g3⟩ := argR_ok h0
      have hdl : (needV l cs old fx t).length ≤ 16 := by unfold needV; rw [isortN_len, rawN_len]; exact g2
      generalize hds : needV l cs old fx t = ds at hdl e0
      obtain ⟨n, hn⟩ : ∃ n, cs.length = n := ⟨_, rfl⟩
      have hlw := lw_ok (ds := ds) (n := n) (by omega) 17 st0 [] (fun p hp => by cases hp) (by decide) (by show (0 : Int) ≤ _; omega) (by show (_ : Int) - 0 < _; omega)
      rw [hn] at e0
      simp only [hn, Int.toNat_natCast]
      refine ⟨⟨hl, g1, g2⟩, fun _ _ => ⟨⟨Int.le_refl _, by omega, by omega, by omega, by omega, by omega, fun p hp => by cases hp⟩, fun _ => ⟨fun h => ?_, fun h => ?_⟩⟩⟩
      · rw [if_pos (by rw [← hlw.1]; exact h)] at e0
        rw [e0]; exact ⟨rfl, rfl⟩
      rw [if_neg (by rw [← hlw.1]; exact h)] at e0
      change ¬ (lwV ds n 17 st0 []).1 ≥ 17 at h
      rw [hlw.1] at h
      refine evk_loop ⟨{ q : Nat × Fre × Int × List All × Mem6 // q.1 ≤ ds.length ∧ MemOk ds n q.2.2.2.2 ∧ q.2.2.1 = lsV ds n ((q.1 : Int), q.2.1) ∧ q.2.2.1 < 17 ∧ q.2.2.2.1.length = q.1 ∧ q.2.2.2.1 ++ allR (ds.drop q.1) cs (RlM.first n ((ds.drop q.1).map toNd) (frL q.2.1) q.2.2.1) = allR ds cs (pathR ds n) }, 3000,
       fun q => [(1, .one (.sl (.int .i64) cs false)), (16, .one (.loc 70 0)), (17, .one (.loc 72 0)), (18, .one (.int .i64 q.1.2.2.1)), (19, .one (.row 73))],
       fun q => [(70, .scell [.sl (.pair yFL (.pair (.int .i64) (.pair (.int .i64) (.pair (.int .i64) .bool)))) ds false, .int .i64 n, .map 71]), (72, .cells 78 [.int .i64 q.1.1, .int .i64 q.1.2.1.1, .int .i64 q.1.2.1.2.1, .int .i64 q.1.2.1.2.2.1, .int .i64 q.1.2.1.2.2.2.1, .int .i64 q.1.2.1.2.2.2.2.1, .int .i64 q.1.2.1.2.2.2.2.2]), (73, .row 46 (.pair yFL (.int .i64)) q.1.2.2.2.1), (71, .mapb (.pair (.int .i64) (.pair (.int .i64) yBR)) (.int .i64) true false q.1.2.2.2.2)],
       fun q => ds.length - q.1.1⟩ ⟨(0, st0.2, lsV ds n st0, [], (lwV ds n 17 st0 []).2), Nat.zero_le _, hlw.2, rfl, by dsimp only; omega, rfl, rfl⟩ ?_ ?_
      · simp only [go_sem]
        exact ⟨rfl, rfl, rfl, rfl, rfl, rfl, rfl, rfl, hlw.1⟩
      · rintro ⟨⟨i, ⟨(a0 : Int), (a1 : Int), (a2 : Int), (a3 : Int), (a4 : Int), (a5 : Int)⟩, (rest : Int), (acc : List All), (m : Mem6)⟩, (hi : i ≤ ds.length), (hm : MemOk ds n m), (hr : rest = lsV ds n ((i : Int), a0, a1, a2, a3, a4, a5)), (hr17 : rest < 17), (hal : acc.length = i), (hacc : acc ++ allR (ds.drop i) cs (RlM.first n ((ds.drop i).map toNd) (frL (a0, a1, a2, a3, a4, a5)) rest) = allR ds cs (pathR ds n))⟩
        (simp -implicitDefEqProofs (maxSteps := 4000000) only [go_sem, Bool.not_eq_true', Bool.not_eq_false', Bool.or_eq_true, Bool.or_eq_false_iff, Bool.and_eq_true, Bool.and_eq_false_iff, decide_eq_true_eq, decide_eq_false_iff_not, Classical.not_not, not_or, maxLen, con11, con32, con33, con34, conL35, con36, conL37, con38, conR39, hT, hG, hk, hK, Tryz.results11, leastC, con37, sortFCon]); (try simp (disch := decide +kernel) only [drawn, true_and, and_true])
        refine fun _ => ⟨fun hlt => ⟨by omega, fun _ hw => ?_⟩, fun hge => ?_⟩
        · obtain ⟨x, hx⟩ : ∃ x : Sst, ((i : Int), a0, a1, a2, a3, a4, a5) = x := ⟨_, rfl⟩
          have hx1 : x.1 = (i : Int) := by rw [← hx]
          have hx2 : (a0, a1, a2, a3, a4, a5) = x.2 := by rw [← hx]
          rw [hx] at hr
          rw [hx2] at hacc
          obtain ⟨NA, hNA⟩ : ∃ NA : Ned, ds.getD ((i : Int)).toNat ((ByteArray.empty, 0, ByteArray.empty, 0), 0, 0, 0, false) = NA := ⟨_, rfl⟩
          rw [hNA] at hw ⊢
          have hNA2 : nedAt ds x.1 = NA := by rw [hx1]; exact hNA
          have hdr : ds.drop i = NA :: ds.drop (i + 1) := by
           have := drop_at (ds := ds) (i := (i : Int)) (by omega) (by omega)
           rwa [show nedAt ds (i : Int) = NA from hNA, show ((i : Int) + 1).toNat = i + 1 by omega, Int.toNat_natCast] at this
          have hok : ∀ c : Nat, c < n → RlM.okc n ((ds.drop i).map toNd) (frL x.2) rest c = (possN NA c (x.2.get c) && decide (priceN NA c + lsV ds n (aftV ds x c) = rest)) := fun c hc => by
           rw [hdr, lsV_aft (by omega), hNA2, hx1, show ((i : Int) + 1).toNat = i + 1 by omega, get_eq _ (show c < 6 by omega)]
           rfl
          refine evk_loop ⟨{ q : Int × Mem6 // 0 ≤ q.1 ∧ q.1 ≤ n ∧ MemOk ds n q.2 ∧ ∀ c : Nat, (c : Int) < q.1 → RlM.okc n ((ds.drop i).map toNd) (frL x.2) rest c = false }, 4000,
           fun q => [(1, .one (.sl (.int .i64) cs false)), (16, .one (.loc 70 0)), (17, .one (.loc 72 0)), (18, .one (.int .i64 rest)), (19, .one (.row 73)), (20, .one (.loc 74 0)), (85, .one (.int .i64 n)), (86, .one (.int .i64 q.1.1))],
           fun q => [(70, .scell [.sl (.pair yFL (.pair (.int .i64) (.pair (.int .i64) (.pair (.int .i64) .bool)))) ds false, .int .i64 n, .map 71]), (72, .cells 78 [.int .i64 i, .int .i64 a0, .int .i64 a1, .int .i64 a2, .int .i64 a3, .int .i64 a4, .int .i64 a5]), (74, .cells 81 (expl (.pair yFL (.pair (.int .i64) (.pair (.int .i64) (.pair (.int .i64) .bool)))) NA)), (73, .row 46 (.pair yFL (.int .i64)) acc), (71, .mapb (.pair (.int .i64) (.pair (.int .i64) yBR)) (.int .i64) true false q.1.2)],
           fun q => (n - q.1.1).toNat⟩ ⟨(0, m), Int.le_refl 0, by dsimp only; omega, hm, fun c hc => absurd hc (by dsimp only; omega)⟩ ?_ ?_
          · simp only [go_sem]
          · rintro ⟨⟨(c : Int), (mm : Mem6)⟩, (hc0 : 0 ≤ c), (hcn : c ≤ n), (hmm : MemOk ds n mm), (hno : ∀ c' : Nat, (c' : Int) < c → RlM.okc n ((ds.drop i).map toNd) (frL x.2) rest c' = false)⟩
            obtain ⟨c, rfl⟩ := Int.eq_ofNat_of_zero_le hc0
            by_cases hlt2 : c < n
            · have hok1 := hok c hlt2
              have hlc := lw_ok (ds := ds) (n := n) (by omega) 17 (aftV ds x c) mm hmm (by show 0 ≤ x.1 + 1; omega) (by show x.1 + 1 ≤ _; omega) (by show _ - (x.1 + 1) < _; omega)
              have hbc := lwV_bd ds n 17 (aftV ds x c) mm hmm.bd
              have hpb := priceN_bd NA c
              have hn1 : possN NA c (x.2.get c) = false → ∀ c' : Nat, (c' : Int) < (c : Int) + 1 → RlM.okc n ((ds.drop i).map toNd) (frL x.2) rest c' = false := fun h c' hc' => by
               by_cases e : c' = c
               · rw [e, hok1, h]; rfl
               · exact hno c' (by omega)
              have hn2 : ¬ priceN NA c + (lwV ds n 17 (aftV ds x c) mm).1 = rest → ∀ c' : Nat, (c' : Int) < (c : Int) + 1 → RlM.okc n ((ds.drop i).map toNd) (frL x.2) rest c' = false := fun h c' hc' => by
               by_cases e : c' = c
               · rw [hlc.1] at h
                 rw [e, hok1, decide_eq_false h, Bool.and_false]
               · exact hno c' (by omega)
              have hfd : possN NA c (x.2.get c) = true → priceN NA c + (lwV ds n 17 (aftV ds x c) mm).1 = rest → RlM.first n ((ds.drop i).map toNd) (frL x.2) rest = c :: RlM.first n ((ds.drop (i + 1)).map toNd) (frL (aftV ds x c).2) (rest - priceN NA c) := fun h1 h2 => by
               rw [hlc.1] at h2
               have hf : (List.range n).find? (RlM.okc n ((ds.drop i).map toNd) (frL x.2) rest) = some c := by
                rw [List.find?_range_eq_some]
                refine ⟨by rw [hok1, h1, decide_eq_true h2]; rfl, List.mem_range.2 hlt2, fun j hj => by rw [hno j (by omega)]; rfl⟩
               rw [hdr] at hf ⊢
               rw [List.map_cons] at hf ⊢
               rw [first_cons hf, aft_eq ds x (show c < 6 by omega), hNA2]
               rfl
              have hst2 : possN NA c (x.2.get c) = true → priceN NA c + (lwV ds n 17 (aftV ds x c) mm).1 = rest →
               i + 1 ≤ ds.length ∧ MemOk ds n (lwV ds n 17 (aftV ds x c) mm).2 ∧ rest - priceN NA c = lsV ds n (((i + 1 : Nat) : Int), (aftV ds x c).2) ∧ rest - priceN NA c < 17 ∧ (acc ++ [(NA.1, cs.getD c 0)]).length = i + 1 ∧
               (acc ++ [(NA.1, cs.getD c 0)]) ++ allR (ds.drop (i + 1)) cs (RlM.first n ((ds.drop (i + 1)).map toNd) (frL (aftV ds x c).2) (rest - priceN NA c)) = allR ds cs (pathR ds n) := fun h1 h2 => by
               have e1 : (((i + 1 : Nat) : Int), (aftV ds x c).2) = aftV ds x c := by
                have : (aftV ds x c).1 = ((i + 1 : Nat) : Int) := by show x.1 + 1 = _; omega
                rw [← this]
               refine ⟨by omega, hlc.2, by rw [e1, ← hlc.1]; omega, by omega, by rw [List.length_append, List.length_singleton]; omega, ?_⟩
               rw [← hacc, hfd h1 h2, hdr, List.append_assoc]
               rfl
              have hcc : c = 0 ∨ c = 1 ∨ c = 2 ∨ c = 3 ∨ c = 4 ∨ c = 5 := by omega
              clear hok1 hw
              rcases hcc with rfl | rfl | rfl | rfl | rfl | rfl
              · have hg0 : x.2.get ((0 : Nat) : Int) = a0 := by rw [← hx]; rfl
                subst hx
                rw [hg0] at hn1 hfd hst2
                simp only [Int.cast_ofNat_Int, Nat.reduceAdd] at hn1 hn2 hfd hst2 hlc hbc hpb
                (simp -implicitDefEqProofs (maxSteps := 4000000) only [go_sem, Bool.not_eq_true', Bool.not_eq_false', Bool.or_eq_true, Bool.or_eq_false_iff, Bool.and_eq_true, Bool.and_eq_false_iff, decide_eq_true_eq, decide_eq_false_iff_not, Classical.not_not, not_or, maxLen, con11, con32, con33, con34, conL35, con36, conL37, con38, conR39, hT, hG, hk, hK, Tryz.results11, leastC, con37, Int.cast_ofNat_Int, Int.reduceLE, Int.reduceLT, and_self, Int.le_refl, Int.reduceToNat, Ty.dflt]); (try simp (disch := decide +kernel) only [drawn, true_and, and_true])
                simp only [Int.toNat_natCast]
                refine ⟨fun _ => ⟨fun h => ⟨by omega, ?_⟩, fun h => ⟨⟨by omega, by omega, by omega⟩, fun _ _ => ⟨⟨by show 0 ≤ (i : Int) + 1; omega, by show (i : Int) + 1 ≤ _; omega, by omega, by omega, by omega, by show _ - ((i : Int) + 1) < _; omega, hmm.bd⟩, fun _ => ⟨by omega, fun h2 => ⟨by omega, fun _ _ => ⟨by omega, fun _ => ⟨by omega, ?_⟩⟩⟩, fun h2 => ⟨by omega, ?_⟩⟩⟩⟩⟩, fun h => absurd hlt2 (by omega)⟩
                · refine fin_lp ⟨(1, mm), by dsimp only; omega, by dsimp only; omega, hmm, hn1 h⟩ ?_ (by dsimp only; omega)
                  simp only [go_sem]
                  try rfl
                · refine fin_lp ⟨(i + 1, (aftV ds ((i : Int), a0, a1, a2, a3, a4, a5) 0).2, rest - priceN NA 0, acc ++ [(NA.1, cs.getD 0 0)], (lwV ds n 17 (aftV ds ((i : Int), a0, a1, a2, a3, a4, a5) 0) mm).2), hst2 h h2⟩ ?_ (by dsimp only; omega)
                  simp only [go_sem]
                  show (i : Int) + 1 = _
                  omega
                · refine fin_lp ⟨(1, (lwV ds n 17 (aftV ds ((i : Int), a0, a1, a2, a3, a4, a5) 0) mm).2), by dsimp only; omega, by dsimp only; omega, hlc.2, hn2 h2⟩ ?_ (by dsimp only; omega)
                  simp only [go_sem]
                  try rfl
              · have hg0 : x.2.get ((1 : Nat) : Int) = a1 := by rw [← hx]; rfl
                subst hx
                rw [hg0] at hn1 hfd hst2
                simp only [Int.cast_ofNat_Int, Nat.reduceAdd] at hn1 hn2 hfd hst2 hlc hbc hpb
                (simp -implicitDefEqProofs (maxSteps := 4000000) only [go_sem, Bool.not_eq_true', Bool.not_eq_false', Bool.or_eq_true, Bool.or_eq_false_iff, Bool.and_eq_true, Bool.and_eq_false_iff, decide_eq_true_eq, decide_eq_false_iff_not, Classical.not_not, not_or, maxLen, con11, con32, con33, con34, conL35, con36, conL37, con38, conR39, hT, hG, hk, hK, Tryz.results11, leastC, con37, Int.cast_ofNat_Int, Int.reduceLE, Int.reduceLT, and_self, Int.le_refl, Int.reduceToNat, Ty.dflt]); (try simp (disch := decide +kernel) only [drawn, true_and, and_true])
                simp only [Int.toNat_natCast]
                refine ⟨fun _ => ⟨fun h => ⟨by omega, ?_⟩, fun h => ⟨⟨by omega, by omega, by omega⟩, fun _ _ => ⟨⟨by show 0 ≤ (i : Int) + 1; omega, by show (i : Int) + 1 ≤ _; omega, by omega, by omega, by omega, by show _ - ((i : Int) + 1) < _; omega, hmm.bd⟩, fun _ => ⟨by omega, fun h2 => ⟨by omega, fun _ _ => ⟨by omega, fun _ => ⟨by omega, ?_⟩⟩⟩, fun h2 => ⟨by omega, ?_⟩⟩⟩⟩⟩, fun h => absurd hlt2 (by omega)⟩
                · refine fin_lp ⟨(2, mm), by dsimp only; omega, by dsimp only; omega, hmm, hn1 h⟩ ?_ (by dsimp only; omega)
                  simp only [go_sem]
                  try rfl
                · refine fin_lp ⟨(i + 1, (aftV ds ((i : Int), a0, a1, a2, a3, a4, a5) 1).2, rest - priceN NA 1, acc ++ [(NA.1, cs.getD 1 0)], (lwV ds n 17 (aftV ds ((i : Int), a0, a1, a2, a3, a4, a5) 1) mm).2), hst2 h h2⟩ ?_ (by dsimp only; omega)
                  simp only [go_sem]
                  show (i : Int) + 1 = _
                  omega
                · refine fin_lp ⟨(2, (lwV ds n 17 (aftV ds ((i : Int), a0, a1, a2, a3, a4, a5) 1) mm).2), by dsimp only; omega, by dsimp only; omega, hlc.2, hn2 h2⟩ ?_ (by dsimp only; omega)
                  simp only [go_sem]
                  try rfl
              · have hg0 : x.2.get ((2 : Nat) : Int) = a2 := by rw [← hx]; rfl
                subst hx
                rw [hg0] at hn1 hfd hst2
                simp only [Int.cast_ofNat_Int, Nat.reduceAdd] at hn1 hn2 hfd hst2 hlc hbc hpb
                (simp -implicitDefEqProofs (maxSteps := 4000000) only [go_sem, Bool.not_eq_true', Bool.not_eq_false', Bool.or_eq_true, Bool.or_eq_false_iff, Bool.and_eq_true, Bool.and_eq_false_iff, decide_eq_true_eq, decide_eq_false_iff_not, Classical.not_not, not_or, maxLen, con11, con32, con33, con34, conL35, con36, conL37, con38, conR39, hT, hG, hk, hK, Tryz.results11, leastC, con37, Int.cast_ofNat_Int, Int.reduceLE, Int.reduceLT, and_self, Int.le_refl, Int.reduceToNat, Ty.dflt]); (try simp (disch := decide +kernel) only [drawn, true_and, and_true])
                simp only [Int.toNat_natCast]
                refine ⟨fun _ => ⟨fun h => ⟨by omega, ?_⟩, fun h => ⟨⟨by omega, by omega, by omega⟩, fun _ _ => ⟨⟨by show 0 ≤ (i : Int) + 1; omega, by show (i : Int) + 1 ≤ _; omega, by omega, by omega, by omega, by show _ - ((i : Int) + 1) < _; omega, hmm.bd⟩, fun _ => ⟨by omega, fun h2 => ⟨by omega, fun _ _ => ⟨by omega, fun _ => ⟨by omega, ?_⟩⟩⟩, fun h2 => ⟨by omega, ?_⟩⟩⟩⟩⟩, fun h => absurd hlt2 (by omega)⟩
                · refine fin_lp ⟨(3, mm), by dsimp only; omega, by dsimp only; omega, hmm, hn1 h⟩ ?_ (by dsimp only; omega)
                  simp only [go_sem]
                  try rfl
                · refine fin_lp ⟨(i + 1, (aftV ds ((i : Int), a0, a1, a2, a3, a4, a5) 2).2, rest - priceN NA 2, acc ++ [(NA.1, cs.getD 2 0)], (lwV ds n 17 (aftV ds ((i : Int), a0, a1, a2, a3, a4, a5) 2) mm).2), hst2 h h2⟩ ?_ (by dsimp only; omega)
                  simp only [go_sem]
                  show (i : Int) + 1 = _
                  omega
                · refine fin_lp ⟨(3, (lwV ds n 17 (aftV ds ((i : Int), a0, a1, a2, a3, a4, a5) 2) mm).2), by dsimp only; omega, by dsimp only; omega, hlc.2, hn2 h2⟩ ?_ (by dsimp only; omega)
                  simp only [go_sem]
                  try rfl
              · have hg0 : x.2.get ((3 : Nat) : Int) = a3 := by rw [← hx]; rfl
                subst hx
                rw [hg0] at hn1 hfd hst2
                simp only [Int.cast_ofNat_Int, Nat.reduceAdd] at hn1 hn2 hfd hst2 hlc hbc hpb
                (simp -implicitDefEqProofs (maxSteps := 4000000) only [go_sem, Bool.not_eq_true', Bool.not_eq_false', Bool.or_eq_true, Bool.or_eq_false_iff, Bool.and_eq_true, Bool.and_eq_false_iff, decide_eq_true_eq, decide_eq_false_iff_not, Classical.not_not, not_or, maxLen, con11, con32, con33, con34, conL35, con36, conL37, con38, conR39, hT, hG, hk, hK, Tryz.results11, leastC, con37, Int.cast_ofNat_Int, Int.reduceLE, Int.reduceLT, and_self, Int.le_refl, Int.reduceToNat, Ty.dflt]); (try simp (disch := decide +kernel) only [drawn, true_and, and_true])
                simp only [Int.toNat_natCast]
                refine ⟨fun _ => ⟨fun h => ⟨by omega, ?_⟩, fun h => ⟨⟨by omega, by omega, by omega⟩, fun _ _ => ⟨⟨by show 0 ≤ (i : Int) + 1; omega, by show (i : Int) + 1 ≤ _; omega, by omega, by omega, by omega, by show _ - ((i : Int) + 1) < _; omega, hmm.bd⟩, fun _ => ⟨by omega, fun h2 => ⟨by omega, fun _ _ => ⟨by omega, fun _ => ⟨by omega, ?_⟩⟩⟩, fun h2 => ⟨by omega, ?_⟩⟩⟩⟩⟩, fun h => absurd hlt2 (by omega)⟩
                · refine fin_lp ⟨(4, mm), by dsimp only; omega, by dsimp only; omega, hmm, hn1 h⟩ ?_ (by dsimp only; omega)
                  simp only [go_sem]
                  try rfl
                · refine fin_lp ⟨(i + 1, (aftV ds ((i : Int), a0, a1, a2, a3, a4, a5) 3).2, rest - priceN NA 3, acc ++ [(NA.1, cs.getD 3 0)], (lwV ds n 17 (aftV ds ((i : Int), a0, a1, a2, a3, a4, a5) 3) mm).2), hst2 h h2⟩ ?_ (by dsimp only; omega)
                  simp only [go_sem]
                  show (i : Int) + 1 = _
                  omega
                · refine fin_lp ⟨(4, (lwV ds n 17 (aftV ds ((i : Int), a0, a1, a2, a3, a4, a5) 3) mm).2), by dsimp only; omega, by dsimp only; omega, hlc.2, hn2 h2⟩ ?_ (by dsimp only; omega)
                  simp only [go_sem]
                  try rfl
              · have hg0 : x.2.get ((4 : Nat) : Int) = a4 := by rw [← hx]; rfl
                subst hx
                rw [hg0] at hn1 hfd hst2
                simp only [Int.cast_ofNat_Int, Nat.reduceAdd] at hn1 hn2 hfd hst2 hlc hbc hpb
                (simp -implicitDefEqProofs (maxSteps := 4000000) only [go_sem, Bool.not_eq_true', Bool.not_eq_false', Bool.or_eq_true, Bool.or_eq_false_iff, Bool.and_eq_true, Bool.and_eq_false_iff, decide_eq_true_eq, decide_eq_false_iff_not, Classical.not_not, not_or, maxLen, con11, con32, con33, con34, conL35, con36, conL37, con38, conR39, hT, hG, hk, hK, Tryz.results11, leastC, con37, Int.cast_ofNat_Int, Int.reduceLE, Int.reduceLT, and_self, Int.le_refl, Int.reduceToNat, Ty.dflt]); (try simp (disch := decide +kernel) only [drawn, true_and, and_true])
                simp only [Int.toNat_natCast]
                refine ⟨fun _ => ⟨fun h => ⟨by omega, ?_⟩, fun h => ⟨⟨by omega, by omega, by omega⟩, fun _ _ => ⟨⟨by show 0 ≤ (i : Int) + 1; omega, by show (i : Int) + 1 ≤ _; omega, by omega, by omega, by omega, by show _ - ((i : Int) + 1) < _; omega, hmm.bd⟩, fun _ => ⟨by omega, fun h2 => ⟨by omega, fun _ _ => ⟨by omega, fun _ => ⟨by omega, ?_⟩⟩⟩, fun h2 => ⟨by omega, ?_⟩⟩⟩⟩⟩, fun h => absurd hlt2 (by omega)⟩
                · refine fin_lp ⟨(5, mm), by dsimp only; omega, by dsimp only; omega, hmm, hn1 h⟩ ?_ (by dsimp only; omega)
                  simp only [go_sem]
                  try rfl
                · refine fin_lp ⟨(i + 1, (aftV ds ((i : Int), a0, a1, a2, a3, a4, a5) 4).2, rest - priceN NA 4, acc ++ [(NA.1, cs.getD 4 0)], (lwV ds n 17 (aftV ds ((i : Int), a0, a1, a2, a3, a4, a5) 4) mm).2), hst2 h h2⟩ ?_ (by dsimp only; omega)
                  simp only [go_sem]
                  show (i : Int) + 1 = _
                  omega
                · refine fin_lp ⟨(5, (lwV ds n 17 (aftV ds ((i : Int), a0, a1, a2, a3, a4, a5) 4) mm).2), by dsimp only; omega, by dsimp only; omega, hlc.2, hn2 h2⟩ ?_ (by dsimp only; omega)
                  simp only [go_sem]
                  try rfl
              · have hg0 : x.2.get ((5 : Nat) : Int) = a5 := by rw [← hx]; rfl
                subst hx
                rw [hg0] at hn1 hfd hst2
                simp only [Int.cast_ofNat_Int, Nat.reduceAdd] at hn1 hn2 hfd hst2 hlc hbc hpb
                (simp -implicitDefEqProofs (maxSteps := 4000000) only [go_sem, Bool.not_eq_true', Bool.not_eq_false', Bool.or_eq_true, Bool.or_eq_false_iff, Bool.and_eq_true, Bool.and_eq_false_iff, decide_eq_true_eq, decide_eq_false_iff_not, Classical.not_not, not_or, maxLen, con11, con32, con33, con34, conL35, con36, conL37, con38, conR39, hT, hG, hk, hK, Tryz.results11, leastC, con37, Int.cast_ofNat_Int, Int.reduceLE, Int.reduceLT, and_self, Int.le_refl, Int.reduceToNat, Ty.dflt]); (try simp (disch := decide +kernel) only [drawn, true_and, and_true])
                simp only [Int.toNat_natCast]
                refine ⟨fun _ => ⟨fun h => ⟨by omega, ?_⟩, fun h => ⟨⟨by omega, by omega, by omega⟩, fun _ _ => ⟨⟨by show 0 ≤ (i : Int) + 1; omega, by show (i : Int) + 1 ≤ _; omega, by omega, by omega, by omega, by show _ - ((i : Int) + 1) < _; omega, hmm.bd⟩, fun _ => ⟨by omega, fun h2 => ⟨by omega, fun _ _ => ⟨by omega, fun _ => ⟨by omega, ?_⟩⟩⟩, fun h2 => ⟨by omega, ?_⟩⟩⟩⟩⟩, fun h => absurd hlt2 (by omega)⟩
                · refine fin_lp ⟨(6, mm), by dsimp only; omega, by dsimp only; omega, hmm, hn1 h⟩ ?_ (by dsimp only; omega)
                  simp only [go_sem]
                  try rfl
                · refine fin_lp ⟨(i + 1, (aftV ds ((i : Int), a0, a1, a2, a3, a4, a5) 5).2, rest - priceN NA 5, acc ++ [(NA.1, cs.getD 5 0)], (lwV ds n 17 (aftV ds ((i : Int), a0, a1, a2, a3, a4, a5) 5) mm).2), hst2 h h2⟩ ?_ (by dsimp only; omega)
                  simp only [go_sem]
                  show (i : Int) + 1 = _
                  omega
                · refine fin_lp ⟨(6, (lwV ds n 17 (aftV ds ((i : Int), a0, a1, a2, a3, a4, a5) 5) mm).2), by dsimp only; omega, by dsimp only; omega, hlc.2, hn2 h2⟩ ?_ (by dsimp only; omega)
                  simp only [go_sem]
                  try rfl
            · exfalso
              obtain rfl : c = n := by omega
              have hx0 := lsV_step (ds := ds) (n := c) (x := x) (by omega) (by omega) (by omega)
              rcases RlM.fold_ex (d := toNd (nedAt ds x.1)) (fr := frL x.2) (f := fun k => RlM.least c ((ds.drop (x.1 + 1).toNat).map toNd) (RlM.after (toNd (nedAt ds x.1)) k (frL x.2))) (List.range c) 17 with h | ⟨k, hk1, hk2, hk3⟩
              · rw [← hx0] at h; omega
              · have hk4 := List.mem_range.1 hk1
                have := hno k (by omega)
                rw [hok k hk4, poss_eq, get_eq _ (show k < 6 by omega), ← hNA2, hk2, price_eq, lsV_aft (by omega), ← hk3, ← hx0, hr] at this
                simp at this
        · rw [List.drop_of_length_le (by omega)] at hacc
          have hA : acc = allR ds cs (pathR ds n) := by rw [← hacc]; exact (List.append_nil _).symm
          have hnk : (acc.map (fun a => a.1)).Nodup := by
           rw [hA]
           refine (allR_keys cs ds _).nodup ?_
           rw [← hds]
           exact need_nodup h0
          refine ⟨by omega, fun a h => ?_⟩
          rw [e0, ← hA]
          exact ⟨rfl, sortAl_eq hnk h.1 h.2⟩)
end Go.Proofs.YtdeihcabmpcaoaaGreat
