/- Devices at work (plain); the generator of grants. -/
import Derived.Test.YthlomeneidophaaGreatMvKJToKS
import Derived.Test.YthlomeneidophaaGreatEvTab
import Derived.OpenShut
import Derived.JoinedCond
import Derived.Below
import Derived.ChangeSame
import Derived.ChangeArms
import Derived.WideKeyArgs
set_option linter.unusedSimpArgs false
set_option linter.unusedVariables false
set_option maxRecDepth 100000
set_option maxHeartbeats 8000000
namespace Go.Proofs.YthlomeneidophaaGreat
open Go.Ev

theorem mg_one {o : Opn} (ho : okOp o = true) : ∀ {l : List Opn}, OkL l → (∀ x ∈ l, x.1 ≤ o.1 ∧ (x.2.1 = o.2.1 → x.2.2.1 < o.2.2.1)) → OkL (mg l [o]) ∧ (∀ x, x ∈ mg l [o] ↔ x ∈ l ∨ x = o) ∧ (mg l [o]).length = l.length + 1
 | [], _, _ => by
   rw [mg]
   exact ⟨⟨fun x hx => by rw [List.mem_singleton.1 hx]; exact ho, List.pairwise_singleton _ _⟩, fun x => by simp, rfl⟩
 | x :: l, h, hx => by
   have hx0 := hx x List.mem_cons_self
   obtain ⟨hp1, hp2⟩ := List.pairwise_cons.1 h.pw
   have hne : ¬ x = o := fun e => by subst e; have := hx0.2 rfl; omega
   rw [mg, if_neg hne]
   by_cases hb : bfV o x = true
   · rw [if_pos hb, show mg (x :: l) [] = x :: l by simp [mg]]
     refine ⟨⟨fun y hy => ?_, List.pairwise_cons.2 ⟨fun y hy => ?_, h.pw⟩⟩, fun y => ?_, rfl⟩
     · rcases List.mem_cons.1 hy with rfl | hy
       · exact ho
       · exact h.ok y hy
     · have hby : bfV o y = true := by
        rcases List.mem_cons.1 hy with rfl | hy
        · exact hb
        · exact bfV_trans hb (hp1 y hy).1
       have := hx y hy
       refine ⟨hby, fun e => ?_⟩
       unfold bfV at hby
       simp only [decide_eq_true_eq] at hby
       have := this.2 e.symm
       omega
     · rw [List.mem_cons, or_comm]
   · rw [if_neg hb]
     obtain ⟨a, b, c⟩ := mg_one ho (l := l) ⟨fun y hy => h.ok y (List.mem_cons_of_mem _ hy), hp2⟩ (fun y hy => hx y (List.mem_cons_of_mem _ hy))
     refine ⟨⟨fun y hy => ?_, List.pairwise_cons.2 ⟨fun y hy => ?_, a.pw⟩⟩, fun y => ?_, by rw [List.length_cons, c, List.length_cons]⟩
     · rcases List.mem_cons.1 hy with rfl | hy
       · exact h.ok y List.mem_cons_self
       · exact a.ok y hy
     · rcases (b y).1 hy with hy | rfl
       · exact hp1 y hy
       · refine ⟨?_, hx0.2⟩
         unfold bfV at hb ⊢
         simp only [decide_eq_true_eq] at hb ⊢
         have h1 := hx0.1
         by_cases e : x.2.1 = y.2.1
         · have := hx0.2 e; omega
         · omega
     · rw [List.mem_cons, b y, List.mem_cons, or_assoc]
theorem merge_one {l : List Opn} {o : Opn} (h : OkL l) (hl : l.length < 360) (ho : okOp o = true) (hx : ∀ x ∈ l, x.1 ≤ o.1 ∧ (x.2.1 = o.2.1 → x.2.2.1 < o.2.2.1)) :
 (mergeV l [o]).2 = 0 ∧ OkL (mergeV l [o]).1 ∧ (∀ x, x ∈ (mergeV l [o]).1 ↔ x ∈ l ∨ x = o) ∧ (mergeV l [o]).1.length = l.length + 1 := by
 obtain ⟨a, b, c⟩ := mg_one ho h hx
 have e1 : valV l = 0 := h.val (by omega)
 have e2 : valV [o] = 0 := OkL.val ⟨fun x hx => by rw [List.mem_singleton.1 hx]; exact ho, List.pairwise_singleton _ _⟩ (by simp)
 have e3 : valV (mg l [o]) = 0 := a.val (by omega)
 have e4 : dupBm l [o] = false := by
  unfold dupBm
  rw [decide_eq_false_iff_not]
  rintro ⟨x, hx1, y, hy, h1, h2, _⟩
  rw [List.mem_singleton.1 hy] at h1 h2
  have := (hx x hx1).2 h1
  omega
 have e : mergeV l [o] = (mg l [o], 0) := by
  unfold mergeV
  rw [if_neg (by simp [e1]), if_neg (by simp [e2]), if_neg (by simp [e4]), if_neg (by simp [e3])]
 rw [e]
 exact ⟨rfl, a, b, c⟩
/-- The last two are no two loads. -/
def E2 (m : List Opn) : Prop := ∀ a b s, m.reverse = a :: b :: s → ¬ (a.kind = 1 ∧ b.kind = 1)
theorem E2.trail {m : List Opn} (h : E2 m) : (trail m).length ≤ 1 := by
 unfold Proofs.YthlomeneidophaaGreat.trail
 rw [List.length_map]
 match e : m.reverse with
 | [] => simp
 | [a] => by_cases q : a.kind = 1 <;> simp [q]
 | a :: b :: s =>
   have := h a b s e
   by_cases q : a.kind = 1
   · have q2 : ¬ b.kind = 1 := fun q2 => this ⟨q, q2⟩
     simp [q, q2]
   · simp [q]
theorem lastO_about (l : List Opn) (p : Plt) : lastO l p = (aboutP l p).reverse.head? := by
 unfold lastO aboutP
 rw [← List.filter_reverse, List.head?_filter]
/-- A log in which no bag is loaded twice without an unload. -/
def Alt (l : List Opn) : Prop := ∀ p, E2 (aboutP l p)
theorem Alt.nil : Alt [] := fun p a b s h => by cases h
theorem Alt.snoc {l : List Opn} {o : Opn} (h : Alt l) (hk : o.kind = 1 → ∀ z, lastO l o.plate = some z → z.kind ≠ 1) : Alt (l ++ [o]) := fun p => by
 unfold aboutP
 rw [List.filter_append]
 by_cases e : o.plate = p
 · rw [List.filter_cons_of_pos (by simpa using e), List.filter_nil]
   intro a b s hr
   rw [List.reverse_append, List.reverse_singleton, List.singleton_append, List.cons.injEq] at hr
   obtain ⟨rfl, hr⟩ := hr
   rintro ⟨h1, h2⟩
   refine hk h1 b ?_ h2
   rw [e, lastO_about]
   unfold aboutP
   rw [hr]; rfl
 · rw [List.filter_cons_of_neg (by simpa using e), List.filter_nil, List.append_nil]
   exact h p
theorem Alt.conf {l : List Opn} (h : Alt l) : confV l = [] := by
 unfold confV
 rw [List.map_eq_nil_iff, List.filter_eq_nil_iff]
 intro z hz
 unfold placesV at hz
 split at hz
 · cases hz
 · obtain ⟨p, _, rfl⟩ := List.mem_map.1 hz
   have h1 := (h p).trail
   have h2 := compV_le (sortI (trail (aboutP l p)))
   rw [sortI_len] at h2
   have : (placeV (aboutP l p)).2.2.length ≤ 1 := by unfold placeV; dsimp only; omega
   simp; omega
theorem bareC_ok {c : List Cnt} (h : CtsOk c) : CtsOk (bareC c) := by
 unfold bareC
 refine ⟨by rw [List.length_map]; exact h.len, fun x hx => ?_, List.pairwise_map.2 (h.num.imp fun q => q), List.pairwise_map.2 (h.pos.imp fun q => q), List.pairwise_map.2 (h.pl.imp fun _ x hx => (by cases hx))⟩
 obtain ⟨o, ho, rfl⟩ := List.mem_map.1 hx
 exact ⟨(h.ok o ho).1, Nat.zero_le _, ⟨fun x hx => (by cases hx), .nil⟩⟩
abbrev hn0 : Hnd := (0, 0, 0, false, [], [], [])
theorem ctsOk_nil : CtsOk [] := ⟨Nat.zero_le _, fun x hx => (by cases hx), .nil, .nil, .nil⟩
theorem newH_ok {i : Nat} (h : i < 6) : HOk (newH i) := by
 unfold newH
 refine ⟨by dsimp only; omega, by dsimp only; omega, by dsimp only; omega, .inr ⟨rfl, rfl, rfl⟩, Nat.zero_le _, fun x hx => (by cases hx), fun i _ hi => absurd hi (Nat.not_lt_zero _), fun x hx => (by cases hx), ctsOk_nil, Nat.zero_le _, fun x hx => (by cases hx), fun i hi => absurd hi (Nat.not_lt_zero _), fun i _ hi => absurd hi (Nat.not_lt_zero _)⟩
theorem HOk.off {h : Hnd} {g : List Grt} {c : List Cnt} (h0 : HOk h) (hg : GOk g) (hc : CtsOk c) : HOk (offH h g c) := by
 refine ⟨h0.num, h0.nxt, h0.lst, .inl rfl, hg.len, hg.ok, hg.srt, fun o ho => ?_, bareC_ok hc, h0.ll, h0.lok, h0.lsq, h0.lt⟩
 obtain ⟨x, _, rfl⟩ := List.mem_map.1 (show o ∈ bareC c from ho)
 rfl
theorem scanV_0 {h : Hnd} {k : Int} {p : Pce} {n t : Int} (he : (scanV h k p n t).2.2 = 0) :
 scanV h k p n t = ((h.1, h.2.1 + 1, t, h.2.2.2.1, h.2.2.2.2.1, h.2.2.2.2.2.1, if h.2.2.2.1 = true then h.2.2.2.2.2.2 ++ [(t, h.1, h.2.1, k, n, p)] else h.2.2.2.2.2.2), (t, h.1, h.2.1, k, n, p), 0) ∧
 (h.2.2.2.1 = true → k = 1 → loadV h.2.2.2.2.2.1 h.2.2.2.2.1 h.2.2.2.2.2.2 p n = 0) := by
 unfold scanV at he ⊢
 split at he
 · rename_i hc; exact absurd he hc.2.2
 · rename_i hc
   rw [if_neg hc]
   exact ⟨rfl, fun h1 h2 => Classical.byContradiction fun h3 => hc ⟨h1, h2, h3⟩⟩
theorem loadV_last {cs : List Cnt} {gr : List Grt} {lg : List Opn} {p : Pce} {n : Int} (h : loadV cs gr lg p n = 0) : ∀ z, lastO lg p.1 = some z → z.kind ≠ 1 := fun z hz hk => by
 unfold loadV at h
 split at h
 · cases h
 · split at h
   · cases h
   · rw [hz] at h
     dsimp only at h
     rw [if_pos hk] at h
     cases h
theorem getD_snoc {l : List Opn} {o z : Opn} {i : Nat} : (l ++ [o]).getD i z = if i < l.length then l.getD i z else if i = l.length then o else z := by
 rw [List.getD_eq_getElem?_getD, List.getElem?_append]
 split
 · rw [List.getD_eq_getElem?_getD]
 · split
   · rename_i h1 h2; subst h2; simp
   · rename_i h1 h2
     rw [List.getElem?_eq_none (by simp; omega)]; rfl
theorem HOk.scan {h : Hnd} {k : Int} {p : Pce} {n t : Int} (h0 : HOk h) (hk : k = 1 ∨ k = 2) (hp : okPc p = true) (hn : 1 ≤ n ∧ n ≤ 999) (ht : h.2.2.1 ≤ t ∧ t ≤ 1000) (hx : h.2.1 ≤ 1000) (hl : h.2.2.2.2.2.2.length < 60) :
 okOp (t, h.1, h.2.1, k, n, p) = true ∧ HOk (h.1, h.2.1 + 1, t, h.2.2.2.1, h.2.2.2.2.1, h.2.2.2.2.2.1, if h.2.2.2.1 = true then h.2.2.2.2.2.2 ++ [(t, h.1, h.2.1, k, n, p)] else h.2.2.2.2.2.2) := by
 have h1 := h0.num
 have h2 := h0.nxt
 have h3 := h0.lst
 have ho : okOp (t, h.1, h.2.1, k, n, p) = true := by
  unfold okOp inV
  simp only [hp, Bool.and_eq_true, Bool.or_eq_true, decide_eq_true_eq, and_true]
  omega
 refine ⟨ho, ?_⟩
 obtain ⟨a, x, l, off, gr, cs, lg⟩ := h
 have hlq : ∀ i, i < lg.length → (lg.getD i o0).2.2.1 = x - lg.length + i := h0.lsq
 have hlt : ∀ i, 0 < i → i < lg.length → (lg.getD (i - 1) o0).1 ≤ (lg.getD i o0).1 := h0.lt
 have hlk : ∀ o ∈ lg, okOp o = true ∧ o.2.1 = a ∧ o.1 ≤ l := h0.lok
 dsimp only at *
 by_cases hf : off = true
 · rw [if_pos hf]
   refine ⟨h1, by dsimp only; omega, by dsimp only; omega, .inl hf, h0.gl, h0.gok, h0.gs, h0.ce, h0.cok, by dsimp only; rw [List.length_append, List.length_singleton]; omega, fun o ho' => ?_, fun i hi => ?_, fun i hi0 hi => ?_⟩ <;> dsimp only at *
   · rcases List.mem_append.1 ho' with q | q
     · obtain ⟨k1, k2, k3⟩ := hlk o q
       exact ⟨k1, k2, by omega⟩
     · rw [List.mem_singleton.1 q]; exact ⟨ho, rfl, Int.le_refl _⟩
   · rw [List.length_append, List.length_singleton] at hi ⊢
     rw [getD_snoc]
     by_cases q : i < lg.length
     · rw [if_pos q, hlq i q]; omega
     · rw [if_neg q, if_pos (by omega)]; dsimp only; omega
   · rw [List.length_append, List.length_singleton] at hi
     rw [getD_snoc, getD_snoc, if_pos (by omega : i - 1 < lg.length)]
     by_cases q : i < lg.length
     · rw [if_pos q]; exact hlt i hi0 q
     · rw [if_neg q, if_pos (by omega)]
       have := (hlk _ (getD_mem (d := o0) (by omega : i - 1 < lg.length))).2.2
       dsimp only; omega
 · rw [if_neg hf]
   obtain ⟨q1, q2, q3⟩ := h0.bar.resolve_left hf
   dsimp only at q3
   have q3 := List.eq_nil_of_length_eq_zero q3
   subst q3
   exact ⟨h1, by dsimp only; omega, by dsimp only; omega, .inr ⟨q1, q2, rfl⟩, h0.gl, h0.gok, h0.gs, h0.ce, h0.cok, Nat.zero_le _, fun o ho => (by cases ho), fun i hi => absurd hi (Nat.not_lt_zero _), fun i _ hi => absurd hi (Nat.not_lt_zero _)⟩
/-- Four devices at work: their operations so far, those of the first one. -/
structure DInv (h : List Hnd) (now : Int) (k : Nat) (all one : List Opn) : Prop where
 len : h.length = 4
 hok : ∀ j, j < 4 → HOk (h.getD j hn0) ∧ (h.getD j hn0).1 = (j : Int) + 1 ∧ (h.getD j hn0).2.2.1 ≤ now ∧ (h.getD j hn0).2.1 ≤ (k : Int) + 1 ∧ (h.getD j hn0).2.2.2.2.2.2.length ≤ k
 off : (h.getD 0 hn0).2.2.2.1 = true
 lg0 : (h.getD 0 hn0).2.2.2.2.2.2 = one
 alt : Alt one
 ok : OkL all
 al : all.length ≤ k
 dv : ∀ o ∈ all, o.1 ≤ now ∧ 1 ≤ o.2.1 ∧ o.2.1 ≤ 4 ∧ o.2.2.1 < (h.getD (o.2.1 - 1).toNat hn0).2.1
 nw : 0 ≤ now ∧ now ≤ 2 * (k : Int)
theorem getD_setH {l : List Hnd} {d j : Nat} {x : Hnd} (hd : d < l.length) : (l.set d x).getD j hn0 = if j = d then x else l.getD j hn0 := by
 rw [List.getD_eq_getElem?_getD, List.getElem?_set, List.getD_eq_getElem?_getD]
 by_cases h : j = d
 · subst h; rw [if_pos rfl, if_pos rfl, if_pos hd]; rfl
 · rw [if_neg (fun e => h e.symm), if_neg h]
theorem DInv.next {h : List Hnd} {now now' : Int} {k : Nat} {all one : List Opn} (D : DInv h now k all one) (h1 : now ≤ now') (h2 : now' ≤ now + 2) : DInv h now' (k + 1) all one :=
 ⟨D.len, fun j hj => by
   obtain ⟨a, b, c, d, e⟩ := D.hok j hj
   exact ⟨a, b, by omega, by omega, by omega⟩, D.off, D.lg0, D.alt, D.ok, Nat.le_succ_of_le D.al, fun o ho => by
   obtain ⟨a, b⟩ := D.dv o ho
   exact ⟨by omega, b⟩, by have := D.nw; omega⟩
theorem DInv.scan {h : List Hnd} {now now' : Int} {k : Nat} {all one : List Opn} (D : DInv h now k all one) (ht : now ≤ now' ∧ now' ≤ now + 2) (hk40 : k < 40) {d : Nat} (hd : d < 4) {kd n : Int} {p : Pce} (hk : kd = 1 ∨ kd = 2) (hp : okPc p = true) (hn : 1 ≤ n ∧ n ≤ 999)
 {S : Hnd × Opn × Int} (hS : scanV (h.getD d hn0) kd p n now' = S) (he : S.2.2 = 0) :
 (mergeV all [S.2.1]).2 = 0 ∧ DInv (h.set d S.1) now' (k + 1) (mergeV all [S.2.1]).1 (if d = 0 then one ++ [S.2.1] else one) := by
 obtain ⟨ha, hb, hc, hx, hl⟩ := D.hok d hd
 have hnw := D.nw
 subst hS
 obtain ⟨e1, e2⟩ := scanV_0 he
 rw [e1]
 obtain ⟨g1, g2⟩ := ha.scan hk hp hn (t := now') (by omega) (by omega) (by omega)
 dsimp only
 generalize hu : h.getD d hn0 = u at *
 have hlen := D.len
 obtain ⟨m1, m2, m3, m4⟩ := merge_one D.ok (by have := D.al; omega) g1 (fun x hx => by
  obtain ⟨q1, q2, q3, q4⟩ := D.dv x hx
  refine ⟨by dsimp only; omega, fun e => ?_⟩
  dsimp only at e ⊢
  rw [e, hb, show ((d : Int) + 1 - 1).toNat = d by omega, hu] at q4
  exact q4)
 refine ⟨m1, by rw [List.length_set]; exact hlen, fun j hj => ?_, ?_, ?_, ?_, m2, by rw [m4]; have := D.al; omega, fun o ho => ?_, by omega⟩
 · rw [getD_setH (by omega)]
   by_cases e : j = d
   · subst e
     rw [if_pos rfl]
     refine ⟨g2, hb, Int.le_refl _, by dsimp only; omega, ?_⟩
     dsimp only
     split
     · rw [List.length_append, List.length_singleton]; omega
     · omega
   · rw [if_neg e]
     obtain ⟨a, b, c, d, e⟩ := D.hok j hj
     exact ⟨a, b, by omega, by omega, by omega⟩
 · rw [getD_setH (by omega)]
   by_cases e : (0 : Nat) = d
   · rw [if_pos e]; subst e; rw [← hu]; exact D.off
   · rw [if_neg e]; exact D.off
 · rw [getD_setH (by omega)]
   by_cases e : (0 : Nat) = d
   · subst e
     rw [if_pos rfl, if_pos rfl]
     dsimp only
     have ho := D.off
     have h1 := D.lg0
     rw [hu] at ho h1
     rw [if_pos ho, h1]
   · rw [if_neg e, if_neg (fun q => e q.symm)]; exact D.lg0
 · by_cases e : d = 0
   · subst e
     rw [if_pos rfl]
     have ho := D.off
     have h1 := D.lg0
     rw [hu] at ho h1
     refine D.alt.snoc fun hk1 z hz => ?_
     rw [← h1] at hz
     exact loadV_last (e2 ho hk1) z hz
   · rw [if_neg e]; exact D.alt
 · rcases (m3 o).1 ho with hq | rfl
   · obtain ⟨q1, q2, q3, q4⟩ := D.dv o hq
     refine ⟨by omega, q2, q3, ?_⟩
     rw [getD_setH (by omega)]
     split
     · rename_i e
       rw [e, hu] at q4
       dsimp only; omega
     · exact q4
   · refine ⟨Int.le_refl _, by dsimp only; omega, by dsimp only; omega, ?_⟩
     dsimp only
     rw [hb, show ((d : Int) + 1 - 1).toNat = d by omega, getD_setH (by omega), if_pos rfl]
     dsimp only; omega
/-- The devices while they are made offline, one after the other. -/
structure DevL (i : Nat) (h : List Hnd) : Prop where
 len : h.length = 4
 at_ : ∀ j, j < 4 → HOk (h.getD j hn0) ∧ (h.getD j hn0).1 = (j : Int) + 1 ∧ (h.getD j hn0).2.1 = 1 ∧ (h.getD j hn0).2.2.1 = 0 ∧ (h.getD j hn0).2.2.2.2.2.2 = []
 onl : ∀ j, i ≤ j → j < 4 → (h.getD j hn0).2.2.2.1 = false
 fst : 0 < i → (h.getD 0 hn0).2.2.2.1 = true
theorem newsH_at {i : Nat} (h : i < 4) : (newsH 4).getD i hn0 = newH i := by
 rcases (by omega : i = 0 ∨ i = 1 ∨ i = 2 ∨ i = 3) with rfl | rfl | rfl | rfl <;> rfl
theorem DevL.new : DevL 0 (newsH 4) :=
 ⟨rfl, fun j hj => by rw [newsH_at hj]; exact ⟨newH_ok (by omega), rfl, rfl, rfl, rfl⟩, fun j _ hj => by rw [newsH_at hj]; rfl, fun h => absurd h (Nat.lt_irrefl _)⟩
theorem DevL.skip {i : Nat} {h : List Hnd} (D : DevL i h) (h0 : i ≠ 0) : DevL (i + 1) h :=
 ⟨D.len, D.at_, fun j h1 h2 => D.onl j (by omega) h2, fun _ => D.fst (by omega)⟩
theorem DevL.off {i : Nat} {h : List Hnd} (D : DevL i h) (hi : i < 4) {g : List Grt} {c : List Cnt} (hg : GOk g) (hc : CtsOk c) : DevL (i + 1) (h.set i (offH (h.getD i hn0) g c)) := by
 have hl := D.len
 refine ⟨by rw [List.length_set]; exact hl, fun j hj => ?_, fun j h1 h2 => ?_, fun _ => ?_⟩
 · rw [getD_setH (by omega)]
   by_cases e : j = i
   · subst e
     rw [if_pos rfl]
     obtain ⟨a, b, c', d, e⟩ := D.at_ j hj
     exact ⟨a.off hg hc, b, c', d, e⟩
   · rw [if_neg e]; exact D.at_ j hj
 · rw [getD_setH (by omega), if_neg (by omega)]; exact D.onl j (by omega) h2
 · rw [getD_setH (by omega)]
   by_cases e : 0 = i
   · subst e; rw [if_pos rfl]; rfl
   · rw [if_neg e]; exact D.fst (by omega)
theorem DevL.inv {h : List Hnd} (D : DevL 4 h) : DInv h 0 0 [] [] :=
 ⟨D.len, fun j hj => by
   obtain ⟨a, b, c, d, e⟩ := D.at_ j hj
   exact ⟨a, b, by omega, by omega, by rw [e]; exact Nat.le_refl _⟩, D.fst (by omega), (D.at_ 0 (by omega)).2.2.2.2, Alt.nil, ⟨fun o ho => (by cases ho), .nil⟩, Nat.le_refl _, fun o ho => (by cases ho), by omega⟩
def grS : Nat → Src → List Grt × Src
 | 0, s => ([], s)
 | i + 1, s => if goMod (Src.raw (grS i s).2) 2 = 0 then ((grS i s).1 ++ [((platesV i, 10 + (i : Int), 0), fltsV (goMod (Src.raw (Src.step (grS i s).2)) 3))], Src.step (Src.step (grS i s).2)) else ((grS i s).1, Src.step (grS i s).2)
theorem grS_pos {s : Src} (h : 0 ≤ s.2) : ∀ i, 0 ≤ (grS i s).2.2
 | 0 => h
 | i + 1 => by
   rw [grS]
   split
   · exact step_pos (step_pos (grS_pos h i))
   · exact step_pos (grS_pos h i)
theorem grS_len (s : Src) : ∀ i, (grS i s).1.length ≤ i
 | 0 => Nat.le_refl _
 | i + 1 => by
   have := grS_len s i
   rw [grS]
   split
   · rw [List.length_append, List.length_singleton]; omega
   · dsimp only; omega
theorem grS_in (s : Src) : ∀ i, i ≤ 60 → (∀ g ∈ (grS i s).1, okGr g = true ∧ ∃ j : Nat, j < i ∧ g.1.1 = platesV j) ∧ (grS i s).1.Pairwise (fun a b => pltC a.1.1 b.1.1 < 0)
 | 0, _ => ⟨fun g hg => (by cases hg), .nil⟩
 | i + 1, hi => by
   obtain ⟨h1, h2⟩ := grS_in s i (by omega)
   rw [grS]
   split
   · refine ⟨fun g hg => ?_, List.pairwise_append.2 ⟨h2, List.pairwise_singleton _ _, fun a ha b hb => ?_⟩⟩
     · rcases List.mem_append.1 hg with hg | hg
       · obtain ⟨a, j, hj, e⟩ := h1 g hg
         exact ⟨a, j, by omega, e⟩
       · rw [List.mem_singleton.1 hg]
         refine ⟨?_, i, by omega, rfl⟩
         unfold okGr okPc inV
         simp only [platesV_ok, fltsV_ok, Bool.and_eq_true, decide_eq_true_eq, Bool.true_and, and_true]
         omega
     · rw [List.mem_singleton.1 hb]
       obtain ⟨_, j, hj, e⟩ := h1 a ha
       rw [e]
       exact platesV_lt (by omega) (by omega) (by omega)
   · refine ⟨fun g hg => ?_, h2⟩
     obtain ⟨a, j, hj, e⟩ := h1 g hg
     exact ⟨a, j, by omega, e⟩
theorem grS_ok (s : Src) {i : Nat} (h : i ≤ 60) : GOk (grS i s).1 := by
 obtain ⟨h1, h2⟩ := grS_in s i h
 exact ⟨Nat.le_trans (grS_len s i) h, fun g hg => (h1 g hg).1, fun k h0 hk => (pw_getD (pc0, ct0.flt)).1 h2 (k - 1) k (by omega) hk⟩
def con9 : Con := { ps := [.p 63 ySR, .d false (.int .i64)], rs := [.o 48 yGR], pre := fun (x : Src × Int × Unit) => 0 ≤ x.1.2 ∧ 0 ≤ x.2.1 ∧ x.2.1 ≤ 60, out := fun (x : Src × Int × Unit) => ((grS x.2.1.toNat x.1).1, ()), nw := fun (x : Src × Int × Unit) => ((grS x.2.1.toNat x.1).2, x.2) }
theorem c9 : CtrOk Tryz.prog 9 con9.ctr :=
 con_sound (G := ⟨[(7, con7.ctr), (21, con21.ctr), (30, con30.ctr)], [], [], []⟩) tab_ok (EnvOk.cons c7 has7 (EnvOk.cons c21 has21 (EnvOk.cons c30 has30 EnvOk.nil))) rfl Tryz.func9 rfl con9 17011 (by kernel_rfl) (by decide) (by decide) rfl (by decide) rfl (by
  rintro ⟨⟨(s : List Int), (a : Int)⟩, (n : Int), _⟩ hpre hwf X hT hG hk hK
  (simp -implicitDefEqProofs only [go_sem, Bool.not_eq_true', Bool.not_eq_false', Bool.or_eq_true, Bool.or_eq_false_iff, Bool.and_eq_true, Bool.and_eq_false_iff, decide_eq_true_eq, decide_eq_false_iff_not, Classical.not_not, not_or, maxLen, con9, con7, con21, con30, hT, hG, hk, hK, Tryz.results9] at hwf ⊢); (try simp (disch := decide +kernel) only [drawn, true_and, and_true])
  obtain ⟨h1, h2, h3⟩ : 0 ≤ a ∧ 0 ≤ n ∧ n ≤ 60 := hpre
  clear hwf
  refine evk_loop ⟨{ i : Nat // (i : Int) ≤ n }, 1000, fun q => [(0, .one (.loc 0 0)), (1, .one (.int .i64 n)), (5, .one (.row 64)), (6, .one (.int .i64 q.1))], fun q => [(0, .cells 63 [.sl (.int .i64) (grS q.1 (s, a)).2.1 false, .int .i64 (grS q.1 (s, a)).2.2]), (64, .row 48 yGR (grS q.1 (s, a)).1)], fun q => n.toNat - q.1⟩ ⟨0, by omega⟩ ?_ ?_
  · simp only [go_sem]
    try (first | rfl | exact ⟨rfl, rfl⟩ | (and_intros <;> first | trivial | rfl | omega))
  · rintro ⟨i, (hi : (i : Int) ≤ n)⟩
    (simp -implicitDefEqProofs only [go_sem, Bool.not_eq_true', Bool.not_eq_false', Bool.or_eq_true, Bool.or_eq_false_iff, Bool.and_eq_true, Bool.and_eq_false_iff, decide_eq_true_eq, decide_eq_false_iff_not, Classical.not_not, not_or, maxLen, con9, con7, con21, con30, hT, hG, hk, hK, Tryz.results9]); (try simp (disch := decide +kernel) only [drawn, true_and, and_true])
    have p0 := grS_pos (s := (s, a)) h1 i
    have hl := grS_len (s, a) i
    have e : grS (i + 1) (s, a) = if goMod (Src.raw (grS i (s, a)).2) 2 = 0 then ((grS i (s, a)).1 ++ [((platesV i, 10 + (i : Int), 0), fltsV (goMod (Src.raw (Src.step (grS i (s, a)).2)) 3))], Src.step (Src.step (grS i (s, a)).2)) else ((grS i (s, a)).1, Src.step (grS i (s, a)).2) := rfl
    generalize hQ : grS i (s, a) = Q at p0 hl e ⊢
    obtain ⟨l, s1, a1⟩ := Q
    dsimp only at p0 hl e ⊢
    have p1 : 0 ≤ (Src.step (s1, a1)).2 := step_pos p0
    (repeat' (with_reducible (first | refine And.intro ?_ ?_ | intro _))) <;> (try (first | with_reducible (first | done | assumption | omega | contradiction) | decide))
    all_goals first
     | omega
     | (rw [if_pos (by assumption)] at e
        refine fin_lp ⟨i + 1, by omega⟩ ?_ (by dsimp only; omega)
        simp only [go_sem]
        rw [e]
        try (first | rfl | exact ⟨rfl, rfl⟩ | (and_intros <;> first | trivial | rfl | omega))
        done)
     | (rw [if_neg (by assumption)] at e
        refine fin_lp ⟨i + 1, by omega⟩ ?_ (by dsimp only; omega)
        simp only [go_sem]
        rw [e]
        try (first | rfl | exact ⟨rfl, rfl⟩ | (and_intros <;> first | trivial | rfl | omega))
        done)
     | (rw [show n.toNat = i by omega, hQ]; done)
     | (rw [show n.toNat = i by omega, hQ]; rfl)
     | fail)
end Go.Proofs.YthlomeneidophaaGreat

/- The contract of MergeDevices. -/
set_option linter.unusedSimpArgs false
set_option linter.unusedVariables false
set_option maxRecDepth 100000
set_option maxHeartbeats 8000000
namespace Go.Proofs.YthlomeneidophaaGreat
open Go.Ev

def con3 : Con := { ps := [.d false (.sl (.int .i64))], rs := [.d false .bool], pre := fun _ => True, out := fun x => (true, ()), nw := id }
theorem c3 : CtrOk Tryz.prog 3 con3.ctr :=
 con_sound (G := ⟨[(4, con4.ctr), (5, con5.ctr), (7, con7.ctr), (8, con8.ctr), (9, con9.ctr), (10, con10.ctr), (11, con11.ctr), (12, con12.ctr), (13, con13.ctr), (14, con14.ctr), (15, con15.ctr), (16, con16.ctr), (17, con17.ctr), (18, con18.ctr), (19, con19.ctr)], [(6, con6.rctr)], [(48, 4), (94, 4)], []⟩) tab_ok (EnvOk.cons c4 has4 (EnvOk.cons c5 has5 (EnvOk.cons c7 has7 (EnvOk.cons c8 has8 (EnvOk.cons c9 has9 (EnvOk.cons c10 has10 (EnvOk.cons c11 has11 (EnvOk.cons c12 has12 (EnvOk.cons c13 has13 (EnvOk.cons c14 has14 (EnvOk.cons c15 has15 (EnvOk.cons c16 has16 (EnvOk.cons c17 has17 (EnvOk.cons c18 has18 (EnvOk.cons c19 has19 (EnvOk.rcons c6 has6 EnvOk.nil)))))))))))))))) rfl Tryz.func3 rfl con3 200709429045711055009710584405469481901490173 (by kernel_rfl) (by decide) (by decide) rfl (by decide) rfl (by
  rintro ⟨(src : List Int), _⟩ hpre hwf X hT hG hk hK
  (simp -implicitDefEqProofs (maxSteps := 4000000) only [go_sem, Bool.not_eq_true', Bool.not_eq_false', Bool.or_eq_true, Bool.or_eq_false_iff, Bool.and_eq_true, Bool.and_eq_false_iff, decide_eq_true_eq, decide_eq_false_iff_not, Classical.not_not, not_or, maxLen, con3, con4, con5, con7, con8, con9, con10, con11, con12, con13, con14, con15, con16, con17, con18, con19, con6, hT, hG, hk, hK, Tryz.results3] at hwf ⊢); (try simp (disch := decide +kernel) only [drawn, true_and, and_true])
  clear hwf
  refine fun _ => ⟨⟨by decide, by decide⟩, fun _ _ => ⟨fun q => q (by decide), fun _ => ⟨⟨by decide, by decide, by decide⟩, ?_⟩⟩⟩
  rintro ⟨⟨(emp : List Cnt), _⟩, ⟨⟨(s1 : List Int), (a1 : Int)⟩, _⟩⟩ ⟨⟨h1, hemp⟩, -⟩
  have h1 : 0 ≤ a1 := h1
  have hemp : EmpR 6 emp := hemp
  have hcts : CtsOk emp := hemp.ok (by decide)
  clear hemp
  dsimp only
  refine fun _ => evk_loop ⟨{ q : Src × List Hnd × Nat // 0 ≤ q.1.2 ∧ q.2.2 ≤ 4 ∧ DevL q.2.2 q.2.1 }, 1000, fun q => [(3, .one (.loc 66 0)), (4, .one (.row 64)), (6, .one (.sl yCT emp false)), (7, .one (.sl yOP [] false)), (8, .one (.row 65)), (40, .one (.int .i64 4)), (41, .one (.int .i64 q.1.2.2))], fun q => [(66, .cells 63 [.sl (.int .i64) q.1.1.1 false, .int .i64 q.1.1.2]), (64, .row 35 yHH q.1.2.1), (65, .row 50 yOP [])], fun q => 4 - q.1.2.2⟩ ⟨((s1, a1), newsH 4, 0), h1, Nat.zero_le _, DevL.new⟩ ?_ ?_
  · simp only [go_sem]
    try (first | rfl | exact ⟨rfl, rfl⟩ | (and_intros <;> first | trivial | rfl | omega))
  · rintro ⟨⟨⟨(s : List Int), (a : Int)⟩, (h : List Hnd), (i : Nat)⟩, (h2 : 0 ≤ a), (hi : i ≤ 4), (hD : DevL i h)⟩
    (simp -implicitDefEqProofs (maxSteps := 4000000) only [go_sem, Bool.not_eq_true', Bool.not_eq_false', Bool.or_eq_true, Bool.or_eq_false_iff, Bool.and_eq_true, Bool.and_eq_false_iff, decide_eq_true_eq, decide_eq_false_iff_not, Classical.not_not, not_or, maxLen, con3, con4, con5, con7, con8, con9, con10, con11, con12, con13, con14, con15, con16, con17, con18, con19, con6, hT, hG, hk, hK, Tryz.results3]); (try simp (disch := decide +kernel) only [drawn, true_and, and_true])
    have hlen := hD.len
    obtain ⟨u, hu⟩ : ∃ u, h.getD (i : Int).toNat (0, 0, 0, false, [], [], []) = u := ⟨_, rfl⟩
    have hu2 : h.getD i hn0 = u := hu
    have hg0 : GOk (grS (Int.toNat 8) (s, a)).1 := grS_ok _ (by decide)
    have hg1 : GOk (grS (Int.toNat 8) (Src.step (s, a))).1 := grS_ok _ (by decide)
    have p1 : 0 ≤ (Src.step (s, a)).2 := step_pos h2
    have hp0 : 0 ≤ (grS (Int.toNat 8) (s, a)).2.2 := grS_pos h2 _
    have hp1 : 0 ≤ (grS (Int.toNat 8) (Src.step (s, a))).2.2 := grS_pos p1 _
    have hat : i < 4 → HOk u := fun h => by rw [← hu2]; exact (hD.at_ i h).1
    have hon : i < 4 → u.2.2.2.1 = false := fun h => by rw [← hu2]; exact hD.onl i (Nat.le_refl _) h
    have hnx : ∀ g, GOk g → i < 4 → DevL (i + 1) (h.set i (offH u g emp)) := fun g hg h4 => by rw [← hu2]; exact hD.off h4 hg hcts
    simp only [hu]
    refine ⟨fun hlt => ?_, fun hge => ?_⟩
    · generalize grS (Int.toNat 8) (s, a) = G0 at hg0 hp0 ⊢
      generalize grS (Int.toNat 8) (Src.step (s, a)) = G1 at hg1 hp1 ⊢
      obtain ⟨g0, ⟨b0, c0⟩⟩ := G0
      obtain ⟨g1, ⟨b1, c1⟩⟩ := G1
      have hg0 : GOk g0 := hg0
      have hg1 : GOk g1 := hg1
      have hp0 : 0 ≤ c0 := hp0
      have hp1 : 0 ≤ c1 := hp1
      have hO0 := hnx g0 hg0
      have hO1 := hnx g1 hg1
      have hat := hat (by omega)
      have hon := hon (by omega)
      generalize offH u g0 emp = O0 at hO0 ⊢
      generalize offH u g1 emp = O1 at hO1 ⊢
      clear hu hu2 hnx
      dsimp only
      (repeat' (with_reducible (first | refine And.intro ?_ ?_ | intro _))) <;> (try (first | with_reducible (first | done | assumption | omega | contradiction) | decide))
      all_goals first
       | omega
       | (refine fin_lp ⟨((b0, c0), h.set i O0, i + 1), hp0, (by show i + 1 ≤ 4; omega), hO0 (by omega)⟩ ?_ (by dsimp only; omega)
          simp only [go_sem]
          try (first | rfl | exact ⟨rfl, rfl⟩ | (and_intros <;> first | trivial | rfl | omega))
          done)
       | (refine fin_lp ⟨((b1, c1), h.set i O1, i + 1), hp1, (by show i + 1 ≤ 4; omega), hO1 (by omega)⟩ ?_ (by dsimp only; omega)
          simp only [go_sem]
          try (first | rfl | exact ⟨rfl, rfl⟩ | (and_intros <;> first | trivial | rfl | omega))
          done)
       | (refine fin_lp ⟨(Src.step (s, a), h, i + 1), p1, (by show i + 1 ≤ 4; omega), hD.skip (by omega)⟩ ?_ (by dsimp only; omega)
          simp only [go_sem]
          try (first | rfl | exact ⟨rfl, rfl⟩ | (and_intros <;> first | trivial | rfl | omega))
          done)
       | fail
    · have hi4 : i = 4 := by omega
      subst hi4
      have hI := hD.inv
      clear hg0 hg1 hp0 hp1 hat hon hnx hu hu2 hcts hD
      refine evk_loop ⟨{ q : Src × List Hnd × Int × Nat × List Opn × List Opn // 0 ≤ q.1.2 ∧ q.2.2.2.1 ≤ 40 ∧ DInv q.2.1 q.2.2.1 q.2.2.2.1 q.2.2.2.2.1 q.2.2.2.2.2 }, 1000, fun q => [(3, .one (.loc 66 0)), (4, .one (.row 64)), (7, .one (.sl yOP q.1.2.2.2.2.1 false)), (8, .one (.row 65)), (12, .one (.int .i64 q.1.2.2.1)), (13, .one (.int .i64 q.1.2.2.2.1))], fun q => [(66, .cells 63 [.sl (.int .i64) q.1.1.1 false, .int .i64 q.1.1.2]), (64, .row 35 yHH q.1.2.1), (65, .row 50 yOP q.1.2.2.2.2.2)], fun q => 40 - q.1.2.2.2.1⟩ ⟨((s, a), h, 0, 0, [], []), h2, Nat.zero_le _, hI⟩ ?_ ?_
      · simp only [go_sem]
        try (first | rfl | exact ⟨rfl, rfl⟩ | (and_intros <;> first | trivial | rfl | omega))
      · clear hI h2 hlen
        rintro ⟨⟨⟨(s : List Int), (a : Int)⟩, (h : List Hnd), (now : Int), (k : Nat), (all : List Opn), (one : List Opn)⟩, (h2 : 0 ≤ a), (hk1 : k ≤ 40), (hD : DInv h now k all one)⟩
        (simp -implicitDefEqProofs (maxSteps := 4000000) only [go_sem, Bool.not_eq_true', Bool.not_eq_false', Bool.or_eq_true, Bool.or_eq_false_iff, Bool.and_eq_true, Bool.and_eq_false_iff, decide_eq_true_eq, decide_eq_false_iff_not, Classical.not_not, not_or, maxLen, con3, con4, con5, con7, con8, con9, con10, con11, con12, con13, con14, con15, con16, con17, con18, con19, con6, hT, hG, hk, hK, Tryz.results3]); (try simp (disch := decide +kernel) only [drawn, true_and, and_true])
        have hlen := hD.len
        have hnw := hD.nw
        obtain ⟨hok0, -⟩ := hD.hok 0 (by omega)
        have hof := hD.off
        have hl0 := hD.lg0
        have hone : one.length ≤ k := by
         have h5 := (hD.hok 0 (by omega)).2.2.2.2
         rw [hl0] at h5; exact h5
        have hcf := hD.alt.conf
        have hvl : valV all = 0 := hD.ok.val (by have := hD.al; omega)
        have hsm : sameV one one = true := by unfold sameV; exact decide_eq_true rfl
        refine ⟨fun hlt => ?_, fun hge => ?_⟩
        · have hk40 : k < 40 := by omega
          clear hge hok0 hof hl0 hcf hvl hsm
          have p1 : 0 ≤ (Src.step (s, a)).2 := step_pos h2
          have r0 := goMod_bd (Src.raw (s, a)) 3 (by omega)
          generalize goMod (Src.raw (s, a)) 3 = r at r0 ⊢
          generalize Src.step (s, a) = S1 at p1 ⊢
          obtain ⟨d, hd⟩ : ∃ d : Nat, goMod S1.raw 4 = d := ⟨(goMod S1.raw 4).toNat, by have := goMod_bd S1.raw 4 (by omega); omega⟩
          have hd4 : d < 4 := by have := goMod_bd S1.raw 4 (by omega); omega
          simp only [hd, Int.toNat_natCast]
          obtain ⟨u, hu⟩ : ∃ u, h.getD d (0, 0, 0, false, [], [], []) = u := ⟨_, rfl⟩
          have hu2 : h.getD d hn0 = u := hu
          simp only [hu]
          obtain ⟨q1, q2, q3, q4, q5⟩ := hD.hok d hd4
          have hP0 : okPc (pieceV S1.step 8) = true := pieceV_ok _ _
          have F : ∀ (x y : Int) (P : Pce) (S : Hnd × Opn × Int), okPc P = true → scanV u (1 + goMod x 2) P (1 + goMod y 6) (now + r) = S → S.2.2 = 0 → (mergeV all [S.2.1]).2 = 0 ∧ DInv (h.set d S.1) (now + r) (k + 1) (mergeV all [S.2.1]).1 (if d = 0 then one ++ [S.2.1] else one) := fun x y P S hP hS he => by
           have k2 := goMod_bd x 2 (by omega)
           have k6 := goMod_bd y 6 (by omega)
           exact hD.scan (kd := 1 + goMod x 2) (n := 1 + goMod y 6) (p := P) (by omega) hk40 hd4 (by omega) hP (by omega) (by rw [hu2]; exact hS) he
          have k2 : ∀ x, 0 ≤ goMod x 2 ∧ goMod x 2 < 2 := fun x => goMod_bd x 2 (by omega)
          have k6 : ∀ x, 0 ≤ goMod x 6 ∧ goMod x 6 < 6 := fun x => goMod_bd x 6 (by omega)
          rw [hu2] at q1 q2 q3 q4 q5
          generalize pieceV S1.step 8 = P0 at hP0 ⊢
          have p2 := step_pos p1
          have p3 := step_pos p2
          have p4 := step_pos p3
          have p5 := step_pos p4
          generalize S1.step.step.step.step = S5 at p5 ⊢
          have p6 := step_pos p5
          have p7 := step_pos p6
          have p8 := step_pos p7
          have p9 := step_pos p8
          obtain ⟨n, x, t, off, gr, cs, lg⟩ := u
          have hgk : ∀ g ∈ gr, okGr g = true := q1.gok
          obtain ⟨⟨(w1 : Int), (w2 : Int), (w3 : Int)⟩, (w4 : Int), (w5 : Int)⟩ := P0
          obtain ⟨G, hGe⟩ : ∃ G, gr.getD (goMod S5.step.raw gr.length).toNat (((0, 0, 0), 0, 0), ByteArray.empty, 0, ByteArray.empty, 0) = G := ⟨_, rfl⟩
          have hGb : 0 < gr.length → 0 ≤ goMod S5.step.raw gr.length ∧ goMod S5.step.raw gr.length < gr.length := fun h => goMod_bd _ _ (by omega)
          have hGo : 0 < gr.length → okGr G = true := fun h => hgk G (by rw [← hGe]; exact getD_mem (by have := hGb h; omega))
          dsimp only at q1 q2 q3 q4 q5 ⊢
          simp only [hGe]
          obtain ⟨⟨⟨(g1 : Int), (g2 : Int), (g3 : Int)⟩, (g4 : Int), (g5 : Int)⟩, gf⟩ := G
          have hGp : 0 < gr.length → okPc ((g1, g2, g3), g4, g5) = true := fun h => by
           have := hGo h
           unfold okGr at this
           simp only [Bool.and_eq_true] at this
           exact this.1
          dsimp only
          have FA := fun h => F S5.step.step.raw S5.step.step.step.raw ((g1, g2, g3), g4, g5) _ h rfl
          have FB := F S5.step.raw S5.step.step.raw ((w1, w2, w3), w4, w5) _ hP0 rfl
          have FC := F S5.raw S5.step.raw ((w1, w2, w3), w4, w5) _ hP0 rfl
          have kA := k2 S5.step.step.raw
          have lA := k6 S5.step.step.step.raw
          have kB := k2 S5.step.raw
          have lB := k6 S5.step.step.raw
          have kC := k2 S5.raw
          have lC := k6 S5.step.raw
          generalize scanV (n, x, t, off, gr, cs, lg) (1 + goMod S5.step.step.raw 2) ((g1, g2, g3), g4, g5) (1 + goMod S5.step.step.step.raw 6) (now + r) = SA at FA ⊢
          generalize scanV (n, x, t, off, gr, cs, lg) (1 + goMod S5.step.raw 2) ((w1, w2, w3), w4, w5) (1 + goMod S5.step.step.raw 6) (now + r) = SB at FB ⊢
          generalize scanV (n, x, t, off, gr, cs, lg) (1 + goMod S5.raw 2) ((w1, w2, w3), w4, w5) (1 + goMod S5.step.raw 6) (now + r) = SC at FC ⊢
          clear F hu hu2 hgk hGe k2 k6
          (repeat' (with_reducible (first | refine And.intro ?_ ?_ | intro _))) <;> (try (first | with_reducible (first | done | assumption | omega | contradiction) | decide))
          all_goals first
           | omega
           | exact hGp (by omega)
           | (refine fin_lp ⟨(S5.step.step.step.step, h, now + r, k + 1, all, one), p9, (by show k + 1 ≤ 40; omega), hD.next (now' := now + r) (by omega) (by omega)⟩ ?_ (by dsimp only; omega)
              simp only [go_sem]
              try (first | rfl | exact ⟨rfl, rfl⟩ | (and_intros <;> first | trivial | rfl | omega))
              done)
           | (refine fin_lp ⟨(S5.step.step.step, h, now + r, k + 1, all, one), p8, (by show k + 1 ≤ 40; omega), hD.next (now' := now + r) (by omega) (by omega)⟩ ?_ (by dsimp only; omega)
              simp only [go_sem]
              try (first | rfl | exact ⟨rfl, rfl⟩ | (and_intros <;> first | trivial | rfl | omega))
              done)
           | (refine fin_lp ⟨(S5.step.step, h, now + r, k + 1, all, one), p7, (by show k + 1 ≤ 40; omega), hD.next (now' := now + r) (by omega) (by omega)⟩ ?_ (by dsimp only; omega)
              simp only [go_sem]
              try (first | rfl | exact ⟨rfl, rfl⟩ | (and_intros <;> first | trivial | rfl | omega))
              done)
           | (have hF := FA (hGp (by omega)) (by assumption)
              rw [if_pos (by omega)] at hF
              refine fin_lp ⟨(S5.step.step.step.step, h.set d SA.1, now + r, k + 1, (mergeV all [SA.2.1]).1, one ++ [SA.2.1]), p9, (by show k + 1 ≤ 40; omega), hF.2⟩ ?_ (by dsimp only; omega)
              simp only [go_sem]
              try (first | rfl | exact ⟨rfl, rfl⟩ | (and_intros <;> first | trivial | rfl | omega))
              done)
           | (have hF := FA (hGp (by omega)) (by assumption)
              rw [if_neg (by omega)] at hF
              refine fin_lp ⟨(S5.step.step.step.step, h.set d SA.1, now + r, k + 1, (mergeV all [SA.2.1]).1, one), p9, (by show k + 1 ≤ 40; omega), hF.2⟩ ?_ (by dsimp only; omega)
              simp only [go_sem]
              try (first | rfl | exact ⟨rfl, rfl⟩ | (and_intros <;> first | trivial | rfl | omega))
              done)
           | (have hF := FB (by assumption)
              rw [if_pos (by omega)] at hF
              refine fin_lp ⟨(S5.step.step.step, h.set d SB.1, now + r, k + 1, (mergeV all [SB.2.1]).1, one ++ [SB.2.1]), p8, (by show k + 1 ≤ 40; omega), hF.2⟩ ?_ (by dsimp only; omega)
              simp only [go_sem]
              try (first | rfl | exact ⟨rfl, rfl⟩ | (and_intros <;> first | trivial | rfl | omega))
              done)
           | (have hF := FB (by assumption)
              rw [if_neg (by omega)] at hF
              refine fin_lp ⟨(S5.step.step.step, h.set d SB.1, now + r, k + 1, (mergeV all [SB.2.1]).1, one), p8, (by show k + 1 ≤ 40; omega), hF.2⟩ ?_ (by dsimp only; omega)
              simp only [go_sem]
              try (first | rfl | exact ⟨rfl, rfl⟩ | (and_intros <;> first | trivial | rfl | omega))
              done)
           | (have hF := FC (by assumption)
              rw [if_pos (by omega)] at hF
              refine fin_lp ⟨(S5.step.step, h.set d SC.1, now + r, k + 1, (mergeV all [SC.2.1]).1, one ++ [SC.2.1]), p7, (by show k + 1 ≤ 40; omega), hF.2⟩ ?_ (by dsimp only; omega)
              simp only [go_sem]
              try (first | rfl | exact ⟨rfl, rfl⟩ | (and_intros <;> first | trivial | rfl | omega))
              done)
           | (have hF := FC (by assumption)
              rw [if_neg (by omega)] at hF
              refine fin_lp ⟨(S5.step.step, h.set d SC.1, now + r, k + 1, (mergeV all [SC.2.1]).1, one), p7, (by show k + 1 ≤ 40; omega), hF.2⟩ ?_ (by dsimp only; omega)
              simp only [go_sem]
              try (first | rfl | exact ⟨rfl, rfl⟩ | (and_intros <;> first | trivial | rfl | omega))
              done)
           | exact absurd (FA (hGp (by omega)) (by assumption)).1 (by assumption)
           | exact absurd (FB (by assumption)).1 (by assumption)
           | exact absurd (FC (by assumption)).1 (by assumption)
           | fail
        · obtain ⟨u, hu⟩ : ∃ u, h.getD 0 (0, 0, 0, false, [], [], []) = u := ⟨_, rfl⟩
          have hu2 : h.getD 0 hn0 = u := hu
          rw [hu2] at hok0 hof hl0
          simp only [hu]
          clear hu hu2 hD
          obtain ⟨n, x, t, off, gr, cs, lg⟩ := u
          dsimp only at hok0 hof hl0 ⊢
          subst hl0
          subst hof
          simp only [hsm, hcf, hvl]
          (repeat' (with_reducible (first | refine And.intro ?_ ?_ | intro _))) <;> (try (first | with_reducible (first | done | assumption | omega | contradiction) | decide))
          all_goals first
           | omega
           | rfl
           | fail)
end Go.Proofs.YthlomeneidophaaGreat

/- The rows: what the arguments read as; a law's contract gives its row. -/
set_option linter.unusedSimpArgs false
set_option linter.unusedVariables false
namespace Go.Ev
open Go.RowKit Go.WideShapes Go.ChangeShapes

/-- A type of the program is a type of plain data. -/
def tyB (P : Program) : Nat → TypeId → Ty → Bool
 | 0, _, _ => false
 | d + 1, t, u => decide (P.cellsOf t = u.n) && decide (0 < u.n) && (match P.underlying t with
   | some (.struct fs) => tyFs (tyB P d) fs.toList 0 u
   | some (.int k) => (match u with | .int k' => decide (k = k') | _ => false)
   | some .bool => (match u with | .bool => true | _ => false)
   | some .string => (match u with | .str => true | _ => false)
   | some (.slice e) => (match u with | .sl v => tyB P d e v | _ => false)
   | _ => false)
where tyFs (f : TypeId → Ty → Bool) : List Field → Nat → Ty → Bool
 | [], _, _ => false
 | [x], off, u => decide (x.offset = off) && f x.type u
 | x :: y :: xs, off, .pair a b => decide (x.offset = off) && f x.type a && tyFs f (y :: xs) (off + a.n) b
 | _, _, _ => false

/-- The size of data. -/
def sz : (t : Ty) → t.den → Nat
 | .int _, _ => 1
 | .bool, _ => 1
 | .str, s => s.size + 1
 | .unit, _ => 0
 | .sl t, xs => (xs.map (sz t)).sum + 1
 | .pair a b, p => sz a p.1 + sz b p.2

structure Bulk {H : Type} (B : DataW H → Nat) (BA : List (DataW H) → Nat) : Prop where
 lit : ∀ l, 1 ≤ B (.lit l)
 str : ∀ b, b.length + 1 ≤ B (.lit (.string b))
 nil : 1 ≤ B .nil
 sl : ∀ a b, BA a + 1 ≤ B (.slice a b)
 agg : ∀ a, BA a ≤ B (.agg a)
 cons : ∀ d r, BA (d :: r) = B d + BA r

section
variable {H : Type} {enc : TypeId × Value → H} {P : Program} {w : World} {B : DataW H → Nat} {BA : List (DataW H) → Nat}

theorem mapM_at {α β : Type} {f : α → Option β} : ∀ {l : List α} {r : List β}, l.mapM f = some r → r.length = l.length ∧ ∀ (i : Nat) (x : α) (y : β), l[i]? = some x → r[i]? = some y → f x = some y
 | [], r, h => by simp at h; subst h; exact ⟨rfl, fun i x y h => by simp at h⟩
 | a :: l, r, h => by
   rw [List.mapM_cons] at h
   cases hf : f a with
   | none => rw [hf] at h; cases h
   | some b =>
     rw [hf] at h
     cases hl : l.mapM f with
     | none => simp only [hl] at h; cases h
     | some bs =>
       simp only [hl] at h
       cases h
       obtain ⟨h1, h2⟩ := mapM_at hl
       refine ⟨by simp [h1], fun i x y hx hy => ?_⟩
       cases i with
       | zero => simp at hx hy; subst hx; subst hy; exact hf
       | succ i => simp at hx hy; exact h2 i x y hx hy

theorem cells?_spec {a : Addr} {n : Nat} {cs : List Value} (h : w.cells? 0 a n = some cs) : cs.length = n ∧ ∀ j u, cs[j]? = some u → w.cell? (a.add j) = some u := by
 unfold World.cells? at h
 rw [if_pos (Nat.zero_le _)] at h
 obtain ⟨h1, h2⟩ := mapM_at h
 refine ⟨by simpa using h1, fun j u hu => ?_⟩
 have hj : j < cs.length := (List.getElem?_eq_some_iff.1 hu).1
 have hjn : j < n := by simp at h1; omega
 exact h2 j j u (by simp [hjn]) hu

theorem sum_le {B : DataW H → Nat} {BA : List (DataW H) → Nat} (hB : Bulk B BA) {t : Ty} : ∀ (ys : List t.den) (ds : List (DataW H)), ys.length = ds.length → (∀ (i : Nat) (y : t.den) (d : DataW H), ys[i]? = some y → ds[i]? = some d → sz t y ≤ B d) → (ys.map (sz t)).sum ≤ BA ds
 | [], ds, _, _ => by simp
 | y :: ys, [], h, _ => by simp at h
 | y :: ys, d :: ds, h, hs => by
   have h0 := hs 0 y d rfl rfl
   have := sum_le hB ys ds (by simpa using h) (fun i y d hy hd => hs (i + 1) y d (by simpa using hy) (by simpa using hd))
   simp only [List.map_cons, List.sum_cons, hB.cons]
   omega

theorem roAll_mk {α : Type} {r : α → List Value → Prop} : ∀ (ys : List α) (cs : List (List Value)), ys.length = cs.length → (∀ (i : Nat) (y : α) (c : List Value), ys[i]? = some y → cs[i]? = some c → r y c) → roAll r ys cs.flatten
 | [], [], _, _ => rfl
 | [], _ :: _, h, _ => by simp at h
 | _ :: _, [], h, _ => by simp at h
 | y :: ys, c :: cs, h, hr => ⟨c, cs.flatten, by simp, hr 0 y c rfl rfl, roAll_mk ys cs (by simpa using h) (fun i z d hz hd => hr (i + 1) z d (by simpa using hz) (by simpa using hd))⟩

theorem pickQ {α : Type} {Q : Nat → α → Prop} : ∀ (n : Nat), (∀ i, i < n → ∃ y, Q i y) → ∃ ys : List α, ys.length = n ∧ ∀ (i : Nat) (y : α), ys[i]? = some y → Q i y
 | 0, _ => ⟨[], rfl, fun i y h => by simp at h⟩
 | n + 1, h => by
   obtain ⟨ys, h1, h2⟩ := pickQ n (fun i hi => h i (by omega))
   obtain ⟨y, hy⟩ := h n (by omega)
   refine ⟨ys ++ [y], by simp [h1], fun i z hz => ?_⟩
   by_cases e : i < n
   · rw [List.getElem?_append_left (by omega)] at hz; exact h2 i z hz
   · have hlt := (List.getElem?_eq_some_iff.1 hz).1
     have : i = n := by simp at hlt; omega
     subst this
     rw [List.getElem?_append_right (by omega), h1] at hz
     simp at hz; subst hz; exact hy

theorem pick_rows {α : Type} (f : Nat → Option α) : ∀ (n : Nat), (∀ i, i < n → ∃ y, f i = some y) → ∃ ys : List α, ys.length = n ∧ ∀ i, i < n → f i = ys[i]?
 | 0, _ => ⟨[], rfl, fun i hi => by omega⟩
 | n + 1, h => by
   obtain ⟨ys, h1, h2⟩ := pick_rows f n (fun i hi => h i (by omega))
   obtain ⟨y, hy⟩ := h n (by omega)
   refine ⟨ys ++ [y], by simp [h1], fun i hi => ?_⟩
   by_cases e : i = n
   · subst e; rw [hy, List.getElem?_append_right (by omega), h1]; simp
   · rw [h2 i (by omega), List.getElem?_append_left (by omega)]

theorem flatten_at {n : Nat} : ∀ (cs : List (List Value)), (∀ c ∈ cs, c.length = n) → ∀ (j : Nat) (u : Value), cs.flatten[j]? = some u → ∃ i q c, cs[i]? = some c ∧ c[q]? = some u ∧ j = i * n + q
 | [], _, j, u, h => by simp at h
 | c :: cs, hl, j, u, h => by
   rw [List.flatten_cons] at h
   by_cases hj : j < c.length
   · rw [List.getElem?_append_left hj] at h
     exact ⟨0, j, c, rfl, h, by omega⟩
   · rw [List.getElem?_append_right (by omega)] at h
     obtain ⟨i, q, d, h1, h2, h3⟩ := flatten_at cs (fun d hd => hl d (by simp [hd])) _ u h
     have := hl c (by simp)
     exact ⟨i + 1, q, d, by simpa using h1, h2, by rw [Nat.add_mul]; omega⟩

theorem add_add (a : Addr) (i j : Nat) (h : a.spot = none) : (a.add i).add j = a.add (i + j) := by
 obtain ⟨b, o, s⟩ := a
 simp only at h
 subst h
 simp [add_none, Nat.add_assoc]

/-- DATA THAT CAN BE READ. -/
theorem trod_ro (hB : Bulk B BA) : ∀ (fuel d : Nat) (t : TypeId) (u : Ty) (cs : List Value) (x : DataW H × List MemPlace), tyB P d t u = true → DataW.trod enc P w 0 (fun _ => true) true fuel t cs = some x → ∃ y : u.den, ro w (fun _ => False) u y cs ∧ sz u y ≤ B x.1
 | 0, d, t, u, cs, x, _, h => by simp [DataW.trod] at h
 | fuel + 1, 0, t, u, cs, x, ht, h => by cases ht
 | fuel + 1, d + 1, t, u, cs, x, ht, h => by
   simp only [tyB, Bool.and_eq_true, decide_eq_true_eq] at ht
   obtain ⟨⟨hn, hpos⟩, ht⟩ := ht
   cases hu : P.underlying t with
   | none => rw [hu] at ht; cases ht
   | some de =>
     rw [hu] at ht
     cases de <;> simp only at ht <;> try (cases ht; done)
     case bool =>
      cases u <;> simp only at ht <;> try (cases ht; done)
      obtain ⟨b, rfl, rfl⟩ := DataW.trod_bool hu h
      exact ⟨b, rfl, hB.lit _⟩
     case string =>
      cases u <;> simp only at ht <;> try (cases ht; done)
      obtain ⟨s, rfl, rfl, hs⟩ := DataW.trod_string hu h
      exact ⟨s, ⟨rfl, hs⟩, by have := hB.str s.data.toList; simpa [sz] using this⟩
     case int k =>
      cases u <;> simp only at ht <;> try (cases ht; done)
      simp only [decide_eq_true_eq] at ht
      subst ht
      obtain ⟨n, rfl, rfl, hs⟩ := DataW.trod_int hu h
      refine ⟨n, ⟨rfl, ?_⟩, hB.lit _⟩
      simpa [Lit.wf, InR] using hs
     case slice e =>
      cases u <;> simp only at ht <;> try (cases ht; done)
      rename_i v
      have hcell : P.cellsOf e = v.n ∧ 0 < v.n := by
       cases d with
       | zero => cases ht
       | succ d => simp only [tyB, Bool.and_eq_true, decide_eq_true_eq] at ht; exact ht.1
      rcases DataW.trod_slice hu h with ⟨rfl, rfl⟩ | ⟨a, len, cap, elems, rest, n, e1, rfl, rfl, _, hlc, hcm, hel, helem, hsp, _⟩
      · exact ⟨[], ⟨none, 0, 0, rfl, rfl, Nat.le_refl _, by simp [maxLen], .inl rfl⟩, by simpa [sz] using hB.nil⟩
      · cases e1
        obtain ⟨hrl, hrest⟩ := hsp rfl
        have hspot : 0 < cap → a.spot = none := by
         intro hc
         have key : ∀ i y, (w.cells? 0 (a.add (i * P.cellsOf e)) (P.cellsOf e)).bind (DataW.trod enc P w 0 (fun _ => true) true fuel e) = some y → i = 0 → a.spot = none := by
          rintro i y hy rfl
          rw [Nat.zero_mul] at hy
          cases hcs : w.cells? 0 (a.add 0) (P.cellsOf e) with
          | none => rw [hcs] at hy; cases hy
          | some c0 =>
            obtain ⟨g1, g2⟩ := cells?_spec hcs
            have hp : 0 < c0.length := by omega
            have g3 := g2 0 c0[0] (by simp [hp])
            simp only [Addr.add, if_true] at g3
            unfold World.cell? at g3
            split at g3
            · split at g3
              · cases g3
              · rename_i hs; simpa using hs
            · cases g3
         by_cases hl : 0 < len
         · have := helem 0 hl
           rw [List.getElem?_eq_getElem (by omega)] at this
           exact key 0 _ this rfl
         · have := hrest 0 (by omega)
           rw [List.getElem?_eq_getElem (by omega)] at this
           exact key _ _ this (by omega)
        -- the elements
        have hex : ∀ i, i < len → ∃ c, w.cells? 0 (a.add (i * P.cellsOf e)) (P.cellsOf e) = some c := fun i hi => by
         have := helem i hi
         rw [List.getElem?_eq_getElem (by omega)] at this
         cases hc : w.cells? 0 (a.add (i * P.cellsOf e)) (P.cellsOf e) with
         | none => rw [hc] at this; cases this
         | some c => exact ⟨c, rfl⟩
        obtain ⟨css, hcl, hcs⟩ := pick_rows _ len hex
        have hrow : ∀ (i : Nat) (c : List Value), css[i]? = some c → ∃ y : v.den, ro w (fun _ => False) v y c ∧ ∃ q, elems[i]? = some q ∧ sz v y ≤ B q.1 := by
         intro i c hc
         have hi : i < len := by have := (List.getElem?_eq_some_iff.1 hc).1; omega
         have h1 := helem i hi
         rw [hcs i hi, hc] at h1
         simp only [Option.bind_some] at h1
         rw [List.getElem?_eq_getElem (by omega)] at h1
         obtain ⟨y, g1, g2⟩ := trod_ro hB fuel d e v c _ ht h1
         exact ⟨y, g1, _, List.getElem?_eq_getElem (by omega), g2⟩
        obtain ⟨ys, hyl, hyat⟩ := pickQ (Q := fun i (y : v.den) => ∀ c, css[i]? = some c → ro w (fun _ => False) v y c ∧ ∃ q, elems[i]? = some q ∧ sz v y ≤ B q.1) len (fun i hi => by
         obtain ⟨y, g⟩ := hrow i css[i] (List.getElem?_eq_getElem (by omega))
         exact ⟨y, fun c hc => by
          have : css[i] = c := by rw [List.getElem?_eq_getElem (by omega)] at hc; exact Option.some.inj hc
          rw [← this]; exact g⟩)
        have hro : roAll (ro w (fun _ => False) v) ys css.flatten := roAll_mk ys css (by omega) (fun i y c hy hc => (hyat i y hy c hc).1)
        refine ⟨ys, ⟨some a, len, cap, rfl, hyl.symm, hlc, hcm, ?_⟩, ?_⟩
        · by_cases hc0 : cap = 0
          · exact .inl hc0
          · have hs := hspot (by omega)
            refine .inr ⟨a.block, a.off, css.flatten, by obtain ⟨b, o, s⟩ := a; simp only at hs; subst hs; rfl, hro, fun j q hq => ⟨fun h => h, ?_⟩⟩
            obtain ⟨i, r, c, g1, g2, g3⟩ := flatten_at (n := v.n) css (fun c hc => by
             obtain ⟨i, hi, rfl⟩ := List.mem_iff_getElem.1 hc
             have := hcs i (by omega)
             rw [List.getElem?_eq_getElem hi] at this
             rw [(cells?_spec this).1]; exact hcell.1) j q hq
            have hi : i < len := by have := (List.getElem?_eq_some_iff.1 g1).1; omega
            have := hcs i hi
            rw [g1] at this
            have := (cells?_spec this).2 r q g2
            rw [add_add _ _ _ hs] at this
            obtain ⟨b, o, s⟩ := a
            simp only at hs; subst hs
            rw [add_none] at this
            rw [g3, ← hcell.1]
            exact this
        · have := sum_le hB ys (elems.map (·.1)) (by simp; omega) (fun i y q hy hq => by
           have hi : i < len := by have := (List.getElem?_eq_some_iff.1 hy).1; omega
           obtain ⟨_, z, g1, g2⟩ := hyat i y hy css[i] (List.getElem?_eq_getElem (by omega))
           rw [List.getElem?_map, g1] at hq
           simp at hq; subst hq; exact g2)
          have h2 := hB.sl (elems.map (·.1)) (rest.map (·.1))
          simp only [sz]
          omega
     case struct fs =>
      obtain ⟨xs, n, e1, rfl, hcl, hxl, hf⟩ := DataW.trod_struct hu h
      cases e1
      -- field by field
      have key : ∀ (fl : List Field) (off : Nat) (u : Ty) (i : Nat), tyB.tyFs (tyB P d) fl off u = true → (∀ (j : Nat) (f : Field), fl[j]? = some f → fs[i + j]? = some f) → i + fl.length = fs.size → off + u.n ≤ cs.length →
       ∃ y : u.den, ro w (fun _ => False) u y ((cs.drop off).take u.n) ∧ sz u y ≤ BA ((xs.drop i).map (·.1)) := by
       intro fl
       induction fl with
       | nil => intro off u i h _ _ _; cases h
       | cons f fl ih =>
         intro off u i hfl hat hlen hoff
         have h0 := hat 0 f rfl
         have hf0 := hf i f (by simpa using h0)
         have hi : i < xs.length := by simp at hlen; omega
         have hdrop : xs.drop i = xs[i] :: xs.drop (i + 1) := List.drop_eq_getElem_cons hi
         have hlast : ∀ u, f.offset = off → tyB P d f.type u = true → ∃ y : u.den, ro w (fun _ => False) u y ((cs.drop off).take u.n) ∧ sz u y ≤ B xs[i].1 := by
          intro u e1 e2
          rw [List.getElem?_eq_getElem hi, e1] at hf0
          have hc : P.cellsOf f.type = u.n := by
           cases d with
           | zero => cases e2
           | succ d => simp only [tyB, Bool.and_eq_true, decide_eq_true_eq] at e2; exact e2.1.1
          rw [hc] at hf0
          exact trod_ro hB fuel d f.type u _ _ e2 hf0
         match fl, hfl with
         | [], hfl =>
           simp only [tyB.tyFs, Bool.and_eq_true, decide_eq_true_eq] at hfl
           obtain ⟨y, g1, g2⟩ := hlast u hfl.1 hfl.2
           refine ⟨y, g1, ?_⟩
           rw [hdrop, List.map_cons, hB.cons]; omega
         | f2 :: fl, hfl =>
           cases u <;> simp only [tyB.tyFs] at hfl <;> try (cases hfl; done)
           rename_i a b _
           simp only [Bool.and_eq_true, decide_eq_true_eq] at hfl
           obtain ⟨y, g1, g2⟩ := hlast a hfl.1.1 hfl.1.2
           simp only [Ty.n] at hoff
           obtain ⟨z, k1, k2⟩ := ih (off + a.n) b (i + 1) hfl.2 (fun j g hg => by have := hat (j + 1) g (by simpa using hg); rwa [show i + (j + 1) = i + 1 + j by omega] at this) (by simp at hlen ⊢; omega) (by omega)
           refine ⟨(y, z), ⟨_, _, ?_, g1, k1⟩, ?_⟩
           · simp only [Ty.n]
             rw [← List.drop_drop, ← List.take_add]
           · rw [hdrop, List.map_cons, hB.cons]
             simp only [sz]; omega
      obtain ⟨y, g1, g2⟩ := key fs.toList 0 u 0 ht (fun j f hj => by simpa using hj) (by simp) (by omega)
      refine ⟨y, ?_, ?_⟩
      · rw [List.drop_zero, List.take_of_length_le (by omega)] at g1; exact g1
      · rw [List.drop_zero] at g2
        exact Nat.le_trans g2 (hB.agg _)

end
end Go.Ev
