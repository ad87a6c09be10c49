/- A part. -/
import Derived.Test.YtpglcghgklmedaaGreatOdKXToKZ
import Derived.Test.YtpglcghgklmedaaGreatOdKfToKF
import Derived.WalkKit
import Derived.Test.YtpglcghgklmedaaGreatEvBox
import Derived.Test.YtpglcghgklmedaaGreatOdKOToKD
set_option maxRecDepth 100000
set_option maxHeartbeats 4000000
namespace Go.Proofs.YtpglcghgklmedaaGreat
open Go.Ev Go.RowKit
theorem copied_walk (v : Value) (n : Nat) (w : World) (hbig : n ≤ 9223372036854775807) (I : Nat → World → Option Addr → Nat → Prop)
 (hcl : Calls Tryz.prog 49 #[v] w fun e w1 => ∃ a cap, e = .returned (.slice a n cap) ∧ I 0 w1 a cap)
 (hr : ∀ k wr a cap, k < n → I k wr a cap → ∃ g off pv, a = some ⟨g, off, none⟩ ∧ wr.cell? ⟨g, off + k * 11 + 10, none⟩ = some pv ∧ Calls Tryz.prog 50 #[pv] wr fun e w2 => ∃ a2 n2 c2 old, e = .returned (.slice a2 n2 c2) ∧ w2.cell? ⟨g, off + k * 11 + 10, none⟩ = some old ∧ w2.frozen? ⟨g, off + k * 11 + 10, none⟩ = false ∧ I (k + 1) (w2.setCell ⟨g, off + k * 11 + 10, none⟩ (.slice a2 n2 c2)) a cap) :
 Calls Tryz.prog 40 #[v] w fun e w' => ∃ a cap, e = .returned (.slice a n cap) ∧ I n w' a cap := by
 go_enter Tryz.func40, Tryz.ntmps40
 go_wp2_with (go_at_call 49; refine hcl.mono ?_; rintro e w1 ⟨a, cap, rfl, hI0⟩)
 go_loopw [9] (fun i wr => ∃ k : Nat, k ≤ n ∧ i = .int .i64 k ∧ I k wr a cap) (fun i _ => n - (intOf i).toNat)
 case atStart => exact ⟨0, Nat.zero_le _, rfl, hI0⟩
 case round =>
  obtain ⟨k, hk, rfl, hI⟩ := hrel
  by_cases hlt : k < n
  · obtain ⟨g, off, pv, rfl, hcell, hcall⟩ := hr k wr a cap hlt hI
    go_wp2_with (go_at_call 50; refine hcall.mono ?_; rintro e w2 ⟨a2, n2, c2, old, rfl, hst, hfz, hI3⟩)
    go_roundw
    case rel => exact ⟨k + 1, by omega, by go_num, hI3⟩
    case measure => simp only [intOf]; omega
  · obtain rfl : k = n := by omega
    go_wp2
    go_ret
    exact ⟨a, cap, rfl, hI⟩
theorem ct_cells {w : World} {O : Nat → Prop} {x : Cnt} {c : List Value} (h : ro w O yCT x c) : c.length = 11 ∧ (∀ u ∈ c, u.oneCell' = true) ∧ (∃ pv, c[10]? = some pv ∧ ro w O (.sl yPC) x.pcs [pv]) ∧ (∀ wX OX, ro wX OX yCT (setPcs x []) (c.set 10 (.slice none 0 0))) := by
 refine ⟨ro_len _ _ _ h, ro_one _ _ _ h, ?_⟩
 obtain ⟨c1, d1, rfl, h1, c2, d2, rfl, h2, c3, d3, rfl, h3, c4, d4, rfl, h4, c5, d5, rfl, h5, c6, d6, rfl, h6, c7, d7, rfl, h7, h8⟩ := h
 obtain ⟨e1, f1, rfl, g1, e2, f2, rfl, g2, e3, f3, rfl, g3, g4⟩ := h2
 obtain ⟨rfl, r1⟩ := h1
 obtain ⟨rfl, r3⟩ := h3
 obtain ⟨rfl, r4⟩ := h4
 obtain ⟨rfl, r5⟩ := h5
 obtain ⟨rfl, r6⟩ := h6
 obtain ⟨rfl, r7⟩ := h7
 obtain ⟨rfl, s1⟩ := g1
 obtain ⟨rfl, s2⟩ := g2
 obtain ⟨rfl, s3⟩ := g3
 obtain ⟨rfl, s4⟩ := g4
 have h9 := h8
 obtain ⟨a, n, cap, rfl, hh⟩ := h8
 refine ⟨⟨_, rfl, h9⟩, fun wX OX => ?_⟩
 exact ⟨_, _, rfl, ⟨rfl, r1⟩, _, _, rfl, ⟨_, _, rfl, ⟨rfl, s1⟩, _, _, rfl, ⟨rfl, s2⟩, _, _, rfl, ⟨rfl, s3⟩, ⟨rfl, s4⟩⟩, _, _, rfl, ⟨rfl, r3⟩, _, _, rfl, ⟨rfl, r4⟩, _, _, rfl, ⟨rfl, r5⟩, _, _, rfl, ⟨rfl, r6⟩, _, _, rfl, ⟨rfl, r7⟩, none, 0, 0, rfl, rfl, Nat.le_refl _, by simp [maxLen], .inl rfl⟩
theorem roAll_mix {w : World} {O : Nat → Prop} {y : Rx} : ∀ (l : List Cnt) (vs f0 f1 : List Value), vs.length = l.length → roAll (ro w O yCT) l f0 → f1.length = l.length * 11 → (∀ i, i < l.length * 11 → f1[i]? = if i % 11 = 10 then vs[i / 11]? else f0[i]?) → (∀ v ∈ vs, v.oneCell' = true) →
 roAll (elG y yCT 10) ((l.map (fun o => setPcs o [])).zip (vs.map some)) f1
 | [], [], f0, f1, _, _, hl, _, _ => List.eq_nil_of_length_eq_zero (by simpa using hl)
 | o :: l, v :: vs, _, f1, h1, ⟨c, d, rfl, hc, hd⟩, hl, hi, hv => by
   obtain ⟨q1, q2, q3, q4⟩ := ct_cells hc
   rw [List.length_cons] at hl hi
   have e1 : f1.take 11 = c.set 10 v := by
    apply List.ext_getElem?
    intro i
    by_cases hi11 : i < 11
    · rw [List.getElem?_take_of_lt hi11, hi i (by omega), List.getElem?_set]
      by_cases e : i = 10
      · subst e; rw [if_pos (by decide), if_pos rfl, if_pos (by omega)]; rfl
      · rw [if_neg (by omega), if_neg (by omega), List.getElem?_append_left (by omega)]
    · rw [List.getElem?_eq_none (by rw [List.length_take]; omega), List.getElem?_eq_none (by rw [List.length_set]; omega)]
   refine ⟨c.set 10 v, f1.drop 11, by rw [← e1, List.take_append_drop], ⟨by rw [List.length_set]; omega, fun u hu => ?_, fun u hu => ?_, ?_⟩, roAll_mix l vs d (f1.drop 11) (by simpa using h1) hd (by rw [List.length_drop]; omega) (fun i hil => ?_) (fun u hu => hv u (List.mem_cons_of_mem _ hu))⟩
   · cases hu
     rw [List.getElem?_set, if_pos rfl, if_pos (by omega)]
   · rcases List.mem_or_eq_of_mem_set hu with h | h
     · exact q2 u h
     · rw [h]; exact hv v List.mem_cons_self
   · rw [List.set_set]; exact q4 _ _
   · rw [List.getElem?_drop, hi (11 + i) (by omega), show (11 + i) % 11 = i % 11 by omega, show (11 + i) / 11 = i / 11 + 1 by omega, List.getElem?_cons_succ, List.getElem?_append_right (by omega), show 11 + i - c.length = i by omega]
theorem setCell_at {w : World} {g p : Nat} {cur : Array Value} {t : TypeId} (h : w.heap[g]? = some (.cells cur t (0, 0))) (u : Value) : (w.setCell ⟨g, p, none⟩ u).heap[g]? = some (.cells (cur.setIfInBounds p u) t (0, 0)) := by
 have hlt := lt_of_block h
 have h' : w.heap[g] = .cells cur t (0, 0) := by simpa [Array.getElem?_eq_getElem hlt] using h
 show (w.heap.modify g _)[g]? = _
 rw [Array.getElem?_eq_getElem (by simpa using hlt), Array.getElem_modify_self, h']
 rfl
structure CpI (cxb : Cx) (l : List Cnt) (w1 : World) (v1 : Value) (f0 : List Value) (k : Nat) (wr : World) : Prop where
 evo : Evo cxb wr
 size : w1.heap.size ≤ wr.heap.size
 same : ∀ b, b < w1.heap.size → blkOf v1 ≠ some b → wr.heap[b]? = w1.heap[b]?
 ex : ∃ (vs f1 : List Value), vs.length = k ∧ RowR wr 31 11 v1 l.length f1 ∧ (∀ i, i < l.length * 11 → f1[i]? = if i % 11 = 10 ∧ i / 11 < k then vs[i / 11]? else f0[i]?) ∧
  (∀ (j : Nat) v, vs[j]? = some v → v.oneCell' = true ∧ (∀ b, blkOf v = some b → w1.heap.size ≤ b ∧ b < wr.heap.size) ∧ ∃ fl, RowR wr 39 5 v (l.getD j ct0).pcs.length fl ∧ ∀ wX OX, roAll (ro wX OX yPC) (l.getD j ct0).pcs fl) ∧
  (∀ (i j : Nat) u v b, vs[i]? = some u → vs[j]? = some v → blkOf u = some b → blkOf v = some b → i = j)
theorem CpI.next {cxb : Cx} {l : List Cnt} {w1 w2 wr : World} {g cap : Nat} {f0 fl : List Value} {k : Nat} {a2 : Option Addr} {n2 c2 : Nat} (h : CpI cxb l w1 (.slice (some ⟨g, 0, none⟩) l.length cap) f0 k wr) (hk : k < l.length) (hcap : 0 < cap)
 (hg : g < w1.heap.size) (hg0 : cxb.w0.heap.size ≤ g) (hMu : ∀ b, ¬ cxb.Mu b) (hev : Evo cxb w2) (hs : wr.heap.size ≤ w2.heap.size) (hb : ∀ b, b < wr.heap.size → w2.heap[b]? = wr.heap[b]?)
 (hr : RowR w2 39 5 (.slice a2 n2 c2) (l.getD k ct0).pcs.length fl) (hro : ∀ wX OX, roAll (ro wX OX yPC) (l.getD k ct0).pcs fl) (hb2 : ∀ b, blkOf (.slice a2 n2 c2) = some b → wr.heap.size ≤ b ∧ b < w2.heap.size) :
 (∃ cur, w2.heap[g]? = some (.cells cur 31 (0, 0))) ∧ CpI cxb l w1 (.slice (some ⟨g, 0, none⟩) l.length cap) f0 (k + 1) (w2.setCell ⟨g, 0 + k * 11 + 10, none⟩ (.slice a2 n2 c2)) := by
 obtain ⟨vs, f1, e1, e2, e3, e4, e5⟩ := h.ex
 obtain ⟨e6, e7⟩ := e2
 rcases e7 with ⟨q, _⟩ | ⟨g', cap', cur, p1, p2, p3, p4, p5, p6, p7⟩
 · omega
 cases p2
 have hg2 : w2.heap[g]? = some (.cells cur 31 (0, 0)) := by rw [hb g (Nat.lt_of_lt_of_le hg h.size)]; exact p3
 have hoth : ∀ b, b ≠ g → (w2.setCell ⟨g, 0 + k * 11 + 10, none⟩ (.slice a2 n2 c2)).heap[b]? = w2.heap[b]? := fun b hbg => Below.heap_setCell w2 _ _ b hbg
 have hsz : (w2.setCell ⟨g, 0 + k * 11 + 10, none⟩ (.slice a2 n2 c2)).heap.size = w2.heap.size := by simp [World.setCell]
 have hgv : ∀ b, blkOf (.slice (some ⟨g, 0, none⟩) l.length cap) ≠ some b ↔ b ≠ g := fun b => by rw [blkOf_slice hcap]; simp [eq_comm]
 refine ⟨⟨cur, hg2⟩, ⟨hev.os, hev.tape, hev.output, hev.drawn, by rw [hsz]; exact hev.size, fun b q1 q2 => by rw [hoth b (by omega)]; exact hev.block b q1 q2⟩, by rw [hsz]; exact Nat.le_trans h.size hs, fun b q1 q2 => ?_, vs ++ [.slice a2 n2 c2], f1.set (k * 11 + 10) (.slice a2 n2 c2), by simp [e1], ⟨by rw [List.length_set]; exact e6, .inr ⟨g, cap, cur.setIfInBounds (0 + k * 11 + 10) (.slice a2 n2 c2), p1, rfl, setCell_at hg2 _, p4, p5, by simpa using p6, ?_⟩⟩, fun i hi => ?_, fun j v hv => ?_, fun i j u v b hu hv hbu hbv => ?_⟩
 · rw [hoth b ((hgv b).1 q2), hb b (Nat.lt_of_lt_of_le q1 h.size)]; exact h.same b q1 q2
 · rw [← p7, Array.toList_setIfInBounds, List.take_set, Nat.zero_add]
 · rw [List.getElem?_set]
   by_cases ei : k * 11 + 10 = i
   · rw [if_pos ei, if_pos (by omega), if_pos ⟨by omega, by omega⟩, show i / 11 = k by omega, List.getElem?_append_right (by omega), e1, Nat.sub_self]; rfl
   · rw [if_neg ei, e3 i hi]
     by_cases q : i % 11 = 10 ∧ i / 11 < k
     · rw [if_pos q, if_pos ⟨q.1, by omega⟩, List.getElem?_append_left (by omega)]
     · rw [if_neg q, if_neg (fun r => q ⟨r.1, by omega⟩)]
 · by_cases hj : j < k
   · rw [List.getElem?_append_left (by omega)] at hv
     obtain ⟨r1, r2, fl', r3, r4⟩ := e4 j v hv
     refine ⟨r1, fun b hb' => ⟨(r2 b hb').1, by rw [hsz]; exact Nat.lt_of_lt_of_le (r2 b hb').2 hs⟩, fl', rowR_of_block r3 (fun b hb' => ?_), r4⟩
     have := r2 b hb'
     rw [hoth b (by omega), hb b this.2]
   · have hj2 := (List.getElem?_eq_some_iff.1 hv).1
     rw [List.length_append, List.length_singleton, e1] at hj2
     have : j = k := by omega
     subst this
     rw [List.getElem?_append_right (by omega), e1, Nat.sub_self] at hv
     cases hv
     refine ⟨rfl, fun b hb' => ⟨Nat.le_trans h.size (hb2 b hb').1, by rw [hsz]; exact (hb2 b hb').2⟩, fl, rowR_of_block hr (fun b hb' => ?_), hro⟩
     have h1 := (hb2 b hb').1
     have h2 := h.size
     exact hoth b (by omega)
 · have split : ∀ (j : Nat) v, (vs ++ [Value.slice a2 n2 c2])[j]? = some v → (j < k ∧ vs[j]? = some v) ∨ (j = k ∧ v = .slice a2 n2 c2) := fun j v hv => by
    by_cases hj : j < k
    · rw [List.getElem?_append_left (by omega)] at hv; exact .inl ⟨hj, hv⟩
    · have hj2 := (List.getElem?_eq_some_iff.1 hv).1
      rw [List.length_append, List.length_singleton, e1] at hj2
      rw [List.getElem?_append_right (by omega), e1, show j - k = 0 by omega] at hv
      cases hv
      exact .inr ⟨by omega, rfl⟩
   rcases split i u hu with ⟨i1, i2⟩ | ⟨i1, rfl⟩ <;> rcases split j v hv with ⟨j1, j2⟩ | ⟨j1, rfl⟩
   · exact e5 i j u v b i2 j2 hbu hbv
   · have h1 := ((e4 i u i2).2.1 b hbu).2
     have h2 := (hb2 b hbv).1
     omega
   · have h1 := ((e4 j v j2).2.1 b hbv).2
     have h2 := (hb2 b hbu).1
     omega
   · omega
def copG (fr : Nat) (l : List Cnt) : Eff := ⟨l.length ≤ 1000 ∧ ∀ o ∈ l, o.pcs.length ≤ 100000, .one (.row fr), [(fr + 1, .fam 39 yPC (l.map (fun o => o.pcs))), (fr, .rowg 31 yCT 10 (fr + 1) (l.map (fun o => setPcs o [])) none)], True⟩
def copO (fr : Nat) : Option (List Cnt) → Eff
 | some l => copG fr l
 | none => bad
def copV (fr : Nat) : AV → Eff
 | .one (.sl u xs _) => copO fr (castTy u yCT xs)
 | _ => bad
def copC : Ctr := fun avs _ fr => match avs with
 | [v] => copV fr v
 | _ => bad
theorem copC_inv {avs : List AV} {m : Mem} {fr : Nat} (hp : (copC avs m fr).pre) : ∃ (l : List Cnt) (cp : Bool), avs = [.one (.sl yCT l cp)] ∧ copC avs m fr = copG fr l := by
 unfold copC at hp ⊢
 split at hp
 case h_2 => exact hp.elim
 rename_i v
 unfold copV at hp
 split at hp
 case h_2 => exact hp.elim
 rename_i u xs cp
 unfold copO at hp
 split at hp
 case h_2 => exact hp.elim
 rename_i l hcast
 obtain ⟨e1, e2⟩ := castTy_eq hcast
 subst e1
 have e2 : xs = l := e2.symm
 subst e2
 exact ⟨xs, cp, rfl, by simp only [copV, hcast, copO]⟩
theorem bare_at {cx : Cx} {σ : Nat → Value} {N : Nat → Prop} {m : Mem} {w wr : World} (h : RepM cx σ N m w) (he : Evo (cx.bare w) wr) : RepM (cx.bare wr) σ N (fun _ => .dead) wr where
 blk _ := trivial
 fresh _ _ := rfl
 inj _ _ _ h := by cases h
 notF _ _ h := by cases h
 low _ _ h := by cases h
 evo := ⟨rfl, rfl, rfl, fun _ => Nat.le_refl _, Nat.le_refl _, fun _ _ _ => rfl⟩
 hF _ h := h.elim
 hone := h.hone
 fix _ h := absurd h (Nat.not_lt_zero _)
 mks _ h := by cases h
 gl := fun g v hg => by
  obtain ⟨h1, h2, h3, vs, e, hh, h4, h5⟩ := glOk_bare h g v hg
  exact ⟨fun h => h, fun h => h, Nat.lt_of_lt_of_le h3 he.size, vs, e, hh, (he.block g h3 h1).trans h4, h5⟩
theorem evo_trans {cx : Cx} {w w1 w2 : World} (h1 : Evo (cx.bare w) w1) (h2 : Evo (cx.bare w1) w2) : Evo (cx.bare w) w2 :=
 ⟨h2.os.trans h1.os, h2.tape.trans h1.tape, h2.output.trans h1.output, fun d => Nat.le_trans (h1.drawn d) (h2.drawn d), Nat.le_trans h1.size h2.size, fun b hb hm => (h2.block b (Nat.lt_of_lt_of_le hb h1.size) hm).trans (h1.block b hb hm)⟩
theorem cloneC_eff (l : List Cnt) (cp : Bool) (fr : Nat) : con49.ctr [.one (.sl yCT l cp)] (fun _ => .dead) fr = ⟨l.length ≤ 100000, .one (.row fr), [(fr, .row 31 yCT l)], Wf (.sl yCT) l ∧ True⟩ := by
 simp [go_sem, con49]
theorem cloneP_eff (l : List Pce) (cp : Bool) (fr : Nat) : con50.ctr [.one (.sl yPC l cp)] (fun _ => .dead) fr = ⟨l.length ≤ 100000, .one (.row fr), [(fr, .row 39 yPC l)], Wf (.sl yPC) l ∧ True⟩ := by
 simp [go_sem, con50]
theorem copC_ok : CtrOk Tryz.prog 40 copC := by
 intro D gv hD cx hcx σ N m w fr avs vs h hfr hr hp
 obtain ⟨l, cp, rfl, hC⟩ := copC_inv hp
 rw [hC] at hp ⊢
 obtain ⟨hl, hlo⟩ : l.length ≤ 1000 ∧ ∀ o ∈ l, o.pcs.length ≤ 100000 := hp
 clear hC
 have hb0 := repM_bare h
 have hr2 := repAs_keep (keeps_bare h) _ _ hr
 unfold repAs at hr
 obtain ⟨v, vs', rfl, g1, g2⟩ := hr
 unfold repAs at g2
 subst g2
 have hcl := c49 D gv hD (cx.bare w) hcx σ N (fun _ => .dead) w fr _ _ hb0 hfr hr2 (by rw [cloneC_eff]; exact Nat.le_trans hl (by decide))
 rw [cloneC_eff] at hcl
 have hown1 : ∀ (wr : World) b, ¬ Owned (cx.bare wr) σ (fun _ => .dead) b := fun wr b hb => hb.elim id (fun ⟨_, h, _⟩ => by cases h)
 have hcp : ∀ (wr : World) (pcs : List Pce) (pv : Value), Evo (cx.bare w) wr → pcs.length ≤ 100000 → ro wr (Owned (cx.bare wr) σ (fun _ => .dead)) (.sl yPC) pcs [pv] → Calls Tryz.prog 50 #[pv] wr fun e w2 => ∃ a2 n2 c2 fl, e = .returned (.slice a2 n2 c2) ∧ Evo (cx.bare w) w2 ∧ wr.heap.size ≤ w2.heap.size ∧ (∀ b, b < wr.heap.size → w2.heap[b]? = wr.heap[b]?) ∧
  RowR w2 39 5 (.slice a2 n2 c2) pcs.length fl ∧ (∀ wX OX, roAll (ro wX OX yPC) pcs fl) ∧ (∀ b, blkOf (.slice a2 n2 c2) = some b → wr.heap.size ≤ b ∧ b < w2.heap.size) := fun wr pcs pv he hpl hro => by
  have hb := bare_at h he
  have hargs : repAs (rx (cx.bare wr) σ N (fun _ => .dead) wr) [.one (.sl yPC pcs false)] [pv] := by
   unfold repAs
   refine ⟨pv, [], rfl, ?_, by unfold repAs; rfl⟩
   unfold repA repC
   exact ⟨hro, fun h => by cases h⟩
  have hc := c50 D gv hD (cx.bare wr) hcx σ N (fun _ => .dead) wr fr _ _ hb hfr hargs (by rw [cloneP_eff]; exact hpl)
  rw [cloneP_eff] at hc
  refine hc.mono ?_
  rintro e w2 ⟨v2, rfl, σ2, q1, q2, q3, _⟩
  have hblk := q1.blk fr
  have hm2 : updM (fun _ => Blk.dead) [(fr, .row 39 yPC pcs)] fr = .row 39 yPC pcs := by simp [updM, upd]
  simp only [hm2] at hblk
  obtain ⟨n, fl, rfl, k1, k2⟩ := hblk
  simp only [rx] at k1 k2
  unfold repA repC at q3
  have hv2 : v2 = σ2 fr := q3.2
  have hbf : ∀ b, blkOf (σ2 fr) = some b → wr.heap.size ≤ b ∧ b < w2.heap.size := fun b hb => by
   have ho : own (updM (fun _ => Blk.dead) [(fr, .row 39 yPC pcs)] fr) = true := by rw [hm2]; rfl
   refine ⟨?_, repB_lt (q1.blk fr) ho b (.inl hb)⟩
   rcases q1.low fr b ho (.inl hb) with h1 | h1
   · exact h1
   · exact h1.elim
  have hfl : ∀ wX OX, roAll (ro wX OX yPC) pcs fl := fun wX OX => roAll_mono (fun x c hx => ro_flat yPC x c rfl hx) _ _ k2
  have hev := evo_trans he q1.evo
  have hsame : ∀ b, b < wr.heap.size → w2.heap[b]? = wr.heap[b]? := fun b hb => q1.evo.block b hb (fun h => h)
  rw [hv2]
  rcases k1.2 with ⟨_, a, e⟩ | ⟨g, cap, cur, _, e, _⟩
  · rw [e] at k1 hbf ⊢
    exact ⟨a, 0, 0, fl, rfl, hev, q1.evo.size, hsame, k1, hfl, hbf⟩
  · rw [e] at k1 hbf ⊢
    exact ⟨_, _, cap, fl, rfl, hev, q1.evo.size, hsame, k1, hfl, hbf⟩
 have hbig : l.length ≤ 9223372036854775807 := by omega
 refine (copied_walk v l.length w hbig (fun k wr a cap => ∃ w1 v1 f0 O1, v1 = .slice a l.length cap ∧ Evo (cx.bare w) w1 ∧ (∃ f, RowR w1 31 11 v1 l.length f) ∧ roAll (ro w1 O1 yCT) l f0 ∧ (∀ b, blkOf v1 = some b → O1 b) ∧ (∀ b, blkOf v1 = some b → w.heap.size ≤ b ∧ b < w1.heap.size) ∧ CpI (cx.bare w) l w1 v1 f0 k wr) ?_ ?_).mono ?_
 · refine hcl.mono ?_
   rintro e w1 ⟨v1, rfl, σ1, q1, q2, q3, _⟩
   have hblk := q1.blk fr
   have hm2 : updM (fun _ => Blk.dead) [(fr, .row 31 yCT l)] fr = .row 31 yCT l := by simp [updM, upd]
   simp only [hm2] at hblk
   obtain ⟨n, f0, rfl, k1, k2⟩ := hblk
   simp only [rx] at k1 k2
   unfold repA repC at q3
   have hv2 : v1 = σ1 fr := q3.2
   have ho : own (updM (fun _ => Blk.dead) [(fr, .row 31 yCT l)] fr) = true := by rw [hm2]; rfl
   have hbf : ∀ b, blkOf (σ1 fr) = some b → w.heap.size ≤ b ∧ b < w1.heap.size := fun b hb => by
    refine ⟨?_, repB_lt (q1.blk fr) ho b (.inl hb)⟩
    rcases q1.low fr b ho (.inl hb) with h1 | h1
    · exact h1
    · exact h1.elim
   have hOw : ∀ b, blkOf (σ1 fr) = some b → Owned (cx.bare w) σ1 (updM (fun _ => Blk.dead) [(fr, .row 31 yCT l)]) b := fun b hb => .inr ⟨fr, ho, .inl hb⟩
   have hI : ∀ a cap, σ1 fr = .slice a l.length cap → CpI (cx.bare w) l w1 (σ1 fr) f0 0 w1 := fun a cap e =>
    ⟨q1.evo, Nat.le_refl _, fun b _ _ => rfl, [], f0, rfl, k1, fun i _ => by rw [if_neg (by omega)], fun j v hv => by simp at hv, fun i j u v b hu => by simp at hu⟩
   rcases k1.2 with ⟨hz, a, e⟩ | ⟨g, cap, cur, _, e, _⟩
   · have e' : σ1 fr = .slice a l.length 0 := by rw [e, hz]
     exact ⟨a, 0, by rw [hv2, e'], w1, σ1 fr, f0, _, e', q1.evo, ⟨f0, k1⟩, k2, hOw, hbf, hI a 0 e'⟩
   · exact ⟨_, cap, by rw [hv2, e], w1, σ1 fr, f0, _, e, q1.evo, ⟨f0, k1⟩, k2, hOw, hbf, hI _ _ e⟩
 · rintro k wr a cap hkl ⟨w1, v1, f0, O1, rfl, he1, ⟨f, hrow⟩, hf0, hO1, hv1, hI⟩
   obtain ⟨vs, f1, e1, e2, e3, e4, e5⟩ := hI.ex
   rcases hrow.2 with ⟨q, _⟩ | ⟨g, cap', cur, p1, p2, _⟩
   · omega
   cases p2
   have hbg : blkOf (.slice (some ⟨g, 0, none⟩) l.length cap) = some g := blkOf_slice p1
   obtain ⟨pre, c, post, r1, r2, r3, _, _⟩ := roAll_at (n := (yCT : Ty).n) (fun x c hx => ro_len _ _ _ hx) hf0 hkl
   have r2 : pre.length = k * 11 := r2
   obtain ⟨t1, t2, ⟨pv, t3, t4⟩, _⟩ := ct_cells r3
   have hpv : f0[k * 11 + 10]? = some pv := by
    rw [r1, List.getElem?_append_right (by omega), r2, show k * 11 + 10 - k * 11 = 10 by omega, List.getElem?_append_left (by omega)]; exact t3
   have hpv1 : f1[k * 11 + 10]? = some pv := by rw [e3 _ (by omega), if_neg (by omega)]; exact hpv
   have hcell := rowR_cells e2 hbg (k * 11 + 10) pv hpv1
   have hlk : l.getD k ct0 = l[k] := getD_lt hkl
   have hpcs : (l[k]).pcs.length ≤ 100000 := hlo _ (List.getElem_mem hkl)
   have hrow2 : ro wr (Owned (cx.bare wr) σ (fun _ => .dead)) (.sl yPC) (l[k]).pcs [pv] := ro_keep ⟨fun b hb hno => ⟨hown1 wr b, fun o ho _ => by
    rw [hI.same b hb (fun e => hno (hO1 b e))]
    exact ho⟩⟩ _ _ _ t4
   refine ⟨g, 0, pv, rfl, by rw [show 0 + k * 11 + 10 = k * 11 + 10 by omega]; exact hcell, (hcp wr _ pv hI.evo hpcs hrow2).mono ?_⟩
   rintro e w2 ⟨a2, n2, c2, fl, rfl, hev, hs, hsame, hr3, hro, hb2⟩
   obtain ⟨hgl, hgu⟩ := hv1 g hbg
   obtain ⟨⟨cur2, hc2⟩, hN⟩ := hI.next (fl := fl) (a2 := a2) (n2 := n2) (c2 := c2) hkl p1 hgu hgl (fun b h => h) hev hs hsame (by rw [hlk]; exact hr3) (by rw [hlk]; exact hro) hb2
   refine ⟨a2, n2, c2, pv, rfl, ?_, by simp [World.frozen?, hc2], w1, _, f0, O1, rfl, he1, ⟨f, hrow⟩, hf0, hO1, hv1, hN⟩
   rw [show 0 + k * 11 + 10 = k * 11 + 10 by omega]
   have hgs : g < wr.heap.size := Nat.lt_of_lt_of_le hgu hI.size
   rw [World.cell?_of_block (a := ⟨g, k * 11 + 10, none⟩) (hsame g hgs)]
   exact hcell
 · rintro e w' ⟨a, cap, rfl, w1, v1, f0, O1, rfl, he1, ⟨f, hrow⟩, hf0, hO1, hv1, hI⟩
   obtain ⟨vs, f1, e1, e2, e3, e4, e5⟩ := hI.ex
   have hfr0 : N fr := hfr fr (Nat.le_refl _) (by omega)
   have hfr1 : N (fr + 1) := hfr (fr + 1) (by omega) (by omega)
   have hne : fr ≠ fr + 1 := by omega
   let m' : Mem := upd (upd m (fr + 1) (.fam 39 yPC (l.map (fun o => o.pcs)))) fr (.rowg 31 yCT 10 (fr + 1) (l.map (fun o => setPcs o [])) none)
   have m1 : m' fr = .rowg 31 yCT 10 (fr + 1) (l.map (fun o => setPcs o [])) none := upd_same _ _ _
   have m2 : m' (fr + 1) = .fam 39 yPC (l.map (fun o => o.pcs)) := by simp only [m']; rw [upd_ne _ _ (fun k => hne k.symm), upd_same]
   have m3 : ∀ i, i ≠ fr → i ≠ fr + 1 → m' i = m i := fun i h1 h2 => by simp only [m']; rw [upd_ne _ _ h1, upd_ne _ _ h2]
   let σ' : Nat → Value := upd (upd σ fr (.slice a l.length cap)) (fr + 1) (.func (.func 0) #[] vs.toArray)
   have s1 : σ' fr = .slice a l.length cap := by simp only [σ']; rw [upd_ne _ _ hne, upd_same]
   have s2 : σ' (fr + 1) = .func (.func 0) #[] vs.toArray := upd_same _ _ _
   have s3 : ∀ i, i ≠ fr → i ≠ fr + 1 → σ' i = σ i := fun i h1 h2 => by simp only [σ']; rw [upd_ne _ _ h2, upd_ne _ _ h1]
   have hb1 : ∀ b, hb (σ' fr) b → blkOf (.slice a l.length cap) = some b := fun b hb => by
    rw [s1] at hb
    exact hb_slice.1 hb
   have hb2 : ∀ b, hb (σ' (fr + 1)) b → ∃ j u, vs[j]? = some u ∧ blkOf u = some b := fun b hb => by
    rw [s2] at hb
    obtain ⟨u, hu, hub⟩ := hb_fam.1 hb
    obtain ⟨j, hj⟩ := List.getElem?_of_mem hu
    exact ⟨j, u, by simpa using hj, hub⟩
   obtain ⟨k1, k2⟩ := h.stepD (σ' := σ') (N' := Nx N fr) (m' := m') (w' := w') (fun i => i = fr ∨ i = fr + 1) (fun i k => k.1)
    (fun i k => by
      have h1 : i ≠ fr := fun e => k.2 ⟨by omega, by omega⟩
      have h2 : i ≠ fr + 1 := fun e => k.2 ⟨by omega, by omega⟩
      rw [m3 i h1 h2]; exact h.fresh i k.1)
    (fun i k => by simp only [not_or] at k; exact ⟨m3 i k.1 k.2, s3 i k.1 k.2⟩)
    (fun i k => s3 i (fun e => k (e ▸ hfr0)) (fun e => k (e ▸ hfr1)))
    (fun b hb _ => hI.evo.block b hb (fun h => h))
    ⟨hI.evo.size, hI.evo.drawn⟩ hI.evo.os hI.evo.tape hI.evo.output
    (fun i b hi _ hbb => by
      rcases hi with rfl | rfl
      · exact .inl (hv1 b (hb1 b hbb)).1
      · obtain ⟨j, u, h1, h2⟩ := hb2 b hbb
        exact .inl (Nat.le_trans he1.size ((e4 j u h1).2.1 b h2).1))
    (fun i i' b hi hi' _ _ hbb hbb' => by
      rcases hi with rfl | rfl <;> rcases hi' with rfl | rfl
      · rfl
      · obtain ⟨j, u, h1, h2⟩ := hb2 b hbb'
        have q1 := (hv1 b (hb1 b hbb)).2
        have q2 := ((e4 j u h1).2.1 b h2).1
        omega
      · obtain ⟨j, u, h1, h2⟩ := hb2 b hbb
        have q1 := (hv1 b (hb1 b hbb')).2
        have q2 := ((e4 j u h1).2.1 b h2).1
        omega
      · rfl)
    (fun i hi => by
      rcases hi with rfl | rfl
      · rw [s1]; rfl
      · rw [s2]; rfl)
    (fun hk i hi => by
      rcases hi with rfl | rfl
      · rw [m1]
        refine ⟨.func 0, vs.toArray, f1, fun k => k.2 ⟨by omega, by omega⟩, s2, by simp [e1], ?_, ?_⟩
        · rw [List.length_map]
          show RowR w' 31 11 (σ' i) l.length f1
          rw [s1]; exact e2
        · show roAll _ ((l.map (fun o => setPcs o [])).zip (vs.map some)) f1
          refine roAll_mix l vs f0 f1 e1 hf0 e2.1 (fun q hq => ?_) (fun u hu => ?_)
          · rw [e3 q hq]
            by_cases hh : q % 11 = 10
            · rw [if_pos ⟨hh, by omega⟩, if_pos hh]
            · rw [if_neg (fun r => hh r.1), if_neg hh]
          · obtain ⟨j, hj⟩ := List.getElem?_of_mem hu
            exact (e4 j u hj).1
      · rw [m2]
        refine ⟨.func 0, vs.toArray, s2, by simp [e1], fun q xs u hx hu => ?_, fun q q' u u' b hu hu' => ?_⟩
        · have hu : vs[q]? = some u := by simpa using hu
          obtain ⟨r1, _, fl, r3, r4⟩ := e4 q u hu
          have hql : q < l.length := by
           have := (List.getElem?_eq_some_iff.1 hx).1
           rwa [List.length_map] at this
          have hxs : xs = (l.getD q ct0).pcs := by
           rw [List.getElem?_map, List.getElem?_eq_getElem hql] at hx
           rw [getD_lt hql]
           simpa using hx.symm
          subst hxs
          exact ⟨r1, fl, r3, r4 _ _⟩
        · exact e5 q q' u u' b (by simpa using hu) (by simpa using hu'))
   refine ⟨_, rfl, σ', k1, k2, ?_, trivial⟩
   unfold repA repC
   exact ⟨fun k => k.2 ⟨by omega, by omega⟩, s1.symm⟩
attribute [go_sem] copG copO copV copC
def conCopG : Go.Ev.Raw := ⟨copC⟩
theorem cCopG : CtrOk Tryz.prog 40 conCopG.ctr := copC_ok
end Go.Proofs.YtpglcghgklmedaaGreat

/- A part. -/
set_option maxRecDepth 100000
set_option maxHeartbeats 8000000
namespace Go.Proofs.YtpglcghgklmedaaGreat
open Go.Ev
attribute [local go_sem] List.set_cons_succ List.set_cons_zero List.getD_cons_succ List.getD_cons_zero List.set_nil
def inT (t : Tsk) (p : Pce) : Bool := t.2.any (fun y => decide (y = p.1))
def con42 : BCon := { ps := [.d true yPC, .p 52 yTK, .bx], rs := [.d false .bool], e := 50, k := .row 37 yPL, pre := fun _ (z : List Plt) => z.length ≤ 100000000, out := fun (x : Pce × Tsk × Unit × Unit) _ => (inT x.2.1 x.1, ()), nw := fun x _ => x, nx := fun (x : Pce × Tsk × Unit × Unit) (z : List Plt) => if inT x.2.1 x.1 = true then z ++ [x.1.1] else z }
theorem c42 : CtrOk Tryz.prog 42 con42.ctr :=
 box_sound (G := ⟨[(36, con36.ctr)], [], [], [], []⟩) tab_ok (EnvOk.cons c36 has36 EnvOk.nil) rfl Tryz.func42 rfl con42 1055 (by kernel_rfl) (by decide) (by decide) rfl (by decide) rfl (by
  rintro ⟨⟨⟨(a : Int), (b : Int), (c : Int)⟩, (d : Int), (e : Int)⟩, ⟨(n : Int), (pl : List Plt)⟩, _⟩ (z : List Plt) hpre hwf X hT hG hk hK
  have hz : z.length ≤ 100000000 := hpre
  (simp -implicitDefEqProofs only [go_sem, bP, con42, con36, hT, hG, hk, hK, Tryz.results42] at hwf ⊢)
  have e0 : inT (n, pl) ((a, b, c), d, e) = pl.any (fun y => decide (y = (a, b, c))) := rfl
  rw [e0]
  refine ⟨fun h => ⟨by rw [if_neg (by rw [h]; simp)], h.symm⟩, fun h => ⟨by omega, by rw [if_pos h], h.symm⟩⟩)
theorem idxV_m1' {α : Type} {p : α → Bool} {l : List α} (h : idxV p l < 0) : idxV p l = -1 := by
 unfold idxV at h ⊢
 split at h
 · omega
 · rfl
def takI (t : Tsk) (l : List Pce) : List Plt := if 0 ≤ idxV (inT t) l then [(l.getD (idxV (inT t) l).toNat pc0).1] else []
def con79 : BCon := { ps := [.o 39 yPC, .cl 42 [.p 52 yTK, .bx]], rs := [.d false (.int .i64)], e := 50, k := .row 37 yPL, pre := fun _ (z : List Plt) => z.length ≤ 1000000, out := fun (x : List Pce × (Tsk × Unit × Unit) × Unit) _ => (idxV (inT x.2.1.1) x.1, ()), nw := fun x _ => x, nx := fun (x : List Pce × (Tsk × Unit × Unit) × Unit) (z : List Plt) => z ++ takI x.2.1.1 x.1 }
theorem c79 : CtrOk Tryz.prog 79 con79.ctr :=
 box_sound (G := ⟨[(42, con42.ctr)], [], [], [], []⟩) tab_ok (EnvOk.cons c42 has42 EnvOk.nil) rfl Tryz.func79 rfl con79 66483 (by kernel_rfl) (by decide) (by decide) rfl (by decide) rfl (by
  rintro ⟨(l : List Pce), ⟨⟨(n : Int), (pl : List Plt)⟩, _⟩, _⟩ (z : List Plt) hpre hwf X hT hG hk hK
  have hz : z.length ≤ 1000000 := hpre
  (simp -implicitDefEqProofs only [go_sem, bP, con79, con42, hT, hG, hk, hK, Tryz.results79] at hwf ⊢)
  clear hwf
  obtain ⟨t, ht⟩ : ∃ t : Tsk, (n, pl) = t := ⟨_, rfl⟩
  have hn : n = t.1 := by rw [← ht]
  have hpl : pl = t.2 := by rw [← ht]
  subst hn
  subst hpl
  clear ht
  refine fun _ => evk_loop ⟨{ i : Nat // i ≤ l.length ∧ ∀ k, k < i → inT t (l.getD k pc0) = false }, 1000, fun q => [(0, .one (.row 0)), (1, .one (.fn 42 [.loc 12 0, .loc 31 0])), (4, .one (.int .i64 0)), (7, .one (.int .i64 l.length)), (8, .one (.int .i64 q.1))], fun q => [(0, .row 39 yPC l), (12, .cells 52 [.int .i64 t.1, .sl yPL t.2 false]), (31, .cells 50 [.row 40]), (40, .row 37 yPL z)], fun q => l.length - q.1⟩ ⟨0, by omega, fun k hk => by omega⟩ ?_ ?_
  · simp only [go_sem]
    try first | rfl | (and_intros <;> first | trivial | rfl | omega)
  · rintro ⟨i, (hi : i ≤ l.length), hzz⟩
    (simp -implicitDefEqProofs only [go_sem, bP, con79, con42, hT, hG, hk, hK, Tryz.results79])
    obtain ⟨o, ho⟩ : ∃ o, l.getD i pc0 = o := ⟨_, rfl⟩
    have eo : l.getD (i : Int).toNat ((0, 0, 0), 0, 0) = o := ho
    try simp only [eo]
    have eO : ((o.1.1, o.1.2.1, o.1.2.2), o.2.1, o.2.2) = o := rfl
    try simp only [eO]
    have hidx : i < l.length → inT t o = true → idxV (inT t) l = i := fun h1 h2 => idxV_at (d := pc0) hzz h1 (by rw [ho]; exact h2)
    have htk : i < l.length → inT t o = true → takI t l = [o.1] := fun h1 h2 => by
     unfold takI
     rw [hidx h1 h2, if_pos (by omega), show ((i : Int)).toNat = i by omega, ho]
    have hno : i = l.length → idxV (inT t) l = -1 := fun h => idxV_none (d := pc0) fun k hk => hzz k (by omega)
    have htn : i = l.length → takI t l = [] := fun h => by unfold takI; rw [hno h, if_neg (by omega)]
    (repeat' with_reducible first | refine And.intro ?_ ?_ | intro _) <;> try first | with_reducible (first | assumption | omega | contradiction) | decide
    all_goals first
     | omega
     | (have h : inT t o = true := by assumption
        rw [if_pos h, htk (by omega) h])
     | (have h : inT t o = true := by assumption
        rw [hidx (by omega) h])
     | (have h : inT t o = false := by assumption
        refine fin_lp ⟨i + 1, by omega, lt_succ hzz (by rw [ho]; exact h)⟩ ?_ (by dsimp only; omega)
        simp only [go_sem]
        simp only [h, Bool.false_eq_true, if_false]
        try first | rfl | (and_intros <;> first | trivial | rfl | omega)
        done)
     | (rw [htn (by omega), List.append_nil])
     | (rw [hno (by omega)])
     | fail)
def con41 : BCon := { ps := [.oc 39 yPC, .cl 42 [.p 52 yTK, .bx]], rs := [.o 39 yPC], e := 50, k := .row 37 yPL, pre := fun (x : List Pce × (Tsk × Unit × Unit) × Unit) (z : List Plt) => x.1.length ≤ 1000 ∧ z.length ≤ 1000, out := fun (x : List Pce × (Tsk × Unit × Unit) × Unit) _ => (x.1.filter (fun y => !inT x.2.1.1 y), ()), nw := fun x _ => x, nx := fun (x : List Pce × (Tsk × Unit × Unit) × Unit) (z : List Plt) => z ++ (x.1.filter (inT x.2.1.1)).map (fun y => y.1) }
theorem c41 : CtrOk Tryz.prog 41 con41.ctr :=
 box_sound (G := ⟨[(79, con79.ctr), (42, con42.ctr)], [], [(13, 2), (38, 1), (41, 2)], [], []⟩) tab_ok (EnvOk.cons c79 has79 (EnvOk.cons c42 has42 EnvOk.nil)) rfl Tryz.func41 rfl con41 537399539 (by kernel_rfl) (by decide) (by decide) rfl (by decide) rfl (by
  rintro ⟨(l : List Pce), ⟨⟨(n : Int), (pl : List Plt)⟩, _⟩, _⟩ (z : List Plt) hpre hwf X hT hG hk hK
  obtain ⟨hl, hz⟩ : l.length ≤ 1000 ∧ z.length ≤ 1000 := hpre
  (simp -implicitDefEqProofs only [go_sem, bP, con41, con79, con42, hT, hG, hk, hK, Tryz.results41] at hwf ⊢)
  clear hwf
  obtain ⟨t, ht⟩ : ∃ t : Tsk, (n, pl) = t := ⟨_, rfl⟩
  have hn : n = t.1 := by rw [← ht]
  have hpl : pl = t.2 := by rw [← ht]
  subst hn
  subst hpl
  clear ht
  simp only [Prod.eta]
  obtain ⟨F, hF⟩ : ∃ F : Pce → Bool, F = fun x => !inT t x := ⟨_, rfl⟩
  obtain ⟨G, hG0⟩ : ∃ G : Pce → Bool, G = inT t := ⟨_, rfl⟩
  have hFa : ∀ x, F x = !inT t x := fun x => by rw [hF]
  have hGa : ∀ x, G x = inT t x := fun x => by rw [hG0]
  have hfe : (fun y => !inT t y) = F := hF.symm
  simp only [hfe]
  refine ⟨by omega, fun _ => ⟨fun h => ?_, fun h => ?_⟩⟩
  · have h1 := idxV_neg (p := inT t) (l := l) (by omega)
    have e1 : takI t l = [] := by unfold takI; rw [if_neg (by omega)]
    have e2 : l.filter (inT t) = [] := List.filter_eq_nil_iff.2 fun x hx => by rw [h1 x hx]; simp
    rw [List.filter_eq_self.2 fun x hx => by rw [hFa, h1 x hx]; rfl, e1, e2]
    exact ⟨rfl, rfl⟩
  · have hn : 0 ≤ idxV (inT t) l := by
     apply Classical.byContradiction
     intro hq
     have := idxV_m1' (p := inT t) (l := l) (by omega)
     exact h this
    obtain ⟨hi, h2, h3⟩ := idxV_spec (d := pc0) hn
    have htk : takI t l = [(l.getD (idxV (inT t) l).toNat pc0).1] := by unfold takI; rw [if_pos hn]
    obtain ⟨i, hq⟩ : ∃ i : Nat, idxV (inT t) l = i := ⟨(idxV (inT t) l).toNat, by omega⟩
    rw [hq] at hi h2 h3 htk ⊢
    have hi : i < l.length := hi
    have h2 : inT t (l.getD i pc0) = true := h2
    have h3 : ∀ k, k < i → inT t (l.getD k pc0) = false := h3
    have htk : takI t l = [(l.getD i pc0).1] := htk
    rw [htk]
    refine ⟨⟨by omega, by omega⟩, ?_⟩
    have hpre0 : ∀ x ∈ l.take i, inT t x = false := fun x hx => by
     obtain ⟨k, hk, rfl⟩ := getD_pc hx
     have hki : k < i := by rw [List.length_take] at hk; omega
     rw [List.getD_eq_getElem?_getD, List.getElem?_take_of_lt hki, ← List.getD_eq_getElem?_getD, h3 k hki]
    have b0 : (l.take i).filter F = l.take i := List.filter_eq_self.2 fun x hx => by rw [hFa, hpre0 x hx]; rfl
    have b1 : l.take i = (l.take (i + 1)).filter F := by
     rw [List.take_succ_eq_append_getElem hi, List.filter_append, b0, ← getD_lt (d := pc0) hi, List.filter_cons_of_neg (by rw [hFa, h2]; simp)]; simp
    have b2 : (l.take (i + 1)).filter G = [l.getD i pc0] := by
     rw [List.take_succ_eq_append_getElem hi, List.filter_append, List.filter_eq_nil_iff.2 (fun x hx => by rw [hGa, hpre0 x hx]; simp), ← getD_lt (d := pc0) hi, List.filter_cons_of_pos (by rw [hGa, h2])]; rfl
    refine evk_loop ⟨{ q : Nat × Nat × List Pce // q.1 ≤ q.2.1 ∧ q.2.1 ≤ l.length ∧ q.2.2.length = l.length ∧ q.2.2.take q.1 = (l.take q.2.1).filter F ∧ q.2.2.drop q.2.1 = l.drop q.2.1 }, 1000, fun q => [(0, .one (.row 0)), (1, .one (.fn 42 [.loc 12 0, .loc 31 0])), (5, .one (.int .i64 q.1.1)), (6, .one (.int .i64 q.1.2.1))], fun q => [(0, .row 39 yPC q.1.2.2), (12, .cells 52 [.int .i64 t.1, .sl yPL t.2 false]), (31, .cells 50 [.row 40]), (40, .row 37 yPL (z ++ ((l.take q.1.2.1).filter G).map (fun y => y.1)))], fun q => l.length - q.1.2.1⟩ ⟨(i, i + 1, l), Nat.le_succ i, hi, rfl, b1, rfl⟩ ?_ ?_
    · simp only [go_sem]
      rw [b2]
      try first | rfl | (and_intros <;> first | trivial | rfl | omega)
    · rintro ⟨⟨a, r, R⟩, (c1 : a ≤ r), (c2 : r ≤ l.length), (c3 : R.length = l.length), (c4 : R.take a = (l.take r).filter F), (c5 : R.drop r = l.drop r)⟩
      have hzl : (z ++ ((l.take r).filter G).map (fun y => y.1)).length ≤ 2000 := by
       have := List.length_filter_le G (l.take r)
       rw [List.length_take] at this
       rw [List.length_append, List.length_map]; omega
      (simp -implicitDefEqProofs only [go_sem, bP, con41, con79, con42, hT, hG, hk, hK, Tryz.results41])
      refine fun _ => ⟨fun hlt => ?_, fun hge => ?_⟩
      · have hr : r < R.length := by omega
        have hr2 : r < l.length := by omega
        obtain ⟨o, ho⟩ : ∃ o, l.getD r pc0 = o := ⟨_, rfl⟩
        have hRr : R.getD r pc0 = o := by
         have := congrArg (fun q => q.getD 0 pc0) c5
         simp only [List.getD_eq_getElem?_getD, List.getElem?_drop, Nat.add_zero] at this
         rw [List.getD_eq_getElem?_getD, this, ← List.getD_eq_getElem?_getD, ho]
        have eo : R.getD (r : Int).toNat ((0, 0, 0), 0, 0) = o := hRr
        have eO : ((o.1.1, o.1.2.1, o.1.2.2), o.2.1, o.2.2) = o := rfl
        have eT : ((t.1, t.2) : Tsk) = t := rfl
        try simp only [eo, eO, eT]
        have hd : R.drop (r + 1) = l.drop (r + 1) := by rw [← List.drop_drop, c5, List.drop_drop]
        have hst : ∀ H : Pce → Bool, (l.take (r + 1)).filter H = (l.take r).filter H ++ (if H o = true then [o] else []) := fun H => by
         rw [List.take_succ_eq_append_getElem hr2, List.filter_append, ← getD_lt (d := pc0) hr2, ho]
         by_cases q : H o = true
         · rw [if_pos q, List.filter_cons_of_pos q]; rfl
         · rw [if_neg q, List.filter_cons_of_neg q]; rfl
        have hs1 := hst F
        have hs2 := hst G
        (repeat' with_reducible first | refine And.intro ?_ ?_ | intro _) <;> try first | with_reducible (first | assumption | omega | contradiction) | decide
        all_goals first
         | omega
         | (have h0 : inT t o = false := by assumption
            have h1 : F o = true := by rw [hFa, h0]; rfl
            have h2 : ¬ G o = true := by rw [hGa, h0]; simp
            rw [if_pos h1] at hs1
            rw [if_neg h2, List.append_nil] at hs2
            have har : a < R.length := by omega
            refine fin_lp ⟨(a + 1, r + 1, R.set a o), by dsimp only; omega, by dsimp only; omega, by dsimp only; rw [List.length_set]; exact c3, ?_, ?_⟩ ?_ (by dsimp only; omega)
            · dsimp only
              rw [hs1, ← c4, List.take_succ_eq_append_getElem (by rw [List.length_set]; omega), List.take_set_of_le (Nat.le_refl _), List.getElem_set_self]
            · dsimp only
              rw [List.drop_set_of_lt (by omega), hd]
            · simp only [go_sem]
              rw [hs2]
              simp only [h0, Bool.false_eq_true, if_false]
              try first | rfl | (and_intros <;> first | trivial | rfl | omega)
              done)
         | (have h0 : inT t o = true := by assumption
            have h1 : ¬ F o = true := by rw [hFa, h0]; simp
            have h2 : G o = true := by rw [hGa, h0]
            rw [if_neg h1, List.append_nil] at hs1
            rw [if_pos h2] at hs2
            refine fin_lp ⟨(a, r + 1, R), by dsimp only; omega, by dsimp only; omega, c3, by dsimp only; rw [hs1]; exact c4, hd⟩ ?_ (by dsimp only; omega)
            simp only [go_sem]
            rw [hs2, List.map_append, ← List.append_assoc, if_pos h0]
            try first | rfl | (and_intros <;> first | trivial | rfl | omega)
            done)
         | fail
      · refine ⟨by omega, ?_⟩
        have hr : r = l.length := by omega
        have e1 : (a : Int).toNat = a := by omega
        have e2 : ((R.length : Int) - (a : Int)).toNat = R.length - a := by omega
        have e3 : (a + (R.length - a) ≤ R.length) = True := by rw [eq_iff_iff, iff_true]; omega
        (simp -implicitDefEqProofs only [go_sem, bP, con41, con79, con42, hT, hG, hk, hK, Tryz.results41, e1, e2, e3])
        have e5 : (R.take a).length = a := by rw [List.length_take]; omega
        have e4 : List.take a (List.take a R ++ (List.replicate (R.length - a) ((0, 0, 0), 0, 0) ++ List.drop (a + (R.length - a)) R)) = l.filter F := by
         rw [List.take_append_of_le_length (by omega), List.take_of_length_le (by omega), c4, hr, List.take_of_length_le (Nat.le_refl _)]
        have e6 : l.take r = l := by rw [hr, List.take_length]
        simp only [hfe, e6]
        try simp only [← hG0]
        (repeat' with_reducible first | refine And.intro ?_ ?_ | intro _) <;> try first | with_reducible (first | assumption | omega | contradiction) | decide
        all_goals first
         | exact e4
         | (rw [List.length_append, e5]; omega)
         | fail)
theorem putSls_p : ∀ (xs : List Cnt) (yss : List (List Pce)), putSls yPC yCT xs yss = (xs.zip yss).map (fun q => setPcs q.1 q.2)
 | [], _ => rfl
 | _ :: _, [] => rfl
 | x :: xs, y :: yss => by
   have := putSls_p xs yss
   unfold putSls at this ⊢
   rw [List.zip_cons_cons, List.map_cons, List.map_cons, this]
   rfl
theorem putSls_set (c : List Cnt) (k : Nat) (F : List Pce) (hk : k < c.length) : putSls yPC yCT (c.map (fun o => setPcs o [])) (((c.map (fun o => o.pcs)).set k []).set k F) = c.set k (setPcs (c.getD k ct0) F) := by
 rw [putSls_p, List.set_set]
 apply List.ext_getElem?
 intro i
 simp only [List.getElem?_map, List.zip_eq_zipWith, List.getElem?_zipWith, List.getElem?_set, List.length_map]
 by_cases e : k = i
 · subst e
   rw [if_pos rfl, if_pos hk, if_pos rfl, if_pos hk, List.getElem?_eq_getElem hk, getD_lt hk]
   rfl
 · rw [if_neg e, if_neg e]
   cases c[i]? <;> rfl
def perfV (c : List Cnt) (t : Tsk) : List Cnt × List Plt × Int :=
 if checkV c ≠ 0 then ([], [], checkV c) else if numIdx c t.1 < 0 then ([], [], 6)
 else (c.set (numIdx c t.1).toNat (setPcs (c.getD (numIdx c t.1).toNat ct0) ((c.getD (numIdx c t.1).toNat ct0).pcs.filter (fun y => !inT t y))), ((c.getD (numIdx c t.1).toNat ct0).pcs.filter (inT t)).map (fun y => y.1), 0)
def con13 : Con := { ps := [.d false (.sl yCT), .d true yTK], rs := [.d false (.sl yCT), .d false (.sl yPL), .d false (.int .i64)], pre := fun _ => True, out := fun (x : List Cnt × Tsk × Unit) => ((perfV x.1 x.2.1).1, (perfV x.1 x.2.1).2.1, (perfV x.1 x.2.1).2.2, ()), nw := id }
theorem c13 : CtrOk Tryz.prog 13 con13.ctr :=
 con_sound (G := ⟨[(28, con28.ctr), (34, con34.ctr), (40, conCopG.ctr), (41, con41.ctr)], [], [(30, 5), (35, 1)], [], []⟩) tab_ok (EnvOk.cons c28 has28 (EnvOk.cons c34 has34 (EnvOk.cons cCopG has40 (EnvOk.cons c41 has41 EnvOk.nil)))) rfl Tryz.func13 rfl con13 2115579 (by kernel_rfl) (by decide) (by decide) rfl (by decide) rfl (by
  rintro ⟨(c : List Cnt), ⟨(n : Int), (pl : List Plt)⟩, _⟩ hpre hwf X hT hG hk hK
  (simp -implicitDefEqProofs only [go_sem, bP, con13, con28, con34, conCopG, con41, hT, hG, hk, hK, Tryz.results13] at hwf ⊢); (try simp (disch := decide +kernel) only [drawn, true_and, and_true])
  clear hwf
  have hni := idxV_lt (fun (x : Cnt) => decide (x.num = n)) c
  have hni1 : -1 ≤ numIdx c n := hni.1
  have hni2 : numIdx c n < c.length := hni.2
  refine fun _ => ⟨fun h => ?_, fun h _ => ⟨fun h2 => ?_, fun h2 => ?_⟩⟩
  · have e : perfV c (n, pl) = ([], [], checkV c) := by unfold perfV; rw [if_pos h]
    rw [e]; exact ⟨rfl, rfl, rfl⟩
  · have e : perfV c (n, pl) = ([], [], 6) := by unfold perfV; rw [if_neg (by omega), if_pos h2]
    rw [e]; exact ⟨rfl, rfl, rfl⟩
  have hC := checkV_iff.1 h
  have hlen := hC.len
  have hpc : ∀ o ∈ c, o.pcs.length ≤ 60 := fun o ho => (hC.ok o ho).2.1
  obtain ⟨k, hkk⟩ : ∃ k : Nat, numIdx c n = k := ⟨(numIdx c n).toNat, by omega⟩
  have hkl : k < c.length := by omega
  have hF : perfV c (n, pl) = (c.set k (setPcs (c.getD k ct0) ((c.getD k ct0).pcs.filter (fun y => !inT (n, pl) y))), ((c.getD k ct0).pcs.filter (inT (n, pl))).map (fun y => y.1), 0) := by
   unfold perfV; rw [if_neg (by omega), if_neg (by show ¬ numIdx c n < 0; omega)]
   show (c.set (numIdx c n).toNat _, _, _) = _
   rw [hkk]; rfl
  have ekn : ((k : Int)).toNat = k := by omega
  have eml : (c.map (fun o => setPcs o [])).length = c.length := List.length_map _
  have eg : (c.map (fun o => o.pcs)).getD k [] = (c.getD k ct0).pcs := by rw [List.getD_eq_getElem?_getD, List.getElem?_map, List.getElem?_eq_getElem hkl, getD_lt hkl]; rfl
  have hpk := hpc _ (getD_mem (d := ct0) hkl)
  rw [hF, hkk]
  simp only [ekn, eg, putSls_set c k _ hkl]
  simp only [eml]
  refine ⟨⟨by omega, fun o ho => by have := hpc o ho; omega⟩, ⟨by omega, by omega⟩, fun _ => ⟨⟨by omega, by omega⟩, by omega, fun _ => ⟨⟨by omega, by omega⟩, fun _ => ⟨⟨trivial, hkl⟩, by and_intros <;> first | trivial | rfl⟩⟩⟩⟩)
end Go.Proofs.YtpglcghgklmedaaGreat

/- A part. -/
set_option maxRecDepth 100000
set_option maxHeartbeats 8000000
namespace Go.Proofs.YtpglcghgklmedaaGreat
open Go.Ev
def PcSrt (l : List Pce) : Prop := l.Pairwise (fun a b : Pce => pltC a.1 b.1 < 0)
def posP (l : List Pce) (p : Plt) : Nat := (l.takeWhile (fun x => decide (pltC x.1 p < 0))).length
theorem posP_at {l : List Pce} {p : Plt} {k : Nat} (hk : k ≤ l.length) (h1 : ∀ j, j < k → pltC (l.getD j pc0).1 p < 0) (h2 : k < l.length → ¬ pltC (l.getD k pc0).1 p < 0) : posP l p = k := by
 unfold posP
 induction l generalizing k with
 | nil => simp at hk; subst hk; rfl
 | cons a l ih =>
   cases k with
   | zero =>
     have := h2 (by simp)
     rw [List.takeWhile_cons_of_neg (by simpa using this)]; rfl
   | succ k =>
     have h0 : pltC a.1 p < 0 := h1 0 (by omega)
     rw [List.takeWhile_cons_of_pos (by simpa using h0), List.length_cons, ih (by simpa using hk) (fun j hj => h1 (j + 1) (by omega)) (fun hh => h2 (by simpa using hh))]
theorem posP_le (l : List Pce) (p : Plt) : posP l p ≤ l.length := (List.takeWhile_sublist _).length_le
def hasP (l : List Pce) (p : Plt) : Bool := l.any (fun x => decide (x.1 = p))
theorem hasP_pos {l : List Pce} (hs : PcSrt l) (p : Plt) : hasP l p = (decide (posP l p < l.length) && decide ((l.getD (posP l p) pc0).1 = p)) := by
 rw [Bool.eq_iff_iff, Bool.and_eq_true, decide_eq_true_eq, decide_eq_true_eq]
 unfold hasP
 rw [List.any_eq_true]
 constructor
 · rintro ⟨x, hx, he⟩
   have he := of_decide_eq_true he
   obtain ⟨i, hi, rfl⟩ := getD_pc hx
   have hz : pltC (l.getD i pc0).1 p = 0 := (pltC_cmp.eq _ _).2 he
   have : posP l p = i := posP_at (by omega) (fun j hj => by rw [← he]; exact (pw_getD pc0).1 hs j i hj hi) (fun _ => by omega)
   rw [this]; exact ⟨hi, he⟩
 · rintro ⟨h1, h2⟩
   exact ⟨_, getD_mem h1, decide_eq_true h2⟩
def insP (l : List Pce) (x : Pce) : List Pce := l.take (posP l x.1) ++ x :: l.drop (posP l x.1)
def forceV (c : Cnt) (x : Pce) : Cnt × Int := if ctErr c ≠ 0 then (ct0, ctErr c) else if okPc x = false then (ct0, 1) else if hasP c.pcs x.1 = true then (ct0, 5) else if 60 ≤ c.pcs.length then (ct0, 2) else (setPcs c (insP c.pcs x), 0)
def con64 : Con := { ps := [.d false (.sl yPC), .d true yPL], rs := [.d false (.int .i64), .d false .bool], pre := fun (x : List Pce × Plt × Unit) => PcSrt x.1 ∧ x.1.length ≤ 1000000, out := fun (x : List Pce × Plt × Unit) => ((posP x.1 x.2.1 : Nat), hasP x.1 x.2.1, ()), nw := id }
theorem c64 : CtrOk Tryz.prog 64 con64.ctr :=
 con_sound (G := ⟨[(32, con32.ctr)], [], [], [], []⟩) tab_ok (EnvOk.cons c32 has32 EnvOk.nil) rfl Tryz.func64 rfl con64 33563131 (by kernel_rfl) (by decide) (by decide) rfl (by decide) rfl (by
  rintro ⟨(l : List Pce), ⟨(p1 : Int), (p2 : Int), (p3 : Int)⟩, _⟩ hpre hwf X hT hG hk hK
  obtain ⟨hs, hl⟩ : PcSrt l ∧ l.length ≤ 1000000 := hpre
  (simp -implicitDefEqProofs only [go_sem, bP, con64, con32, hT, hG, hk, hK, Tryz.results64] at hwf ⊢); (try simp (disch := decide +kernel) only [drawn, true_and, and_true])
  clear hwf
  obtain ⟨P, hP⟩ : ∃ P : Plt, P = (p1, p2, p3) := ⟨_, rfl⟩
  refine fun _ => evk_loop ⟨{ q : Nat × Nat // q.1 ≤ q.2 ∧ q.2 ≤ l.length ∧ (∀ k, k < q.1 → pltC (l.getD k pc0).1 P < 0) ∧ ∀ k, q.2 ≤ k → k < l.length → ¬ pltC (l.getD k pc0).1 P < 0 }, 1000, fun q => [(0, .one (.sl yPC l false)), (3, .one (.loc 70 0)), (6, .one (.int .i64 q.1.1)), (7, .one (.int .i64 q.1.2))], fun q => [(70, .cells 37 [.int .i64 p1, .int .i64 p2, .int .i64 p3])], fun q => q.1.2 - q.1.1⟩ ⟨(0, l.length), Nat.zero_le _, Nat.le_refl _, fun k hk => by omega, fun k h1 h2 => by omega⟩ ?_ ?_
  · simp only [go_sem]
    try first | rfl | (and_intros <;> first | trivial | rfl | omega)
  · rintro ⟨⟨a, b⟩, (hab : a ≤ b), (hb : b ≤ l.length), h1, h2⟩
    have h1 : ∀ k, k < a → pltC (l.getD k pc0).1 P < 0 := h1
    have h2 : ∀ k, b ≤ k → k < l.length → ¬ pltC (l.getD k pc0).1 P < 0 := h2
    (simp -implicitDefEqProofs only [go_sem, bP, con64, con32, hT, hG, hk, hK, Tryz.results64]); (try simp (disch := decide +kernel) only [drawn, true_and, and_true])
    have em : ((a : Int) + b).tdiv 2 = ((a + b) / 2 : Nat) := by rw [Int.tdiv_eq_ediv_of_nonneg (by omega)]; omega
    simp only [em]
    obtain ⟨m, hm⟩ : ∃ m, (a + b) / 2 = m := ⟨_, rfl⟩
    simp only [hm]
    obtain ⟨o, ho⟩ : ∃ o, l.getD m pc0 = o := ⟨_, rfl⟩
    have eo : l.getD (m : Int).toNat ((0, 0, 0), 0, 0) = o := ho
    have eO : (o.1.1, o.1.2.1, o.1.2.2) = o.1 := rfl
    simp only [eo, eO, ← hP]
    obtain ⟨u, hu⟩ : ∃ u, l.getD a pc0 = u := ⟨_, rfl⟩
    have eu : l.getD (a : Int).toNat ((0, 0, 0), 0, 0) = u := hu
    try simp only [eu]
    have hfin : b ≤ a → posP l P = a := fun h => posP_at (by omega) h1 (fun hh => h2 a (by omega) hh)
    have hap : ∀ j k, j < k → k < l.length → pltC (l.getD j pc0).1 (l.getD k pc0).1 < 0 := (pw_getD pc0).1 hs
    (repeat' with_reducible first | refine And.intro ?_ ?_ | intro _) <;> try first | with_reducible (first | assumption | omega | contradiction) | decide
    all_goals first
     | (have hq : pltC o.1 P < 0 := by assumption
        refine fin_lp ⟨(m + 1, b), (by show m + 1 ≤ b; omega), hb, (fun k hk => ?_), h2⟩ ?_ (by dsimp only; omega)
        · have hk : k < m + 1 := hk
          by_cases e : k = m
          · rw [e, ho]; exact hq
          · exact pltC_cmp.trans _ _ _ (hap k m (by omega) (by omega)) (by rw [ho]; exact hq)
        · simp only [go_sem]
          try first | rfl | (and_intros <;> first | trivial | rfl | omega)
          done)
     | (have hq : ¬ pltC o.1 P < 0 := by assumption
        refine fin_lp ⟨(a, m), (by show a ≤ m; omega), (by show m ≤ l.length; omega), h1, (fun k hk hk2 => ?_)⟩ ?_ (by dsimp only; omega)
        · have hk : m ≤ k := hk
          by_cases e : k = m
          · rw [e, ho]; exact hq
          · intro hc
            exact hq (by rw [← ho]; exact pltC_cmp.trans _ _ _ (hap m k (by omega) hk2) hc)
        · simp only [go_sem]
          try first | rfl | (and_intros <;> first | trivial | rfl | omega)
          done)
     | (have e1 : u.1.1 = p1 ∧ u.1.2.1 = p2 ∧ u.1.2.2 = p3 ↔ u.1 = P := by rw [hP]; exact Iff.of_eq (pltE u.1 (p1, p2, p3))
        rw [hasP_pos hs, hfin (by omega), hu, Bool.eq_iff_iff]
        simp only [Bool.and_eq_true, decide_eq_true_eq, ← e1]
        omega)
     | (rw [hfin (by omega)])
     | fail)
def con67 : Con := { ps := [.d false (.sl yPC), .d false (.int .i64), .d true yPC], rs := [.d false (.sl yPC)], pre := fun (x : List Pce × Int × Pce × Unit) => 0 ≤ x.2.1 ∧ x.2.1 ≤ x.1.length ∧ x.1.length ≤ 100000, out := fun (x : List Pce × Int × Pce × Unit) => (x.1.take x.2.1.toNat ++ x.2.2.1 :: x.1.drop x.2.1.toNat, ()), nw := id }
theorem c67 : CtrOk Tryz.prog 67 con67.ctr :=
 con_sound (G := ⟨[], [], [], [], []⟩) tab_ok EnvOk.nil rfl Tryz.func67 rfl con67 231 (by kernel_rfl) (by decide) (by decide) rfl (by decide) rfl (by
  rintro ⟨(l : List Pce), (i : Int), ⟨⟨(a : Int), (b : Int), (c : Int)⟩, (d : Int), (e : Int)⟩, _⟩ hpre hwf X hT hG hk hK
  obtain ⟨h1, h2, h3⟩ : 0 ≤ i ∧ i ≤ l.length ∧ l.length ≤ 100000 := hpre
  (simp -implicitDefEqProofs only [go_sem, bP, con67, hT, hG, hk, hK, Tryz.results67] at hwf ⊢)
  clear hwf
  (repeat' with_reducible first | refine And.intro ?_ ?_ | intro _) <;> try first | with_reducible (first | assumption | omega | contradiction) | decide
  all_goals first
   | (rw [show ((l.length : Nat) : Int).toNat = l.length by omega, List.take_length]; simp; done)
   | (simp only [List.length_append, List.length_replicate, List.length_take, List.length_drop, List.length_cons, List.length_nil]; omega)
   | fail)
def con27 : Con := { ps := [.d true yCT, .d true yPC, .d false .bool], rs := [.d true yCT, .d false (.int .i64)], pre := fun (x : Cnt × Pce × Bool × Unit) => x.2.2.1 = false, out := fun (x : Cnt × Pce × Bool × Unit) => ((forceV x.1 x.2.1).1, (forceV x.1 x.2.1).2, ()), nw := id }
theorem c27 : CtrOk Tryz.prog 27 con27.ctr :=
 con_sound (G := ⟨[(62, con62.ctr), (63, con63.ctr), (64, con64.ctr), (67, con67.ctr), (65, con65.ctr), (66, con66.ctr)], [], [], [], []⟩) tab_ok (EnvOk.cons c62 has62 (EnvOk.cons c63 has63 (EnvOk.cons c64 has64 (EnvOk.cons c67 has67 (EnvOk.cons c65 has65 (EnvOk.cons c66 has66 EnvOk.nil)))))) rfl Tryz.func27 rfl con27 18446761685224034271 (by kernel_rfl) (by decide) (by decide) rfl (by decide) rfl (by
  rintro ⟨⟨(n : Int), ⟨a1, (a2 : Int), a3, (a4 : Int)⟩, (c : Int), (lm : Int), (t : Int), (p : Int), (r : Int), (l : List Pce)⟩, ⟨⟨(p1 : Int), (p2 : Int), (p3 : Int)⟩, (p4 : Int), (p5 : Int)⟩, (b : Bool), _⟩ hpre hwf X hT hG hk hK
  have hb : b = false := hpre
  subst hb
  (simp -implicitDefEqProofs only [go_sem, bP, con27, con62, con63, con64, con67, con65, con66, hT, hG, hk, hK, Tryz.results27] at hwf ⊢); (try simp (disch := decide +kernel) only [drawn, true_and, and_true])
  clear hwf
  obtain ⟨C, hC⟩ : ∃ C : Cnt, (n, (a1, a2, a3, a4), c, lm, t, p, r, l) = C := ⟨_, rfl⟩
  obtain ⟨x, hx⟩ : ∃ x : Pce, ((p1, p2, p3), p4, p5) = x := ⟨_, rfl⟩
  have hl : C.pcs = l := by rw [← hC]
  have hx1 : (p1, p2, p3) = x.1 := by rw [← hx]
  simp only [hC, hx]
  simp only [hx1]
  refine fun _ => ⟨fun h => ?_, fun h => ⟨fun h2 => ?_, fun h2 => ?_⟩⟩
  · have e : forceV C x = (ct0, ctErr C) := by unfold forceV; rw [if_pos h]
    rw [e]; (and_intros <;> rfl)
  · have e : forceV C x = (ct0, 1) := by unfold forceV; rw [if_neg (by simp [h]), if_pos h2]
    rw [e]; (and_intros <;> rfl)
  · obtain ⟨g1, g2, g3⟩ := ctErr_iff.1 h
    have hsl : PcSrt l := by rw [← hl]; exact g3.srt
    have hll : l.length ≤ 60 := by rw [← hl]; exact g2
    have hpl := posP_le l x.1
    (repeat' with_reducible first | refine And.intro ?_ ?_ | intro _) <;> try first | with_reducible (first | assumption | omega | contradiction) | decide
    all_goals first
     | exact hsl
     | (have hq : hasP l x.1 = true := by assumption
        have e : forceV C x = (ct0, 5) := by unfold forceV; rw [if_neg (by simp [h]), if_neg (by simp [h2]), if_pos (by rw [hl]; exact hq)]
        first | (rw [e]; done) | (rw [e]; rfl))
     | (have hq : hasP l x.1 = false := by assumption
        have hq2 : ((l.length : Nat) : Int) ≥ 60 := by assumption
        have e : forceV C x = (ct0, 2) := by unfold forceV; rw [if_neg (by simp [h]), if_neg (by simp [h2]), if_neg (by rw [hl, hq]; simp), if_pos (by rw [hl]; omega)]
        first | (rw [e]; done) | (rw [e]; rfl))
     | (have hq : hasP l x.1 = false := by assumption
        have hq2 : ¬ ((l.length : Nat) : Int) ≥ 60 := by assumption
        have e : forceV C x = (setPcs C (insP C.pcs x), 0) := by unfold forceV; rw [if_neg (by simp [h]), if_neg (by simp [h2]), if_neg (by rw [hl, hq]; simp), if_neg (by rw [hl]; omega)]
        first | (rw [e]; done) | (rw [e]; rfl) | (rw [e]; show _ = insP C.pcs x; rw [hl]; rfl) | (rw [e, ← hC]; rfl))
     | fail)
def con11 : Con := { ps := [.d true yCT, .d true yPC], rs := [.d true yCT, .d false (.int .i64)], pre := fun _ => True, out := fun (x : Cnt × Pce × Unit) => ((forceV x.1 x.2.1).1, (forceV x.1 x.2.1).2, ()), nw := id }
theorem c11 : CtrOk Tryz.prog 11 con11.ctr :=
 con_sound (G := ⟨[(27, con27.ctr)], [], [], [], []⟩) tab_ok (EnvOk.cons c27 has27 EnvOk.nil) rfl Tryz.func11 rfl con11 63 (by kernel_rfl) (by decide) (by decide) rfl (by decide) rfl (by
  rintro ⟨⟨(n : Int), ⟨a1, (a2 : Int), a3, (a4 : Int)⟩, (c : Int), (lm : Int), (t : Int), (p : Int), (r : Int), (l : List Pce)⟩, ⟨⟨(p1 : Int), (p2 : Int), (p3 : Int)⟩, (p4 : Int), (p5 : Int)⟩, _⟩ hpre hwf X hT hG hk hK
  (simp -implicitDefEqProofs only [go_sem, bP, con11, con27, hT, hG, hk, hK, Tryz.results11] at hwf ⊢))
def con10 : Con := { ps := [.d false (.sl yCT)], rs := [.o 31 yCT], pre := fun (x : List Cnt × Unit) => x.1.length ≤ 1000 ∧ ∀ o ∈ x.1, o.pcs.length ≤ 100000, out := fun (x : List Cnt × Unit) => (x.1, ()), nw := id }
theorem c10 : CtrOk Tryz.prog 10 con10.ctr :=
 con_sound (G := ⟨[], [], [], [], []⟩) tab_ok EnvOk.nil rfl Tryz.func10 rfl con10 573 (by kernel_rfl) (by decide) (by decide) rfl (by decide) rfl (by
  rintro ⟨(l : List Cnt), _⟩ hpre hwf X hT hG hk hK
  obtain ⟨hl, hlo⟩ : l.length ≤ 1000 ∧ ∀ o ∈ l, o.pcs.length ≤ 100000 := hpre
  (simp -implicitDefEqProofs only [go_sem, bP, con10, hT, hG, hk, hK, Tryz.results10] at hwf ⊢)
  clear hwf
  refine evk_loop ⟨{ i : Nat // i ≤ l.length }, 1000, fun q => [(0, .one (.sl yCT l false)), (3, .one (.row 64)), (4, .one (.int .i64 q.1))], fun q => [(64, .row 31 yCT (l.take q.1))], fun q => l.length - q.1⟩ ⟨0, Nat.zero_le _⟩ ?_ ?_
  · simp only [go_sem]
    try first | rfl | (and_intros <;> first | trivial | rfl | omega)
  · rintro ⟨i, (hi : i ≤ l.length)⟩
    (simp -implicitDefEqProofs only [go_sem, bP, con10, hT, hG, hk, hK, Tryz.results10])
    obtain ⟨o, ho⟩ : ∃ o, l.getD i ct0 = o := ⟨_, rfl⟩
    have eo : l.getD (i : Int).toNat (0, (ByteArray.empty, 0, ByteArray.empty, 0), 0, 0, 0, 0, 0, []) = o := ho
    try simp only [eo]
    have hts : i < l.length → l.take (i + 1) = l.take i ++ [o] := fun h => by rw [List.take_succ_eq_append_getElem h, ← getD_lt (d := ct0) h, ho]
    have htl : (l.take i).length ≤ l.length := by rw [List.length_take]; omega
    have hop : i < l.length → o.pcs.length ≤ 100000 := fun h => hlo o (by rw [← ho]; exact getD_mem h)
    (repeat' with_reducible first | refine And.intro ?_ ?_ | intro _) <;> try first | with_reducible (first | assumption | omega | contradiction) | decide
    all_goals first
     | (have e1 := hts (by omega)
        refine fin_lp ⟨i + 1, by omega⟩ ?_ (by dsimp only; omega)
        simp only [go_sem]
        rw [e1]
        try first | rfl | (and_intros <;> first | trivial | rfl | omega)
        done)
     | (rw [List.take_of_length_le (by omega)]; done)
     | (have h5 : List.length o.2.2.2.2.2.2.2 ≤ 100000 := hop (by omega)
        omega)
     | fail)
end Go.Proofs.YtpglcghgklmedaaGreat
