/- Part. -/
import Derived.Test.YtabadacjbkhmkaaGreatDoorEvFunToFun3
set_option linter.all false
namespace Go.Ev
section
variable {cx cx' : Cx} {σ σ' : Nat → Value} {N N' : Nat → Prop} {m m' : Mem} {w w' : World} {P : Program} {T : Tab}
/-! ### data moves to another context -/
theorem sB0 {O O' : Nat → Prop} : ∀ (t : Ty) (y : t.den) (vs : List Value), flat t = true → ro w O t y vs → ro w' O' t y vs
 | .int _, _, _, _, h => h
 | .bool, _, _, _, h => h
 | .str, _, _, _, h => h
 | .unit, _, _, _, h => h
 | .sl _, _, _, hf, _ => by cases hf
 | .pair a b, p, _, hf, ⟨c, d, e, h1, h2⟩ => by
   simp only [flat, Bool.and_eq_true] at hf; exact ⟨c, d, e, sB0 a p.1 c hf.1 h1, sB0 b p.2 d hf.2 h2⟩
def Mv (x y : Rx) (fl : Bool) : Prop := y.w = x.w ∧ (fl = true ∨ ∀ b, y.O b → x.O b)
theorem vC4 {x y : Rx} {t : Ty} {z : t.den} {vs : List Value} {fl : Bool} (h : Mv x y fl) (hf : fl = true → flat t = true) (hr : ro x.w x.O t z vs) : ro y.w y.O t z vs := by
 rcases h.2 with h1 | h1
 · exact sB0 t z vs (hf h1) hr
 · exact hA0 (keepsw h.1 h1) t z vs hr
theorem uA8 {x : Rx} : ∀ (t : Ty) (z : t.den) (vs : List Value), repCs x (expl t z) vs → ro x.w x.O t z vs
 | .int k, n, vs, h => by
   obtain ⟨v, r, rfl, h1, h2⟩ := repCs_cons.1 h
   rw [repCs_nil.1 h2]; unfold repC at h1; exact ⟨by rw [h1.1], h1.2⟩
 | .bool, b, vs, h => by
   obtain ⟨v, r, rfl, h1, h2⟩ := repCs_cons.1 h
   rw [repCs_nil.1 h2]; unfold repC at h1; rw [h1]; rfl
 | .str, s, vs, h => by
   obtain ⟨v, r, rfl, h1, h2⟩ := repCs_cons.1 h
   rw [repCs_nil.1 h2]; unfold repC at h1; exact ⟨by rw [h1.1], h1.2⟩
 | .unit, _, vs, h => repCs_nil.1 h
 | .sl t, xs, vs, h => by
   obtain ⟨v, r, rfl, h1, h2⟩ := repCs_cons.1 h
   rw [repCs_nil.1 h2]; unfold repC at h1; exact h1.1
 | .pair a b, p, vs, h => by
   have hl := jA0 _ _ h; have h1 := lA0 a.n _ _ h; have h2 := mA0 a.n _ _ h; simp only [expl] at h1 h2; rw [List.take_append_of_le_length (by rw [rA1]; omega), List.take_of_length_le (by rw [rA1]; omega)] at h1; rw [List.drop_append_of_le_length (by rw [rA1]; omega), List.drop_of_length_le (by rw [rA1]; omega), List.nil_append] at h2; exact ⟨_, _, (List.take_append_drop a.n vs).symm, uA8 a p.1 _ h1, uA8 b p.2 _ h2⟩
theorem nB0 {x y : Rx} {t : Ty} {z : t.den} {vs : List Value} {fl : Bool} (h : Mv x y fl) (hf : fl = true → flat t = true) (hr : repCs x (expl t z) vs) : repCs y (expl t z) vs :=
 vA0 t z vs (vC4 h hf (uA8 t z vs hr))
theorem uB2 {x y : Rx} {fl : Bool} (h : Mv x y fl) {kt vt : Ty} {ka va : Bool} (hf : fl = true → flat kt = true ∧ flat vt = true) : ∀ (l : List (kt.den × vt.den)) (es : List MapEntry), mapRep x kt vt ka va l es → mapRep y kt vt ka va l es
 | [], _, k => k
 | _ :: l, _, ⟨e, r, ks, vs, he, e1, k1, e2, k2, k3⟩ => ⟨e, r, ks, vs, he, e1, vC4 h (fun q => (hf q).1) k1, e2, vC4 h (fun q => (hf q).2) k2, uB2 h hf l r k3⟩
inductive Good (fl : Bool) : Blk → Prop
 | cells (e : TypeId) (t : Ty) (z : t.den) (h : fl = true → flat t = true) : Good fl (.cells e (expl t z))
 | row (e : TypeId) (t : Ty) (xs : List t.den) (h : fl = true → flat t = true) : Good fl (.row e t xs)
 | mapb (kt vt : Ty) (ka va : Bool) (l : List (kt.den × vt.den)) (h : fl = true → flat kt = true ∧ flat vt = true) : Good fl (.mapb kt vt ka va l)
 | dead : Good fl .dead
 | fb (e : TypeId) (g : FuncId) : Good fl (.cells e [.fn g []])
theorem gD1 {x y : Rx} {fl : Bool} (h : Mv x y fl) {i j : Nat} (hσ : y.σ j = x.σ i) {B : Blk} (hg : Good fl B) (hr : repB x i B) : repB y j B := by
 cases hg with
 | cells e t z hf =>
   obtain ⟨b, vs, e1, e2, e3, e4⟩ := hr
   exact ⟨b, vs, by rw [hσ]; exact e1, by rw [h.1]; exact e2, nB0 h hf e3, e4⟩
 | row e t xs hf =>
   obtain ⟨n, fl', e1, e2, e3⟩ := hr
   exact ⟨n, fl', e1, by rw [h.1, hσ]; exact e2, fA0 (fun z vs hz => vC4 h hf hz) _ _ e3⟩
 | mapb kt vt ka va l hf =>
   obtain ⟨r, es, cl, e1, e2, e3, e4⟩ := hr
   exact ⟨r, es, cl, by rw [hσ]; exact e1, by rw [h.1]; exact e2, uB2 h hf l _ e3, e4⟩
 | dead => trivial
 | fb e g =>
   obtain ⟨b, vs, e1, e2, e3, e4⟩ := hr; refine ⟨b, vs, by rw [hσ]; exact e1, by rw [h.1]; exact e2, ?_, e4⟩; obtain ⟨v, r, rfl, g1, g2⟩ := repCs_cons.1 e3; refine repCs_cons.2 ⟨v, r, rfl, ?_, by rw [repCs_nil.1 g2]; exact repCs_nil.2 rfl⟩; unfold repC at g1 ⊢; obtain ⟨us, k1, k2⟩ := g1; exact ⟨us, k1, by rw [repCs_nil.1 k2]; exact repCs_nil.2 rfl⟩
/-! ### the results -/
def flC (ps : List PK) (rs : List RK) : Bool := rs.all rflat && ps.all pflat
theorem uA9 {fl : Bool} : ∀ (ks : List RK) (y : rdens ks) (j : Nat), (fl = true → ks.all rflat = true) → (∀ p ∈ rheap j ks y, j ≤ p.1 ∧ p.1 < j + ks.length ∧ Good fl p.2 ∧ own p.2 = true) ∧ ((rheap j ks y).map (·.1)).Nodup
 | [], _, j, _ => ⟨fun p hp => by simp [rheap] at hp, by simp [rheap]⟩
 | k :: ks, y, j, hf => by
   have hf1 : fl = true → rflat k = true := fun h => by have := hf h; simp at this; exact this.1
   obtain ⟨h1, h2⟩ := uA9 (fl := fl) ks y.2 (j + 1) (fun h => by have := hf h; simp at this ⊢; exact this.2); have cons : ∀ b, Good fl b → own b = true → (∀ p ∈ (j, b) :: rheap (j + 1) ks y.2, j ≤ p.1 ∧ p.1 < j + (k :: ks).length ∧ Good fl p.2 ∧ own p.2 = true) ∧ (((j, b) :: rheap (j + 1) ks y.2).map (·.1)).Nodup := by
    intro b hb ho; refine ⟨fun p hp => ?_, ?_⟩
    · rcases List.mem_cons.1 hp with e | e
      · rw [e]; exact ⟨Nat.le_refl _, by simp, hb, ho⟩
      · have := h1 p e; exact ⟨by omega, by simp; omega, this.2.2⟩
    · rw [List.map_cons, List.nodup_cons]; refine ⟨fun hm => ?_, h2⟩; obtain ⟨p, hp, e⟩ := List.mem_map.1 hm; have := h1 p hp; omega
   cases k with
   | d ag t =>
     simp only [rheap, rblk]
     exact ⟨fun p hp => by have := h1 p hp; exact ⟨by omega, by simp; omega, this.2.2⟩, h2⟩
   | o e t => exact cons _ (.row e t _ hf1) rfl
   | p e t => exact cons _ (.cells e t _ hf1) rfl
   | cl g e t => exact cons _ (.cells e t _ hf1) rfl
   | mp kt vt ka va => exact cons _ (.mapb kt vt ka va _ (fun h => by have := hf1 h; simpa [rflat] using this)) rfl
theorem rB7 {fl : Bool} : ∀ (ks : List CapK) (y : cdens ks), (fl = true → ks.all cflat = true) → ∀ B ∈ capNbs ks y, Good fl B
 | [], _, _, B, hB => by cases hB
 | k :: ks, y, hf, B, hB => by
   have hf1 : fl = true → cflat k = true := fun h => by have := hf h; simp at this; exact this.1
   rcases List.mem_cons.1 hB with e | e
   · rw [e]
     cases k with
     | p e' t => exact .cells e' t _ hf1
     | fb e' g => exact .fb e' g
     | po e' t => exact .dead
     | bx => exact .dead
   · exact rB7 (fl := fl) ks y.2 (fun h => by have := hf h; simp at this ⊢; exact this.2) B e
theorem xC5 {fl : Bool} (k : PK) (y : k.den) (hf : fl = true → pflat k = true) : ∀ B ∈ nbl k y, Good fl B := by
 intro B hB
 cases k with
 | d ag t => cases hB
 | p e t => simp [nbl, pbl] at hB; rw [hB]; exact .cells e t _ hf
 | mp kt vt ka va => simp [nbl, pbl] at hB; rw [hB]; exact .mapb kt vt ka va _ (fun h => by have := hf h; simpa [pflat] using this)
 | o e t => simp [nbl, pbl] at hB; rw [hB]; exact .row e t _ hf
 | oc e t => simp [nbl] at hB; rw [hB]; exact .dead
 | pm t kt vt ka va => simp [nbl, pbl] at hB; rw [hB]; exact .mapb kt vt ka va _ (fun h => by have := hf h; simpa [pflat] using this)
 | nl => cases hB
 | bx => simp [nbl, pbl] at hB; rw [hB]; exact .dead
 | cl g ks => exact rB7 ks y hf B hB
theorem fB7 {fl : Bool} : ∀ (ks : List PK) (vs : List AV) (y : dens ks) (i : Nat), (fl = true → ks.all pflat = true) → ∀ t ∈ tri m nbl i ks vs y, Good fl t.2.2
 | [], _, _, _, _, t, ht => by simp [tri] at ht
 | _ :: _, [], _, _, _, t, ht => by simp [tri] at ht
 | k :: ks, v :: vs, y, i, hf, t, ht => by
   have hf1 : fl = true → pflat k = true := fun h => by have := hf h; simp at this; exact this.1
   have rest := fB7 (fl := fl) ks vs y.2 (i + 1) (fun h => by have := hf h; simp at this ⊢; exact this.2); simp only [tri, List.mem_append] at ht
   rcases ht with ht | ht
   · unfold zip3 at ht; exact xC5 k y.1 hf1 _ (List.of_mem_zip (List.of_mem_zip ht).2).2
   · exact rest t ht
theorem yB7 {x y : Rx} {fl : Bool} (h : Mv x y fl) {fr d : Nat} : ∀ (ks : List RK) (z : rdens ks) (i : Nat) (vs : List Value), (fl = true → ks.all rflat = true) → (∀ q, q < ks.length → ¬ y.N (fr + i + q) ∧ y.σ (fr + i + q) = x.σ (d + i + q)) →
 (∀ j v, (j, v) ∈ rslots i (d + i) ks z → j < vs.length ∧ repA x v (vs.getD j undef)) → i + ks.length = vs.length → repAs y (ravs (fr + i) ks z) (vs.drop i)
 | [], z, i, vs, _, _, _, hl => by
   simp only [ravs]; unfold repAs
   simp at hl; rw [List.drop_of_length_le (by omega)]
 | k :: ks, z, i, vs, hf, hN, hr, hl => by
   have hf1 : fl = true → rflat k = true := fun h => by have := hf h; simp at this; exact this.1
   have g1 := yB7 (d := d) h ks z.2 (i + 1) vs (fun h => by have := hf h; simp at this ⊢; exact this.2)
    (fun q hq => by have := hN (q + 1) (by simp; omega); rw [show fr + (i + 1) + q = fr + i + (q + 1) by omega, show d + (i + 1) + q = d + i + (q + 1) by omega]; exact this)
    (fun j v hv => hr j v (by simp only [rslots]; exact List.mem_cons_of_mem _ (by rw [show d + i + 1 = d + (i + 1) by omega]; exact hv))) (by simp at hl; omega)
   obtain ⟨hlt, h0⟩ := hr i (rav (d + i) k z.1) (by simp [rslots]); obtain ⟨hn, hs⟩ := hN 0 (by simp); simp only [Nat.add_zero] at hn hs; have e : vs.drop i = vs.getD i undef :: vs.drop (i + 1) := by
    rw [List.drop_eq_getElem_cons hlt]; simp [List.getD, hlt]
   have key : repA y (rav (fr + i) k z.1) (vs.getD i undef) := by
    cases k with
    | d ag t =>
      simp only [rav] at h0 ⊢; unfold avOf at h0 ⊢
      cases ag with
      | true =>
        simp only [if_true] at h0 ⊢; unfold repA at h0 ⊢; obtain ⟨us, e1, e2⟩ := h0
        exact ⟨us, e1, nB0 h hf1 e2⟩
      | false =>
        simp only [Bool.false_eq_true, if_false] at h0 ⊢; split at h0
        · rename_i c hc; unfold repA at h0 ⊢; have := nB0 (t := t) (z := z.1) h hf1 (vs := [vs.getD i undef]) (by rw [hc]; exact repCs_cons.2 ⟨_, _, rfl, h0, repCs_nil.2 rfl⟩); rw [hc] at this; obtain ⟨v, r, e1, e2, _⟩ := repCs_cons.1 this; cases e1; exact e2
        · rename_i hne
          unfold repA repC; trivial
    | o e' t =>
      simp only [rav] at h0 ⊢; unfold repA repC at h0 ⊢
      exact ⟨hn, by rw [hs]; exact h0.2⟩
    | p e' t =>
      simp only [rav] at h0 ⊢; unfold repA repC at h0 ⊢; obtain ⟨_, b, e1, e2⟩ := h0
      exact ⟨hn, b, by rw [hs]; exact e1, e2⟩
    | cl g e' t =>
      simp only [rav] at h0 ⊢; unfold repA repC at h0 ⊢; obtain ⟨us, e0, h0⟩ := h0; obtain ⟨v, r, e3, h0, h5⟩ := repCs_cons.1 h0; unfold repC at h0; obtain ⟨_, b, e1, e2⟩ := h0; refine ⟨us, e0, ?_⟩; rw [e3, repCs_nil.1 h5]; refine repCs_cons.2 ⟨v, [], rfl, ?_, repCs_nil.2 rfl⟩; unfold repC
      exact ⟨hn, b, by rw [hs]; exact e1, e2⟩
    | mp kt vt ka va =>
      simp only [rav] at h0 ⊢; unfold repA repC at h0 ⊢; exact ⟨hn, by rw [hs]; exact h0.2⟩
   rw [e]; simp only [ravs]; unfold repAs; exact ⟨_, _, rfl, key, by rw [show fr + i + 1 = fr + (i + 1) by omega]; exact g1⟩
def rvalid : List RK → Bool
 | [] => true
 | .d false t :: ks => decide (t.n = 1) && rvalid ks
 | _ :: ks => rvalid ks
theorem hC8 {x : Rx} : ∀ (ks : List RK) (z : rdens ks) (i j : Nat) (vs : List Value), rvalid ks = true → (∀ q v, (q, v) ∈ rslots i j ks z → repA x v (vs.getD q undef)) → (∀ p ∈ rheap j ks z, repB x p.1 p.2) → rwf ks z
 | [], _, _, _, _, _, _, _ => trivial
 | k :: ks, z, i, j, vs, hv, hr, hb => by
   have h0 := hr i (rav j k z.1) (by simp [rslots]); have rest : rvalid ks = true → rwf ks z.2 := fun hv' => hC8 ks z.2 (i + 1) (j + 1) vs hv' (fun q v hq => hr q v (by simp [rslots, hq])) (fun p hp => hb p (by simp only [rheap]; cases rblk k z.1 <;> simp [hp]))
   cases k with
   | d ag t =>
     simp only [rav, avOf] at h0
     cases ag with
     | true =>
       simp only [if_true] at h0; unfold repA at h0; obtain ⟨us, _, h1⟩ := h0
       exact ⟨wA5 t _ us (uA8 t _ us h1), rest hv⟩
     | false =>
       simp only [rvalid, Bool.and_eq_true, decide_eq_true_eq] at hv; have hl := rA1 t z.1; rw [hv.1] at hl
       match hx : expl t z.1, hl with
       | [c], _ =>
         simp only [hx, Bool.false_eq_true, if_false] at h0; unfold repA at h0
         exact ⟨wA5 t _ [vs.getD i undef] (uA8 t _ _ (by rw [hx]; exact repCs_cons.2 ⟨_, _, rfl, h0, repCs_nil.2 rfl⟩)), rest hv.2⟩
   | o e t =>
     have := hb (j, .row e t z.1) (by simp [rheap, rblk]); obtain ⟨n, fl, e1, e2, e3⟩ := this; refine ⟨⟨?_, fun y hy => ?_⟩, rest hv⟩
     · rcases e2.2 with ⟨g2, _⟩ | ⟨g, cap, cur, _, g1, g2, g3, g4, _⟩
       · show List.length z.1 ≤ _; rw [← e1, g2]; simp [maxLen]
       · show List.length z.1 ≤ _; omega
     · obtain ⟨c, hc⟩ := iA5 _ _ e3 y hy
       exact wA5 t y c hc
   | p e t =>
     have := hb (j, .cells e (expl t z.1)) (by simp [rheap, rblk]); obtain ⟨b, us, _, _, h1, _⟩ := this
     exact ⟨wA5 t _ us (uA8 t _ us h1), rest hv⟩
   | cl g e t =>
     have := hb (j, .cells e (expl t z.1)) (by simp [rheap, rblk]); obtain ⟨b, us, _, _, h1, _⟩ := this
     exact ⟨wA5 t _ us (uA8 t _ us h1), rest hv⟩
   | mp => exact ⟨trivial, rest hv⟩
end
end Go.Ev

namespace Go.Ev
theorem fB4 {x : Rx} : ∀ (aas : List AV) (vs : List Value), repAs x aas vs → vs.length = aas.length
 | [], _, h => by unfold repAs at h; rw [h]; rfl
 | a :: aas, _, h => by
   unfold repAs at h; obtain ⟨v, r, rfl, _, h2⟩ := h; simp [fB4 aas r h2]
theorem gB7 {x : Rx} {aas : List AV} {vs : List Value} (h : repAs x aas vs) : repA x (pack aas) (packV vs) := by
 have hl := fB4 _ _ h
 match aas, vs, hl with
 | [a], [v], _ =>
   unfold repAs at h; obtain ⟨v', r, e, h1, _⟩ := h; cases e
   exact h1
 | [], [], _ => simp only [pack, packV]; unfold repA; exact ⟨[], rfl, h⟩
 | a :: b :: aas, v :: u :: vs, _ => simp only [pack, packV]; unfold repA; exact ⟨_, rfl, h⟩
 | [a], [], hl => simp at hl
 | [a], _ :: _ :: _, hl => simp at hl
 | [], _ :: _, hl => simp at hl
 | _ :: _ :: _, [], hl => simp at hl
 | _ :: _ :: _, [_], hl => simp at hl
theorem aC9 {L : List (Nat × Nat × Blk)} (hn : (L.map (·.1)).Nodup) {i id : Nat} {b : Blk} (h : (i, id, b) ∈ L) : mem (L.map (fun t => (t.1, t.2.2))) i = b :=
 jA4 (by rw [List.map_map]; exact hn) (List.mem_map.2 ⟨_, h, rfl⟩)
theorem zD0 {L : List (Nat × Nat × Blk)} {i : Nat} (h : mem (L.map (fun t => (t.1, t.2.2))) i ≠ .dead) : ∃ id, (i, id, mem (L.map (fun t => (t.1, t.2.2))) i) ∈ L := by
 rcases gA2 (d := Blk.dead) (L.map (fun t => (t.1, t.2.2))) i with e | e
 · exact absurd e h
 · obtain ⟨⟨j, id, b⟩, ht, e2⟩ := List.mem_map.1 e; simp only [Prod.mk.injEq] at e2; obtain ⟨e3, e4⟩ := e2; subst e3; refine ⟨id, ?_⟩; have : mem (L.map (fun t => (t.1, t.2.2))) j = b := e4.symm; rw [this]; exact ht
theorem mem_append {a b : Heap} {i : Nat} (h : ∀ p ∈ a, p.1 ≠ i) : mem (a ++ b) i = mem b i := by
 unfold mem; rw [sA1, sA1, kA2]; have : findL a i = none := by
  cases hf : findL a i with
  | none => rfl
  | some v => exact absurd rfl (h _ (jA1 hf))
 rw [this]; rfl
theorem mem_append_left {a b : Heap} {i : Nat} (h : ∀ p ∈ b, p.1 ≠ i) : mem (a ++ b) i = mem a i := by
 unfold mem; rw [sA1, sA1, kA2]; have : findL b i = none := by
  cases hf : findL b i with
  | none => rfl
  | some v => exact absurd rfl (h _ (jA1 hf))
 rw [this]; simp
theorem eA5 (j : Nat) : ∀ (ks : List RK) (z : rdens ks) (d : Nat), rheap (j + d) ks z = (rheap d ks z).map (fun p => (j + p.1, p.2))
 | [], _, _ => rfl
 | k :: ks, z, d => by
   have := eA5 j ks z.2 (d + 1); simp only [rheap]
   cases rblk k z.1 with
   | none => simp only; rw [← this]; rfl
   | some b => simp only [List.map_cons]; rw [← this]; rfl
theorem kA4 (c : Nat) {l : List Nat} (h : l.Nodup) : (l.map (c + ·)).Nodup := by
 unfold List.Nodup at *; rw [List.pairwise_map]; exact h.imp (fun hne e => hne (by omega))
theorem fA9 : ∀ (ks : List RK) (z : rdens ks) (i d j : Nat) (v : AV), (j, v) ∈ rslots i d ks z → i ≤ j ∧ j < i + ks.length
 | k :: ks, z, i, d, j, v, h => by
   simp only [rslots] at h
   rcases List.mem_cons.1 h with e | e
   · cases e; simp
   · have := fA9 ks z.2 (i + 1) (d + 1) j v e; simp; omega
theorem aB0 : ∀ (ks : List RK) (z : rdens ks) (i d j : Nat) (v : AV), (j, v) ∈ rslots i d ks z → sget (rslots i d ks z) j = v
 | k :: ks, z, i, d, j, v, h => by
   simp only [rslots] at h ⊢
   rcases List.mem_cons.1 h with e | e
   · cases e; simp [sget, getL]
   · have := fA9 ks z.2 (i + 1) (d + 1) j v e; have h2 := aB0 ks z.2 (i + 1) (d + 1) j v e; simp only [sget, getL] at h2 ⊢; rw [if_neg (by omega)]; exact h2
section
variable {P : Program} {T : Tab} {G : Env}
theorem eB9 {cx : Cx} {σ : Nat → Value} {N : Nat → Prop} {m : Mem} {A B : World} {row : Option Nat} (g1 : A.grownBy B row) (g3 : ∀ r, row = some r → ∃ o : Obj, A.heap[r]? = some o ∧ o.isCells = false) (mk : List Nat) : Rx.Keeps (rx cx σ N m A) (rx { cx with mks := mk } σ N m B) := by
 refine ⟨⟨fun bb hb1 hb2 => ⟨hb2, fun o ho hc => ?_⟩⟩, fun _ _ => rfl, fun _ h => h⟩; have hb1 : bb < A.heap.size := hb1; have ho : A.heap[bb]? = some o := ho; refine (g1.block bb hb1 fun e => ?_).trans ho; obtain ⟨o', e1, e2⟩ := g3 bb e.symm; rw [ho] at e1; cases e1; rw [hc] at e2; cases e2
theorem lA6 {cx : Cx} {σ : Nat → Value} {N : Nat → Prop} {s : Nat → AV} {m : Mem} {n : Nat} {P : Program} {fn : Func} {R : Ending → World → Prop} {a : Act} : ∀ (mk : List Nat) (w : World), RepF { cx with mks := mk } σ N s m n a w → MkOk cx mk →
 (∀ w', RepF { cx with mks := [] } σ N s m n ⟨a.tmps, []⟩ w' → LeavesIn Fence.wide 3 P fn a.tmps R [] .returning w') → LeavesInM Fence.wide 3 P fn a.tmps R a.defers .returning w := by
 intro mk w h hmk hend; rw [h.df]
 have h0 : RepF { cx with mks := mk } σ N s m n ⟨a.tmps, mk.map markD⟩ w := ⟨h.mm, h.ss, rfl, h.sz, h.fx⟩; clear h; show LeavesInM Fence.wide 3 P fn a.tmps R (mk.map markD) .returning w
 induction mk generalizing w with
 | nil => exact hend w h0
 | cons D mk ih =>
   have hD := h0.mm.mks D List.mem_cons_self; have hlt := (Array.getElem?_eq_some_iff.1 hD).1; have hnd := List.nodup_cons.1 hmk.1; refine ⟨(fun e => by cases e), .inl ⟨D, w.putObj D (.deferred none), rfl, run_takeDeferred hD, ih _ ⟨hnd.2, fun D' h' => hmk.2 D' (List.mem_cons_of_mem _ h')⟩ ?_⟩⟩; have hg := grownBy_putObj' w D (.deferred none); have hr : ∀ r, some D = some r → cx.w0.heap.size ≤ r ∧ ∃ o : Obj, w.heap[r]? = some o ∧ o.isCells = false := fun r e => by cases e; exact ⟨hmk.2 D List.mem_cons_self, _, hD, rfl⟩
   refine ⟨h0.mm.grow hg (Nat.le_refl _) (fun id ho b hb e => ?_) hr mk (fun D' hD' => ?_), fun i => ?_, rfl, h0.sz, h0.fx⟩
   · cases e; obtain ⟨o', e3, e4⟩ := qB6 (h0.mm.blk id) ho _ hb; have e3 : w.heap[D]? = some o' := e3; rw [hD] at e3; cases e3; cases e4
   · have hne : D' ≠ D := fun e => hnd.1 (e ▸ hD'); rw [World.putObj_heap_other hne]; exact h0.mm.mks D' (List.mem_cons_of_mem _ hD')
   · exact pA0 (eB9 hg (fun r e => (hr r e).2) mk) _ _ (h0.ss i)
theorem fB1 (ht : TabOK P T) (hm : P.follows .mixedOrders = true) {f : FuncId} {fn : Func} {c : Code} (hf : P.funcs[f]? = some fn) (hb : fn.body = some c) (ps : List PK) (rs : List RK) (ks : Nat)
 (hfine : fineC fn.ntmps c = true) (hn : pcOk ps = true) (hn2 : ps.length ≤ fn.ntmps) (hr : rs.length = fn.results.size) (hr4 : fn.results.size ≤ 4) (hv : rvalid rs = true)
 {cx : Cx} (hG : EnvD cx.D cx.gv P G) {σ : Nat → Value} {N : Nat → Prop} {m : Mem} {w : World} {fr : Nat} {avs : List AV} {vs : List Value} (hM : RepM cx σ N m w) (hfr : ∀ id, fr ≤ id → id < fr + 32 → N id) (hreps : repAs (rx cx σ N m w) avs vs) {x : dens ps} (hrd : rds m ps avs = some x) (hnd : okIds (pids m ps avs) (rws m ps avs))
 {Φ : rdens rs → dens ps → Prop} (h : pwf ps x → ∀ X : Wk, X.T = T → X.G = G → X.ks = ks → X.K = postR ps rs T fn.results.toList Φ → evk X c (pslots 0 ps x) (pheap 0 ps x) 32 []) :
 Calls P f vs.toArray w fun e w' => ∃ u, e = .returned u ∧ ∃ y z, Φ y z ∧ Res cx σ N m w fr ⟨True, pack (ravs fr rs y), updC ps rs avs m fr y z, rwf rs y⟩ u w' := by
 have hwf := vC7 hM ps avs x vs hrd hreps; obtain ⟨tq1, tq2, _, pq1, pq2, pown⟩ := wC0 pbl (.inl rfl) ps 0 avs x x hrd; simp only [pcOk, Bool.and_eq_true, decide_eq_true_eq, List.all_eq_true] at hn; have fstn : ((ptrs m 0 ps avs).map (·.1)).Nodup := by rw [pq1]; exact hn.1
 have sndn : ((ptrs m 0 ps avs).map (·.2)).Nodup := by rw [pq2]; exact hnd.1
 have hdis := List.all_eq_true.1 hnd.2; generalize hvw : rws m ps avs = vw at *; have hrow := hvw ▸ eB0 ps avs x hrd
 let fp : Nat → Option Nat := fun i => findL (ptrs m 0 ps avs) i
 have fp_mem : ∀ i id, fp i = some id ↔ (i, id) ∈ ptrs m 0 ps avs := fun i id => ⟨jA1, yA3 _ _ _ fstn⟩; have fp_lt : ∀ i id, fp i = some id → i < 32 := fun i id hi => hn.2 i (by rw [← pq1]; exact List.mem_map.2 ⟨_, (fp_mem i id).1 hi, rfl⟩); have fp_pid : ∀ i id, fp i = some id → id ∈ pids m ps avs := fun i id hi => by rw [← pq2]; exact List.mem_map.2 ⟨_, (fp_mem i id).1 hi, rfl⟩
 have fp_own : ∀ i id, fp i = some id → own (m id) = true := fun i id hi => pown id (fp_pid i id hi); have fp_inj : ∀ i j id, fp i = some id → fp j = some id → i = j := fun i j id hi hj => by
  have h1 := (fp_mem i id).1 hi; have h2 := (fp_mem j id).1 hj; clear fp_mem fp_lt fp_pid fp_own; generalize ptrs m 0 ps avs = l at *; clear hi hj fstn tq1 pq1 pq2
  induction l with
  | nil => cases h1
  | cons p l ih =>
    rw [List.map_cons, List.nodup_cons] at sndn
    rcases List.mem_cons.1 h1 with e1 | e1 <;> rcases List.mem_cons.1 h2 with e2 | e2
    · rw [← e1] at e2; cases e2; rfl
    · rw [← e1] at sndn; exact absurd (List.mem_map.2 ⟨_, e2, rfl⟩) sndn.1
    · rw [← e2] at sndn; exact absurd (List.mem_map.2 ⟨_, e1, rfl⟩) sndn.1
    · exact ih sndn.2 e1 e2
 have fp_vw : ∀ i id, fp i = some id → id ∉ vw := fun i id hi hmem => by
  have := hdis id (fp_pid i id hi); rw [List.contains_iff_mem.2 hmem] at this; cases this
 let σ1 : Nat → Value := fun i => match fp i with | some id => σ id | none => σ 0
 have σ1_of : ∀ i id, fp i = some id → σ1 i = σ id := fun i id hi => by simp only [σ1, hi]
 let cx1 : Cx := ⟨w, fun b => cx.F b ∨ ∃ id, own (m id) = true ∧ Go.Ev.hb (σ id) b ∧ id ∉ vw ∧ ∀ i, fp i ≠ some id, fun b => ∃ id i, own (m id) = true ∧ Go.Ev.hb (σ id) b ∧ fp i = some id, 32, σ1, [], fun _ => none, cx.D, cx.gv⟩
 have hu : ∀ id, updM m (vw.map (settle m)) id = if id ∈ vw then (settle m id).2 else m id := fun id => zA0 m vw m id (fun i _ => .inl rfl)
 obtain ⟨hM2, k2⟩ := hM.settles vw; have tn : ((tri m pbl 0 ps avs x).map (·.1)).Nodup := by
  have := fstn; rw [tq1, List.map_map] at this; exact this
 have fp_of : ∀ t ∈ tri m pbl 0 ps avs x, fp t.1 = some t.2.1 := fun t ht => (fp_mem _ _).2 (by rw [tq1]; exact List.mem_map.2 ⟨t, ht, rfl⟩); have ph_mem : ∀ i, mem (pheap 0 ps x) i ≠ .dead → ∃ id, (i, id, mem (pheap 0 ps x) i) ∈ tri m pbl 0 ps avs x ∧ fp i = some id := fun i hi => by
  rw [show pheap 0 ps x = _ from tq2] at hi ⊢; obtain ⟨id, hid⟩ := zD0 hi; exact ⟨id, hid, fp_of _ hid⟩
 let x1 : Rx := rx cx1 σ1 (From 32) (mem (pheap 0 ps x)) w
 have hO : ∀ b, x1.O b → Owned cx σ (updM m (vw.map (settle m))) b := by
  rintro b ((hb | ⟨id, h1, h2, h3, _⟩) | ⟨i, h1, h2⟩)
  · exact .inl hb
  · exact .inr ⟨id, by rw [hu, if_neg h3]; exact h1, h2⟩
  · obtain ⟨id, h3, h4⟩ := ph_mem i (fun e => by rw [e] at h1; cases h1); exact .inr ⟨id, by rw [hu, if_neg (fp_vw i id h4)]; exact fp_own i id h4, by rw [← σ1_of i id h4]; exact h2⟩
 have hpt : ∀ j id, (j, id) ∈ ptrs m 0 ps avs → x1.σ j = σ id ∧ ¬ x1.N j := fun j id hj => by
  have hf := (fp_mem j id).2 hj; refine ⟨σ1_of j id hf, fun hN => ?_⟩; have := fp_lt j id hf; unfold x1 rx From at hN; simp only at hN; omega
 have hgl1 : GlOk cx1 := by
  refine hM.gl_next rfl rfl ?_ ?_
  · intro b hb
    rcases hb with k1 | ⟨jd, k1, k2, _, _⟩
    · exact .inl k1
    · exact .inr ⟨jd, k1, k2⟩
  · rintro b ⟨jd, _, k1, k2, _⟩; exact ⟨jd, k1, k2⟩
 have hM1 : RepM cx1 σ1 (From 32) (mem (pheap 0 ps x)) w := by
  refine ⟨fun i => ?_, fun i hi => ?_, fun i j b ho ho' hb hb' => ?_, fun i b ho hb => ?_, fun i b ho hb => ?_, ⟨rfl, rfl, rfl, fun _ => Nat.le_refl _, Nat.le_refl _, fun _ _ _ => rfl⟩, fun b hb => ?_, fun i => ?_, fun i hi => ⟨fun hN => by unfold From at hN; exact absurd hi (by simp only [cx1]; omega), rfl⟩, (fun _ hD => by cases hD), hgl1⟩
  · by_cases hd : mem (pheap 0 ps x) i = .dead
    · rw [hd]; trivial
    · obtain ⟨id, h3, h4⟩ := ph_mem i hd; exact zB3 hM vw x1 rfl hO ps avs x 0 hrd (fun id hid => by rw [← hvw]; exact hid) (fun j id hj => (hpt j id hj).1) _ h3
  · by_cases hd : mem (pheap 0 ps x) i = .dead
    · exact hd
    · obtain ⟨id, h3, h4⟩ := ph_mem i hd; have := fp_lt i id h4; unfold From at hi; omega
  · obtain ⟨id, h3, h4⟩ := ph_mem i (fun e => by rw [e] at ho; cases ho); obtain ⟨jd, g3, g4⟩ := ph_mem j (fun e => by rw [e] at ho'; cases ho'); rw [σ1_of i id h4] at hb; rw [σ1_of j jd g4] at hb'; have := hM.inj id jd b (fp_own i id h4) (fp_own j jd g4) hb hb'; subst this; exact fp_inj i j id h4 g4
  · obtain ⟨id, h3, h4⟩ := ph_mem i (fun e => by rw [e] at ho; cases ho); rw [σ1_of i id h4] at hb; rintro (k1 | ⟨jd, k1, k2, _, k4⟩)
    · exact hM.notF id b (fp_own i id h4) hb k1
    · have := hM.inj id jd b (fp_own i id h4) k1 hb k2; subst this; exact k4 i h4
  · obtain ⟨id, h3, h4⟩ := ph_mem i (fun e => by rw [e] at ho; cases ho); rw [σ1_of i id h4] at hb; exact .inr ⟨id, i, fp_own i id h4, hb, h4⟩
  · rcases hb with k1 | ⟨jd, k1, k2, _, _⟩
    · exact hM.hF b k1
    · exact xA3 (hM.blk jd) k1 b k2
  · simp only [σ1]; split
    · exact hM.hone _
    · exact hM.hone 0
 obtain ⟨hlen, hslot⟩ := sA9 hM vw x1 rfl hO ps avs x vs 0 hrd (fun id hid => by rw [← hvw]; exact hid) hreps hpt; have hF1 : RepF cx1 σ1 (From 32) (sget (pslots 0 ps x)) (mem (pheap 0 ps x)) fn.ntmps { tmps := vs.toArray ++ Array.replicate (fn.ntmps - vs.toArray.size) undef, defers := [] } w := by
  refine ⟨hM1, fun i => ?_, rfl, by simp; omega, fun i v hv => by cases hv⟩
  rcases gA2 (d := AV.one .undef) (pslots 0 ps x) i with e | e
  · unfold sget; rw [e]; unfold repA repC; trivial
  · obtain ⟨q, e1, e2⟩ := hslot i _ e; have : q = i := by omega
    subst this; have ee : (vs.toArray ++ Array.replicate (fn.ntmps - vs.toArray.size) undef).getD q undef = vs.getD q undef := by
     rw [Array.getD_eq_getD_getElem?, List.getD_eq_getElem?_getD]; by_cases hq : q < vs.length
     · rw [Array.getElem?_append_left (by simpa using hq)]; simp
     · rw [Array.getElem?_append_right (by simp; omega), List.getElem?_eq_none (by omega)]; simp [Array.getElem?_replicate]; split <;> rfl
    show repA x1 _ _; simp only; rw [ee]; exact e2
 refine callsIn_wide.1 (callsIn_of_wp_marks (F := Fence.wide) (n := 3) hf hb trivial ?_); have hevk := h hwf ⟨T, G, ks, postR ps rs T fn.results.toList Φ⟩ rfl rfl rfl rfl; refine uA2 ht hG hm c cx1 Fence.wide 3 ⟨pslots 0 ps x, pheap 0 ps x, 32⟩ _ _ _ w σ1 ⟨rfl, rfl⟩ (Nat.le_refl _) (.inl rfl) (.inl ⟨rfl, rfl, fun _ => rfl⟩) hfine ⟨List.nodup_nil, fun _ hD => by cases hD⟩ hevk hF1 (fun e st a1 w1 σ' mk hK hmk _ h1 => ?_); have hend : ∀ (a : Act) (w' : World) (h' : RepF cx1 σ' (From st.fr) (sget st.s) (mem st.m) fn.ntmps a w'), (rvP T st.s (mem st.m) fn.results.toList ∧ ∃ y z, Φ y z ∧ entR ps rs T fn.results.toList st y z) →
  ∃ v, (results fn a.tmps).run P w' = .ok v w' ∧ ∃ u, Ending.returned v = Ending.returned u ∧ ∃ y z, Φ y z ∧ Res cx σ N m w fr ⟨True, pack (ravs fr rs y), updC ps rs avs m fr y z, rwf rs y⟩ u w' := by
  rintro a w' h' ⟨hrv, y, z, hΦ, hent⟩; unfold entR at hent; obtain ⟨nq1, nq2, nq3, _, _, _⟩ := wC0 nbl (.inr rfl) ps 0 avs x z hrd; have nq3 := nq3 rfl; have tn' : ((tri m nbl 0 ps avs z).map (·.1)).Nodup := by
   have := fstn; rw [nq1, List.map_map] at this; exact this
  have fp_of' : ∀ t ∈ tri m nbl 0 ps avs z, fp t.1 = some t.2.1 := fun t ht => (fp_mem _ _).2 (by rw [nq1]; exact List.mem_map.2 ⟨t, ht, rfl⟩); obtain ⟨us, hul, hrun, hus⟩ := xC7 ht h' fn hrv hr4; refine ⟨packV us, hrun, packV us, rfl, y, z, hΦ, ?_⟩; obtain ⟨σ2, hM3, hs3, hO3⟩ := h'.mm.ent (Nat.le_refl _) hent (fun j => us.getD j undef) (fun j => by
   rcases gA2 (d := AV.one .undef) (rvS T st.s (mem st.m) 0 fn.results.toList) j with e | e
   · unfold sget; rw [e]; unfold repA repC; trivial
   · exact (hus j _ e).2)
  generalize hH : nheap 0 ps z ++ rheap 32 rs y = H at *
  let U1 : Heap := if (flC ps rs) then [] else vw.map (settle m)
  let mA : Mem := updM m U1
  have hA : RepM cx σ N mA w ∧ Rx.Keeps (rx cx σ N m w) (rx cx σ N mA w) := by
   simp only [mA, U1]; split
   · exact ⟨hM, ⟨Keep.refl _ _, fun _ _ => rfl, fun _ h => h⟩⟩
   · exact ⟨hM2, k2⟩
  obtain ⟨hA, kA⟩ := hA; have mA_out : ∀ id, id ∉ vw → mA id = m id := fun id hid => by
   simp only [mA, U1]; split
   · rfl
   · rw [hu, if_neg hid]
  have mA_vw : (flC ps rs) = false → ∀ id, id ∈ vw → own (mA id) = false := fun hfl id hid => by
   simp only [mA, U1, hfl, Bool.false_eq_true, if_false]; rw [hu, if_pos hid]; obtain ⟨u, xs, e | ⟨e', e⟩⟩ := hrow id hid <;> simp [settle, e, own]
  have fresh_vw : ∀ id, N id → id ∉ vw := fun id hn hid => by
   have h1 := hM.fresh id hn; obtain ⟨u, xs, e | ⟨e', e⟩⟩ := hrow id hid <;> rw [h1] at e <;> cases e
  have fresh_fp : ∀ id i, N id → fp i ≠ some id := fun id i hn hi => by
   have h1 := hM.fresh id hn; have h2 := fp_own i id hi; rw [h1] at h2; cases h2
  obtain ⟨rg0, rn0⟩ := uA9 (fl := (flC ps rs)) rs y 0 (fun h => by simp only [flC, Bool.and_eq_true] at h; exact h.1); have rs32 : rheap 32 rs y = (rheap 0 rs y).map (fun p => (32 + p.1, p.2)) := eA5 32 rs y 0; have rsfr : rheap fr rs y = (rheap 0 rs y).map (fun p => (fr + p.1, p.2)) := eA5 fr rs y 0; have rsl : rs.length ≤ 4 := by omega
  let M : Mem := updM m (updC ps rs avs m fr y z)
  have hMe : M = updM (updM mA ((tri m nbl 0 ps avs z).map (·.2))) (rheap fr rs y) := by
   simp only [M, updC]; rw [yA0, yA0, nq3, hvw]; rfl
  have sndn' : (((tri m nbl 0 ps avs z).map (·.2)).map (·.1)).Nodup := by
   have := sndn; rw [nq1, List.map_map] at this; rw [List.map_map]; exact this
  have hkeysfr : ∀ p ∈ rheap fr rs y, fr ≤ p.1 ∧ p.1 < fr + 32 := fun p hp => by
   rw [rsfr] at hp; obtain ⟨q, hq, e⟩ := List.mem_map.1 hp; have := rg0 q hq; rw [← e]; simp only; omega
  have M2 : ∀ i id, fp i = some id → M id = mem H i ∧ Good (flC ps rs) (mem H i) := fun i id hi => by
   have h1 := (fp_mem i id).1 hi; rw [nq1] at h1; obtain ⟨t, ht, e⟩ := List.mem_map.1 h1; have e1 : t.1 = i := by cases e; rfl
   have e2 : t.2.1 = id := by cases e; rfl
   have hlt := fp_lt i id hi; have g1 : M id = t.2.2 := by
    rw [hMe, uA0 _ _ _ (fun p hp e => by have := hkeysfr p hp; exact fresh_fp id i (hfr id (by omega) (by omega)) hi)]; exact jA3 sndn' (List.mem_map.2 ⟨t, ht, by rw [← e2]⟩)
   have g2 : mem H i = t.2.2 := by
    rw [← hH, mem_append_left (fun p hp => by
     rw [rs32] at hp; obtain ⟨q, hq, e⟩ := List.mem_map.1 hp; rw [← e]; simp only; omega), show nheap 0 ps z = _ from nq2]
    exact aC9 tn' (id := t.2.1) (by rw [← e1]; exact ht)
   exact ⟨g1.trans g2.symm, by rw [g2]; exact fB7 ps avs z 0 (fun h => by simp only [flC, Bool.and_eq_true] at h; exact h.2) t ht⟩
  have M1 : ∀ q, q < 32 → M (fr + q) = mem H (32 + q) ∧ (mem H (32 + q) ≠ .dead → Good (flC ps rs) (mem H (32 + q))) := fun q hq => by
   have hN : N (fr + q) := hfr _ (by omega) (by omega); have hb : updM mA ((tri m nbl 0 ps avs z).map (·.2)) (fr + q) = .dead := by
    rw [uA0 _ _ _ (fun p hp e => by
     obtain ⟨t, ht, e2⟩ := List.mem_map.1 hp; exact fresh_fp (fr + q) t.1 hN (by rw [← e, ← e2]; exact fp_of' t ht)), mA_out _ (fresh_vw _ hN)]
    exact hM.fresh _ hN
   have hHq : mem H (32 + q) = mem (rheap 32 rs y) (32 + q) := by
    rw [← hH, mem_append (fun p hp => by
     rw [show nheap 0 ps z = _ from nq2] at hp; obtain ⟨t, ht, e⟩ := List.mem_map.1 hp; have := fp_lt _ _ (fp_of' t ht); rw [← e]; simp only; omega)]
   by_cases hex : ∃ b, (q, b) ∈ rheap 0 rs y
   · obtain ⟨b, hqb⟩ := hex; have g1 : M (fr + q) = b := by
      rw [hMe]; refine jA3 ?_ (by rw [rsfr]; exact List.mem_map.2 ⟨_, hqb, rfl⟩); rw [rsfr, List.map_map]; have : ((rheap 0 rs y).map ((fun x => x.1) ∘ fun p => (fr + p.1, p.2))) = ((rheap 0 rs y).map (·.1)).map (fr + ·) := by rw [List.map_map]; rfl
      rw [this]; exact kA4 _ rn0
     have g2 : mem (rheap 32 rs y) (32 + q) = b := by
      refine jA4 ?_ (by rw [rs32]; exact List.mem_map.2 ⟨_, hqb, rfl⟩); rw [rs32, List.map_map]; have : ((rheap 0 rs y).map ((fun x => x.1) ∘ fun p => (32 + p.1, p.2))) = ((rheap 0 rs y).map (·.1)).map (32 + ·) := by rw [List.map_map]; rfl
      rw [this]; exact kA4 _ rn0
     exact ⟨by rw [g1, hHq, g2], fun _ => by rw [hHq, g2]; exact (rg0 _ hqb).2.2.1⟩
   · have g2 : mem (rheap 32 rs y) (32 + q) = .dead := by
      refine iB8 fun p hp e => hex ?_; rw [rs32] at hp; obtain ⟨r, hr, e2⟩ := List.mem_map.1 hp; refine ⟨r.2, ?_⟩; have : r.1 = q := by rw [← e2] at e; simp only at e; omega
      rw [← this]; exact hr
     refine ⟨?_, fun hne => absurd (hHq.trans g2) hne⟩; rw [hHq, g2, hMe, uA0 _ _ _ (fun p hp e => hex ?_)]
     · exact hb
     · rw [rsfr] at hp; obtain ⟨r, hr, e2⟩ := List.mem_map.1 hp; refine ⟨r.2, ?_⟩; have : r.1 = q := by rw [← e2] at e; simp only at e; omega
       rw [← this]; exact hr
  have M3 : ∀ id, (∀ i, fp i ≠ some id) → ¬ (fr ≤ id ∧ id < fr + 32) → M id = mA id := fun id h1 h2 => by
   rw [hMe, uA0 _ _ _ (fun p hp e => h2 (by rw [← e]; exact hkeysfr p hp)), uA0 _ _ _ (fun p hp e => by
    obtain ⟨t, ht, e2⟩ := List.mem_map.1 hp; exact h1 t.1 (by rw [← e, ← e2]; exact fp_of' t ht))]
  let σf : Nat → Value := fun id => if fr ≤ id ∧ id < fr + 32 then σ2 (32 + (id - fr)) else σ id
  have σf_new : ∀ q, q < 32 → σf (fr + q) = σ2 (32 + q) := fun q hq => by
   simp only [σf]; rw [if_pos ⟨by omega, by omega⟩]; congr 1; omega
  have σf_old : ∀ id, ¬ (fr ≤ id ∧ id < fr + 32) → σf id = σ id := fun id hid => by simp only [σf]; rw [if_neg hid]
  have σ2_fp : ∀ i id, fp i = some id → σ2 i = σ id := fun i id hi => by
   have := fp_lt i id hi; have h1 := (hM3.fix i (by simp only [cx1]; omega)).2; rw [h1]; exact σ1_of i id hi
  have fp_new : ∀ i id, fp i = some id → ¬ (fr ≤ id ∧ id < fr + 32) := fun i id hi hh => fresh_fp id i (hfr id hh.1 hh.2) hi; have tchd : ∀ id, ((∃ i, fp i = some id) ∨ (fr ≤ id ∧ id < fr + 32)) → ∃ k, M id = mem H k ∧ σf id = σ2 k ∧ (mem H k ≠ .dead → Good (flC ps rs) (mem H k)) ∧ (fp k = some id ∨ (32 ≤ k ∧ id = fr + (k - 32) ∧ k < 64)) := by
   rintro id (⟨i, hi⟩ | ⟨h1, h2⟩)
   · obtain ⟨g1, g2⟩ := M2 i id hi; exact ⟨i, g1, by rw [σf_old id (fp_new i id hi), σ2_fp i id hi], fun _ => g2, .inl hi⟩
   · obtain ⟨q, rfl⟩ : ∃ q, id = fr + q := ⟨id - fr, by omega⟩; obtain ⟨g1, g2⟩ := M1 q (by omega); exact ⟨32 + q, g1, σf_new q (by omega), g2, .inr ⟨by omega, by omega, by omega⟩⟩
  have hev := hM3.evo; have stp := hA.stepD (σ' := σf) (N' := Nx N fr) (m' := M) (w' := w') (fun id => (∃ i, fp i = some id) ∨ (fr ≤ id ∧ id < fr + 32)) (fun id hid => hid.1)
   (fun id hid => by
     rw [M3 id (fun i hi => fresh_fp id i hid.1 hi) hid.2, mA_out id (fresh_vw id hid.1)]; exact hM.fresh id hid.1)
   (fun id hid => ⟨M3 id (fun i hi => hid (.inl ⟨i, hi⟩)) (fun h => hid (.inr h)), σf_old id (fun h => hid (.inr h))⟩)
   (fun id hid => σf_old id (fun h => hid (hfr id h.1 h.2)))
   (fun b hb hno => hev.block b hb (fun ⟨id, i, h1, h2, h3⟩ => hno id (.inl ⟨i, h3⟩) (by rw [mA_out id (fp_vw i id h3)]; exact h1) h2))
   ⟨hev.size, hev.drawn⟩ hev.os hev.tape hev.output
   (fun id b hid ho hb => by
     obtain ⟨k, e1, e2, e3, e4⟩ := tchd id hid; rw [e1] at ho; rw [e2] at hb
     rcases hM3.low k b ho hb with h1 | ⟨jd, i, h1, h2, h3⟩
     · exact .inl h1
     · exact .inr ⟨jd, .inl ⟨i, h3⟩, by rw [mA_out jd (fp_vw i jd h3)]; exact h1, h2⟩)
   (fun id id' b hid hid' ho ho' hb hb' => by
     obtain ⟨k, e1, e2, e3, e4⟩ := tchd id hid; obtain ⟨k', g1, g2, g3, g4⟩ := tchd id' hid'; rw [e1] at ho; rw [e2] at hb; rw [g1] at ho'; rw [g2] at hb'; have := hM3.inj k k' b ho ho' hb hb'; subst this
     rcases e4 with e4 | e4 <;> rcases g4 with g4 | g4
     · rw [e4] at g4; cases g4; rfl
     · have := fp_lt k id e4; omega
     · have := fp_lt k id' g4; omega
     · omega)
   (fun id hid => by
     obtain ⟨k, e1, e2, e3, e4⟩ := tchd id hid; rw [e2]; exact hM3.hone k)
  have mv : Mv (rx cx1 σ2 (From 64) (mem H) w') (rx cx σf (Nx N fr) M w') (flC ps rs) := by
   refine ⟨rfl, ?_⟩
   cases hfl : (flC ps rs) with
   | true => exact .inl rfl
   | false =>
     right; rintro b (hb | ⟨id, ho, hb⟩)
     · exact .inl (.inl hb)
     · by_cases ht : (∃ i, fp i = some id) ∨ (fr ≤ id ∧ id < fr + 32)
       · obtain ⟨k, e1, e2, e3, e4⟩ := tchd id ht; exact .inr ⟨k, by rw [← e1]; exact ho, by rw [← e2]; exact hb⟩
       · have e1 := M3 id (fun i hi => ht (.inl ⟨i, hi⟩)) (fun h => ht (.inr h)); have e2 := σf_old id (fun h => ht (.inr h)); rw [e1] at ho; rw [e2] at hb; have hv : id ∉ vw := fun hid => by rw [mA_vw hfl id hid] at ho; cases ho
         rw [mA_out id hv] at ho; exact .inl (.inr ⟨id, ho, hb, hv, fun i hi => ht (.inl ⟨i, hi⟩)⟩)
  obtain ⟨hMf, kf⟩ := stp (fun hk id hid => by
   obtain ⟨k, e1, e2, e3, e4⟩ := tchd id hid; rw [e1]; by_cases hd : mem H k = .dead
   · rw [hd]; trivial
   · exact gD1 mv e2 (e3 hd) (hM3.blk k))
  have hs4 : ∀ j v, (j, v) ∈ rslots 0 32 rs y → repA (rx cx1 σ2 (From 64) (mem H) w') v (us.getD j undef) := fun j v hjv => by
   have := hs3 j; rw [aB0 rs y 0 32 j v hjv] at this; exact this
  refine ⟨σf, hMf, ?_, ?_, ?_⟩
  · refine ⟨kA.k.trans kf.k (Nat.le_refl _), fun id hid => kf.σ id hid, fun id hid => hid.1⟩
  · refine gB7 ?_; have := yB7 (x := rx cx1 σ2 (From 64) (mem H) w') (y := rx cx σf (Nx N fr) M w') mv (fr := fr) (d := 32) rs y 0 us (fun h => by simp only [flC, Bool.and_eq_true] at h; exact h.1)
     (fun q hq => ⟨fun hN => hN.2 ⟨by omega, by omega⟩, by simp only [Nat.add_zero, rx]; exact σf_new q (by omega)⟩)
     (fun j v hjv => ⟨by have := fA9 rs y 0 32 j v hjv; omega, hs4 j v hjv⟩) (by omega)
    simpa using this
  · refine hC8 (x := rx cx1 σ2 (From 64) (mem H) w') rs y 0 32 us hv hs4 (fun p hp => ?_); have hHp : mem H p.1 = p.2 := by
     rw [← hH, mem_append (fun q hq => by
      rw [show nheap 0 ps z = _ from nq2] at hq; obtain ⟨t, ht, e⟩ := List.mem_map.1 hq; have := fp_lt _ _ (fp_of' t ht); have h32 : 32 ≤ p.1 := by
       rw [rs32] at hp; obtain ⟨r, _, e2⟩ := List.mem_map.1 hp; rw [← e2]; simp
      rw [← e]; simp only; omega)]
     refine jA4 ?_ hp; rw [rs32, List.map_map]; have : ((rheap 0 rs y).map ((fun x => x.1) ∘ fun p => (32 + p.1, p.2))) = ((rheap 0 rs y).map (·.1)).map (32 + ·) := by rw [List.map_map]; rfl
     rw [this]; exact kA4 _ rn0
    rw [← hHp]; exact hM3.blk p.1
 have hleave := fun (hp : rvP T st.s (mem st.m) fn.results.toList ∧ ∃ y z, Φ y z ∧ entR ps rs T fn.results.toList st y z) =>
  lA6 (P := P) (fn := fn) (R := fun e w' => ∃ u, e = .returned u ∧ ∃ y z, Φ y z ∧ Res cx σ N m w fr ⟨True, pack (ravs fr rs y), updC ps rs avs m fr y z, rwf rs y⟩ u w') mk w1 h1 hmk (fun w2 h2 => hend ⟨a1.tmps, []⟩ w2 h2 hp)
 cases e with
 | exit id => exact hK.elim
 | normal => exact hleave hK
 | ret => exact hleave hK
theorem aA0 (ht : TabOK P T) (hG : EnvOk P G) (hm : P.follows .mixedOrders = true) {f : FuncId} {fn : Func} {c : Code} (hf : P.funcs[f]? = some fn) (hb : fn.body = some c) (C : Con) (ks : Nat)
 (hfine : fineC fn.ntmps c = true) (hn : pcOk C.ps = true) (hn2 : C.ps.length ≤ fn.ntmps) (hr : C.rs.length = fn.results.size) (hr4 : fn.results.size ≤ 4) (hv : rvalid C.rs = true)
 (h : ∀ x, C.pre x → pwf C.ps x → ∀ X : Wk, X.T = T → X.G = G → X.ks = ks → X.K = C.post T fn.results.toList x → evk X c (pslots 0 C.ps x) (pheap 0 C.ps x) 32 []) : CtrOk P f C.ctr := by
 intro D gv hDS cx hcd σ N m w fr avs vs hM hfr hreps hp; unfold Con.ctr Con.effO at hp ⊢
 cases hrd : rds m C.ps avs with
 | none => rw [hrd] at hp; exact hp.elim
 | some x =>
   rw [hrd] at hp; simp only at hp ⊢; split at hp
   case isFalse => exact hp.elim
   rename_i hnd; rw [if_pos hnd]; refine (fB1 ht hm hf hb C.ps C.rs ks hfine hn hn2 hr hr4 hv (hcd.1.symm ▸ hcd.2.symm ▸ hG.at_ hDS) hM hfr hreps hrd hnd (Φ := fun y z => y = C.out x ∧ z = C.nw x) (fun hwf X hT hX hk hK => h x hp hwf X hT hX hk ?_)).mono fun e w' ⟨u, he, y, z, ⟨hy, hz⟩, hres⟩ => ⟨u, he, ?_⟩
   · rw [hK]; funext e st; unfold postR Con.post; have key : (∃ y z, (y = C.out x ∧ z = C.nw x) ∧ entR C.ps C.rs T fn.results.toList st y z) = entR C.ps C.rs T fn.results.toList st (C.out x) (C.nw x) := by
      apply propext; constructor
      · rintro ⟨y, z, ⟨rfl, rfl⟩, he⟩; exact he
      · exact fun he => ⟨_, _, ⟨rfl, rfl⟩, he⟩
     cases e with
     | exit => rfl
     | _ => simp only [key]
   · subst hy; subst hz; exact hres
theorem iA6 (ht : TabOK P T) (hG : EnvOk P G) (hm : P.follows .mixedOrders = true) {f : FuncId} {fn : Func} {c : Code} (hf : P.funcs[f]? = some fn) (hb : fn.body = some c) (C : RCon) (ks : Nat)
 (hfine : fineC fn.ntmps c = true) (hn : pcOk C.ps = true) (hn2 : C.ps.length ≤ fn.ntmps) (hr : C.rs.length = fn.results.size) (hr4 : fn.results.size ≤ 4) (hv : rvalid C.rs = true)
 (h : ∀ x, C.pre x → pwf C.ps x → ∀ X : Wk, X.T = T → X.G = G → X.ks = ks → X.K = C.post T fn.results.toList x → evk X c (pslots 0 C.ps x) (pheap 0 C.ps x) 32 []) : RCtrOk P f C.rctr := by
 intro D gv hDS cx hcd σ N m w fr avs vs hM hfr hreps hp; unfold RCon.rctr RCon.chcO at hp ⊢
 cases hrd : rds m C.ps avs with
 | none => rw [hrd] at hp; exact hp.elim
 | some x =>
   rw [hrd] at hp; simp only at hp ⊢; split at hp
   case isFalse => exact hp.elim
   rename_i hnd; rw [if_pos hnd]; refine (fB1 ht hm hf hb C.ps C.rs ks hfine hn hn2 hr hr4 hv (hcd.1.symm ▸ hcd.2.symm ▸ hG.at_ hDS) hM hfr hreps hrd hnd (Φ := C.rel x) (fun hwf X hT hX hk hK => h x hp hwf X hT hX hk hK)).mono fun e w' ⟨u, he, y, z, hr, hres⟩ => ⟨u, he, (y, z), ?_⟩; obtain ⟨σ', g1, g2, g3, g4⟩ := hres; exact ⟨σ', g1, g2, g3, hr, g4⟩
end
end Go.Ev

namespace Go.Ev
inductive IK where
 | row (e : TypeId) (t : Ty) | map (kt vt : Ty) (ka va : Bool)
@[reducible] def IK.den : IK → Type
  | .row _ t => List t.den
  | .map kt vt _ _ => List (kt.den × vt.den)
def IK.blk : (k : IK) → k.den → Blk
 | .row e t, xs => .row e t xs
 | .map kt vt ka va, l => .mapb kt vt ka va l
def IK.c : IK → Nat → C1
 | .row _ _, i => .row i
 | .map _ _ _ _, i => .map i
def IK.rd : (k : IK) → Blk → Option k.den
 | .row e t, b => rdRow t e b
 | .map kt vt ka va, b => rdMap kt vt ka va b
def IK.fl : IK → Bool
 | .row _ t => flat t
 | .map kt vt _ _ => flat kt && flat vt
def IK.inn : IK → C1 → Option Nat
 | .row _ _, .row r => some r
 | .map _ _ _ _, .map r => some r
 | _, _ => none
def inB (k : IK) (e : TypeId) : Blk → Option Nat
 | .cells e' [c] => if e' = e then k.inn c else none
 | _ => none
def bxC : List CapK → List C1 → Option Nat
 | .bx :: _, .loc id 0 :: _ => some id
 | _ :: ks, _ :: cs => bxC ks cs
 | _, _ => none
def bxA : PK → AV → Option Nat
 | .bx, .one (.loc id 0) => some id
 | .cl _ ks, .one (.fn _ caps) => bxC ks caps
 | _, _ => none
def bxO : Option Nat → Option Nat → Option Nat
 | some i, _ => some i
 | none, o => o
def bxs : List PK → List AV → Option Nat
 | k :: ks, v :: vs => bxO (bxA k v) (bxs ks vs)
 | _, _ => none
structure BCon where
 ps : List PK
 rs : List RK
 e : TypeId
 k : IK
 pre : dens ps → k.den → Prop
 out : dens ps → k.den → rdens rs
 nw : dens ps → k.den → dens ps
 nx : dens ps → k.den → k.den
def updX (k : IK) (ps : List PK) (rs : List RK) (avs : List AV) (m : Mem) (fr : Nat) (y : rdens rs) (z : dens ps) : Heap :=
 (if (rs.all rflat && ps.all pflat) && k.fl then [] else (rws m ps avs).map (settle m)) ++ (pupd m ps avs z ++ rheap fr rs y)
def updB (k : IK) (e : TypeId) (ps : List PK) (rs : List RK) (avs : List AV) (m : Mem) (fr : Nat) (b r : Nat) (y : rdens rs) (z : dens ps) (q : k.den) : Heap :=
 updX k ps rs avs m fr y z ++ [(r, .dead), (b, .cells e [k.c (fr + 16)]), (fr + 16, k.blk q)]
def BCon.eff (C : BCon) (avs : List AV) (m : Mem) (fr b r : Nat) (x : dens C.ps) (z : C.k.den) : Eff :=
 ⟨C.pre x z, pack (ravs fr C.rs (C.out x z)), updB C.k C.e C.ps C.rs avs m fr b r (C.out x z) (C.nw x z) (C.nx x z), rwf C.rs (C.out x z)⟩
def BCon.effZ (C : BCon) (avs : List AV) (m : Mem) (fr b r : Nat) : Option C.k.den → Option (dens C.ps) → Eff
 | some z, some x => if okIds (r :: pids m C.ps avs) (rws m C.ps avs) then C.eff avs m fr b r x z else bad
 | _, _ => bad
def BCon.effR (C : BCon) (avs : List AV) (m : Mem) (fr b : Nat) : Option Nat → Eff
 | some r => C.effZ avs m fr b r (C.k.rd (m r)) (rds m C.ps avs)
 | none => bad
def BCon.effB (C : BCon) (avs : List AV) (m : Mem) (fr : Nat) : Option Nat → Eff
 | some b => C.effR avs m fr b (inB C.k C.e (m b))
 | none => bad
def BCon.ctr (C : BCon) : Ctr := fun avs m fr => C.effB avs m fr (bxs C.ps avs)
def bheap (k : IK) (e : TypeId) (z : k.den) (ps : List PK) (x : dens ps) : Heap := (31, .cells e [k.c 32]) :: (32, k.blk z) :: pheap 0 ps x
def bnheap (k : IK) (e : TypeId) (z : k.den) (ps : List PK) (rs : List RK) (y : rdens rs) (x : dens ps) : Heap := (31, .cells e [k.c 48]) :: (48, k.blk z) :: (nheap 0 ps x ++ rheap 32 rs y)
def entB (k : IK) (e : TypeId) (ps : List PK) (rs : List RK) (T : Tab) (rv : List ResultVar) (st : St) (y : rdens rs) (x : dens ps) (z : k.den) : Prop :=
 ent (rvS T st.s (mem st.m) 0 rv) (mem st.m) 64 (rslots 0 32 rs y) (bnheap k e z ps rs y x)
def BCon.post (C : BCon) (T : Tab) (rv : List ResultVar) (x : dens C.ps) (z : C.k.den) : Ex → St → Prop := fun e st =>
 match e with
 | .exit _ => False
 | _ => rvP T st.s (mem st.m) rv ∧ entB C.k C.e C.ps C.rs T rv st (C.out x z) (C.nw x z) (C.nx x z)
section
variable {P : Program} {T : Tab} {G : Env}
end
end Go.Ev
