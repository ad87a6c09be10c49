/- A body's walk gives a contract. -/
import Derived.Test.YtdmgmdppejopcaaEvFun3
set_option linter.unusedSimpArgs false
set_option linter.unusedVariables false
namespace Go.Ev

section
variable {cx cx' : Cx} {σ σ' : Nat → Value} {N N' : Nat → Prop} {m m' : Mem} {w w' : World} {P : Program} {T : Tab}

/-! ### data moves to another context -/

theorem ro_flat {O O' : Nat → Prop} : ∀ (t : Ty) (y : t.den) (vs : List Value), flat t = true → ro w O t y vs → ro w' O' t y vs
  | .int _, _, _, _, h => h
  | .bool, _, _, _, h => h
  | .str, _, _, _, h => h
  | .unit, _, _, _, h => h
  | .sl _, _, _, hf, _ => by cases hf
  | .pair a b, p, _, hf, ⟨c, d, e, h1, h2⟩ => by
    simp only [flat, Bool.and_eq_true] at hf
    exact ⟨c, d, e, ro_flat a p.1 c hf.1 h1, ro_flat b p.2 d hf.2 h2⟩

/-- Either no memory is behind it, or whoever doesn't own it can tell. -/
def Mv (x y : Rx) (fl : Bool) : Prop := y.w = x.w ∧ (fl = true ∨ ∀ b, y.O b → x.O b)

theorem ro_mv {x y : Rx} {t : Ty} {z : t.den} {vs : List Value} {fl : Bool} (h : Mv x y fl) (hf : fl = true → flat t = true) (hr : ro x.w x.O t z vs) : ro y.w y.O t z vs := by
  rcases h.2 with h1 | h1
  · exact ro_flat t z vs (hf h1) hr
  · exact ro_keep (keepsw h.1 h1) t z vs hr

theorem rep_ro {x : Rx} : ∀ (t : Ty) (z : t.den) (vs : List Value), repCs x (expl t z) vs → ro x.w x.O t z vs
  | .int k, n, vs, h => by
    obtain ⟨v, r, rfl, h1, h2⟩ := repCs_cons.1 h
    rw [repCs_nil.1 h2]; unfold repC at h1; exact ⟨by rw [h1.1], h1.2⟩
  | .bool, b, vs, h => by
    obtain ⟨v, r, rfl, h1, h2⟩ := repCs_cons.1 h
    rw [repCs_nil.1 h2]; unfold repC at h1; rw [h1]; rfl
  | .str, s, vs, h => by
    obtain ⟨v, r, rfl, h1, h2⟩ := repCs_cons.1 h
    rw [repCs_nil.1 h2]; unfold repC at h1; exact ⟨by rw [h1.1], h1.2⟩
  | .unit, _, vs, h => repCs_nil.1 h
  | .sl t, xs, vs, h => by
    obtain ⟨v, r, rfl, h1, h2⟩ := repCs_cons.1 h
    rw [repCs_nil.1 h2]; unfold repC at h1; exact h1.1
  | .pair a b, p, vs, h => by
    have hl := repCs_len _ _ h
    have h1 := repCs_take a.n _ _ h
    have h2 := repCs_drop a.n _ _ h
    simp only [expl] at h1 h2
    rw [List.take_append_of_le_length (by rw [expl_len]; omega), List.take_of_length_le (by rw [expl_len]; omega)] at h1
    rw [List.drop_append_of_le_length (by rw [expl_len]; omega), List.drop_of_length_le (by rw [expl_len]; omega), List.nil_append] at h2
    exact ⟨_, _, (List.take_append_drop a.n vs).symm, rep_ro a p.1 _ h1, rep_ro b p.2 _ h2⟩

theorem repCs_mv {x y : Rx} {t : Ty} {z : t.den} {vs : List Value} {fl : Bool} (h : Mv x y fl) (hf : fl = true → flat t = true) (hr : repCs x (expl t z) vs) : repCs y (expl t z) vs :=
  expl_rep t z vs (ro_mv h hf (rep_ro t z vs hr))

theorem mapRep_mv {x y : Rx} {fl : Bool} (h : Mv x y fl) {kt vt : Ty} {ka va : Bool} (hf : fl = true → flat kt = true ∧ flat vt = true) : ∀ (l : List (kt.den × vt.den)) (es : List MapEntry), mapRep x kt vt ka va l es → mapRep y kt vt ka va l es
  | [], _, k => k
  | _ :: l, _, ⟨e, r, ks, vs, he, e1, k1, e2, k2, k3⟩ => ⟨e, r, ks, vs, he, e1, ro_mv h (fun q => (hf q).1) k1, e2, ro_mv h (fun q => (hf q).2) k2, mapRep_mv h hf l r k3⟩

/-- A result's block, or a parameter's. -/
inductive Good (fl : Bool) : Blk → Prop
  | cells (e : TypeId) (t : Ty) (z : t.den) (h : fl = true → flat t = true) : Good fl (.cells e (expl t z))
  | row (e : TypeId) (t : Ty) (xs : List t.den) (h : fl = true → flat t = true) : Good fl (.row e t xs)
  | mapb (kt vt : Ty) (ka va : Bool) (l : List (kt.den × vt.den)) (h : fl = true → flat kt = true ∧ flat vt = true) : Good fl (.mapb kt vt ka va l)
  | dead : Good fl .dead
  | fb (e : TypeId) (g : FuncId) : Good fl (.cells e [.fn g []])

theorem repB_mv {x y : Rx} {fl : Bool} (h : Mv x y fl) {i j : Nat} (hσ : y.σ j = x.σ i) {B : Blk} (hg : Good fl B) (hr : repB x i B) : repB y j B := by
  cases hg with
  | cells e t z hf =>
    obtain ⟨b, vs, e1, e2, e3, e4⟩ := hr
    exact ⟨b, vs, by rw [hσ]; exact e1, by rw [h.1]; exact e2, repCs_mv h hf e3, e4⟩
  | row e t xs hf =>
    obtain ⟨n, fl', e1, e2, e3⟩ := hr
    exact ⟨n, fl', e1, by rw [h.1, hσ]; exact e2, roAll_mono (fun z vs hz => ro_mv h hf hz) _ _ e3⟩
  | mapb kt vt ka va l hf =>
    obtain ⟨r, es, cl, e1, e2, e3⟩ := hr
    exact ⟨r, es, cl, by rw [hσ]; exact e1, by rw [h.1]; exact e2, mapRep_mv h hf l _ e3⟩
  | dead => trivial
  | fb e g =>
    obtain ⟨b, vs, e1, e2, e3, e4⟩ := hr
    refine ⟨b, vs, by rw [hσ]; exact e1, by rw [h.1]; exact e2, ?_, e4⟩
    obtain ⟨v, r, rfl, g1, g2⟩ := repCs_cons.1 e3
    refine repCs_cons.2 ⟨v, r, rfl, ?_, by rw [repCs_nil.1 g2]; exact repCs_nil.2 rfl⟩
    unfold repC at g1 ⊢
    obtain ⟨us, k1, k2⟩ := g1
    exact ⟨us, k1, by rw [repCs_nil.1 k2]; exact repCs_nil.2 rfl⟩

/-! ### the results -/

def flC (ps : List PK) (rs : List RK) : Bool := rs.all rflat && ps.all pflat

theorem rheap_spec {fl : Bool} : ∀ (ks : List RK) (y : rdens ks) (j : Nat), (fl = true → ks.all rflat = true) → (∀ p ∈ rheap j ks y, j ≤ p.1 ∧ p.1 < j + ks.length ∧ Good fl p.2 ∧ own p.2 = true) ∧ ((rheap j ks y).map (·.1)).Nodup
  | [], _, j, _ => ⟨fun p hp => by simp [rheap] at hp, by simp [rheap]⟩
  | k :: ks, y, j, hf => by
    have hf1 : fl = true → rflat k = true := fun h => by have := hf h; simp at this; exact this.1
    obtain ⟨h1, h2⟩ := rheap_spec (fl := fl) ks y.2 (j + 1) (fun h => by have := hf h; simp at this ⊢; exact this.2)
    have cons : ∀ b, Good fl b → own b = true → (∀ p ∈ (j, b) :: rheap (j + 1) ks y.2, j ≤ p.1 ∧ p.1 < j + (k :: ks).length ∧ Good fl p.2 ∧ own p.2 = true) ∧ (((j, b) :: rheap (j + 1) ks y.2).map (·.1)).Nodup := by
      intro b hb ho
      refine ⟨fun p hp => ?_, ?_⟩
      · rcases List.mem_cons.1 hp with e | e
        · rw [e]; exact ⟨Nat.le_refl _, by simp, hb, ho⟩
        · have := h1 p e
          exact ⟨by omega, by simp; omega, this.2.2⟩
      · rw [List.map_cons, List.nodup_cons]
        refine ⟨fun hm => ?_, h2⟩
        obtain ⟨p, hp, e⟩ := List.mem_map.1 hm
        have := h1 p hp
        omega
    cases k with
    | d ag t =>
      simp only [rheap, rblk]
      exact ⟨fun p hp => by have := h1 p hp; exact ⟨by omega, by simp; omega, this.2.2⟩, h2⟩
    | o e t => exact cons _ (.row e t _ hf1) rfl
    | p e t => exact cons _ (.cells e t _ hf1) rfl
    | mp kt vt ka va => exact cons _ (.mapb kt vt ka va _ (fun h => by have := hf1 h; simpa [rflat] using this)) rfl

theorem cap_good {fl : Bool} : ∀ (ks : List CapK) (y : cdens ks), (fl = true → ks.all cflat = true) → ∀ B ∈ capBlks ks y, Good fl B
  | [], _, _, B, hB => by cases hB
  | k :: ks, y, hf, B, hB => by
    have hf1 : fl = true → cflat k = true := fun h => by have := hf h; simp at this; exact this.1
    rcases List.mem_cons.1 hB with e | e
    · rw [e]
      cases k with
      | p e' t => exact .cells e' t _ hf1
      | fb e' g => exact .fb e' g
    · exact cap_good (fl := fl) ks y.2 (fun h => by have := hf h; simp at this ⊢; exact this.2) B e

theorem nbl_good {fl : Bool} (k : PK) (y : k.den) (hf : fl = true → pflat k = true) : ∀ B ∈ nbl k y, Good fl B := by
  intro B hB
  cases k with
  | d ag t => cases hB
  | p e t => simp [nbl, pbl] at hB; rw [hB]; exact .cells e t _ hf
  | mp kt vt ka va => simp [nbl, pbl] at hB; rw [hB]; exact .mapb kt vt ka va _ (fun h => by have := hf h; simpa [pflat] using this)
  | o e t => simp [nbl, pbl] at hB; rw [hB]; exact .row e t _ hf
  | oc e t => simp [nbl] at hB; rw [hB]; exact .dead
  | cl g ks => exact cap_good ks y hf B hB

theorem tri_good {fl : Bool} : ∀ (ks : List PK) (vs : List AV) (y : dens ks) (i : Nat), (fl = true → ks.all pflat = true) → ∀ t ∈ tri nbl i ks vs y, Good fl t.2.2
  | [], _, _, _, _, t, ht => by simp [tri] at ht
  | _ :: _, [], _, _, _, t, ht => by simp [tri] at ht
  | k :: ks, v :: vs, y, i, hf, t, ht => by
    have hf1 : fl = true → pflat k = true := fun h => by have := hf h; simp at this; exact this.1
    have rest := tri_good (fl := fl) ks vs y.2 (i + 1) (fun h => by have := hf h; simp at this ⊢; exact this.2)
    simp only [tri, List.mem_append] at ht
    rcases ht with ht | ht
    · unfold zip3 at ht
      exact nbl_good k y.1 hf1 _ (List.of_mem_zip (List.of_mem_zip ht).2).2
    · exact rest t ht

/-- The results, in the caller's eyes. -/
theorem ravs_rep {x y : Rx} {fl : Bool} (h : Mv x y fl) {fr d : Nat} : ∀ (ks : List RK) (z : rdens ks) (i : Nat) (vs : List Value), (fl = true → ks.all rflat = true) → (∀ q, q < ks.length → ¬ y.N (fr + i + q) ∧ y.σ (fr + i + q) = x.σ (d + i + q)) →
    (∀ j v, (j, v) ∈ rslots i (d + i) ks z → j < vs.length ∧ repA x v (vs.getD j undef)) → i + ks.length = vs.length → repAs y (ravs (fr + i) ks z) (vs.drop i)
  | [], z, i, vs, _, _, _, hl => by
    simp only [ravs]
    unfold repAs
    simp at hl; rw [List.drop_of_length_le (by omega)]
  | k :: ks, z, i, vs, hf, hN, hr, hl => by
    have hf1 : fl = true → rflat k = true := fun h => by have := hf h; simp at this; exact this.1
    have g1 := ravs_rep (d := d) h ks z.2 (i + 1) vs (fun h => by have := hf h; simp at this ⊢; exact this.2)
      (fun q hq => by have := hN (q + 1) (by simp; omega); rw [show fr + (i + 1) + q = fr + i + (q + 1) by omega, show d + (i + 1) + q = d + i + (q + 1) by omega]; exact this)
      (fun j v hv => hr j v (by simp only [rslots]; exact List.mem_cons_of_mem _ (by rw [show d + i + 1 = d + (i + 1) by omega]; exact hv))) (by simp at hl; omega)
    obtain ⟨hlt, h0⟩ := hr i (rav (d + i) k z.1) (by simp [rslots])
    obtain ⟨hn, hs⟩ := hN 0 (by simp)
    simp only [Nat.add_zero] at hn hs
    have e : vs.drop i = vs.getD i undef :: vs.drop (i + 1) := by
      rw [List.drop_eq_getElem_cons hlt]; simp [List.getD, hlt]
    have key : repA y (rav (fr + i) k z.1) (vs.getD i undef) := by
      cases k with
      | d ag t =>
        simp only [rav] at h0 ⊢
        unfold avOf at h0 ⊢
        cases ag with
        | true =>
          simp only [if_true] at h0 ⊢
          unfold repA at h0 ⊢
          obtain ⟨us, e1, e2⟩ := h0
          exact ⟨us, e1, repCs_mv h hf1 e2⟩
        | false =>
          simp only [Bool.false_eq_true, if_false] at h0 ⊢
          split at h0
          · rename_i c hc
            unfold repA at h0 ⊢
            have := repCs_mv (t := t) (z := z.1) h hf1 (vs := [vs.getD i undef]) (by rw [hc]; exact repCs_cons.2 ⟨_, _, rfl, h0, repCs_nil.2 rfl⟩)
            rw [hc] at this
            obtain ⟨v, r, e1, e2, _⟩ := repCs_cons.1 this
            cases e1; exact e2
          · rename_i hne
            unfold repA repC; trivial
      | o e' t =>
        simp only [rav] at h0 ⊢
        unfold repA repC at h0 ⊢
        exact ⟨hn, by rw [hs]; exact h0.2⟩
      | p e' t =>
        simp only [rav] at h0 ⊢
        unfold repA repC at h0 ⊢
        obtain ⟨_, b, e1, e2⟩ := h0
        exact ⟨hn, b, by rw [hs]; exact e1, e2⟩
      | mp kt vt ka va =>
        simp only [rav] at h0 ⊢
        unfold repA repC at h0 ⊢
        exact ⟨hn, by rw [hs]; exact h0.2⟩
    rw [e]
    simp only [ravs]
    unfold repAs
    exact ⟨_, _, rfl, key, by rw [show fr + i + 1 = fr + (i + 1) by omega]; exact g1⟩

def rvalid : List RK → Bool
  | [] => true
  | .d false t :: ks => decide (t.n = 1) && rvalid ks
  | _ :: ks => rvalid ks

theorem rwf_of {x : Rx} : ∀ (ks : List RK) (z : rdens ks) (i j : Nat) (vs : List Value), rvalid ks = true → (∀ q v, (q, v) ∈ rslots i j ks z → repA x v (vs.getD q undef)) → (∀ p ∈ rheap j ks z, repB x p.1 p.2) → rwf ks z
  | [], _, _, _, _, _, _, _ => trivial
  | k :: ks, z, i, j, vs, hv, hr, hb => by
    have h0 := hr i (rav j k z.1) (by simp [rslots])
    have rest : rvalid ks = true → rwf ks z.2 := fun hv' => rwf_of ks z.2 (i + 1) (j + 1) vs hv' (fun q v hq => hr q v (by simp [rslots, hq])) (fun p hp => hb p (by simp only [rheap]; cases rblk k z.1 <;> simp [hp]))
    cases k with
    | d ag t =>
      simp only [rav, avOf] at h0
      cases ag with
      | true =>
        simp only [if_true] at h0
        unfold repA at h0
        obtain ⟨us, _, h1⟩ := h0
        exact ⟨ro_wf t _ us (rep_ro t _ us h1), rest hv⟩
      | false =>
        simp only [rvalid, Bool.and_eq_true, decide_eq_true_eq] at hv
        have hl := expl_len t z.1
        rw [hv.1] at hl
        match hx : expl t z.1, hl with
        | [c], _ =>
          simp only [hx, Bool.false_eq_true, if_false] at h0
          unfold repA at h0
          exact ⟨ro_wf t _ [vs.getD i undef] (rep_ro t _ _ (by rw [hx]; exact repCs_cons.2 ⟨_, _, rfl, h0, repCs_nil.2 rfl⟩)), rest hv.2⟩
    | o e t =>
      have := hb (j, .row e t z.1) (by simp [rheap, rblk])
      obtain ⟨n, fl, e1, e2, e3⟩ := this
      refine ⟨⟨?_, fun y hy => ?_⟩, rest hv⟩
      · rcases e2.2 with ⟨g2, _⟩ | ⟨g, cap, cur, _, g1, g2, g3, g4, _⟩
        · show List.length z.1 ≤ _; rw [← e1, g2]; simp [maxLen]
        · show List.length z.1 ≤ _; omega
      · obtain ⟨c, hc⟩ := roAll_mem _ _ e3 y hy
        exact ro_wf t y c hc
    | p e t =>
      have := hb (j, .cells e (expl t z.1)) (by simp [rheap, rblk])
      obtain ⟨b, us, _, _, h1, _⟩ := this
      exact ⟨ro_wf t _ us (rep_ro t _ us h1), rest hv⟩
    | mp => exact ⟨trivial, rest hv⟩

end
end Go.Ev
